/- ChannelPolynomials returns true. -/
import Derived.Test.YtlfmnaepcndhiaaPolyC
namespace Go.Proofs.Ytlfmnaepcndhiaa
open Go.RowKit Go.ChangeShapes Go.WideShapes Go.ChangeAt

set_option maxRecDepth 100000 in
set_option maxHeartbeats 16000000 in
theorem channelPolynomials_any (T T' : Option Addr) (m c m' c' : Nat) (ln ld ln' ld' : Nat → Nat) (a b : Nat → Rat) (s : Bool) (A A2 : Option Addr) (n cx1 n2 cx2 : Nat) (x : Rat) (w : World) (h : PolyArg w T m ln ld a) (h' : PolyArg w T' m' ln' ld' b) (hx : ∀ N, n ≤ N → n2 ≤ N → RatRaw w w.heap.size (.agg #[.bool s, .slice A n cx1, .slice A2 n2 cx2]) x N) (hmx : m ≤ 4398046511104) (hmx' : m' ≤ 4398046511104) :
    Calls Try.prog 4 #[.slice T m c, .slice T' m' c', .agg #[.bool s, .slice A n cx1, .slice A2 n2 cx2]] w fun e w' => e = .returned (.bool true) ∧ Below w.heap.size w w' := by
  have hB := below_one w (.cells #[.bool s, .slice A n cx1, .slice A2 n2 cx2] 32)
  have ra := box_row (w := w) (a := .bool s) (b := .slice A n cx1) (c := .slice A2 n2 cx2) (T := 32)
  obtain ⟨w0, hw0⟩ : ∃ W, W = (w.alloc (.cells #[.bool s, .slice A n cx1, .slice A2 n2 cx2] 32)) := ⟨_, rfl⟩
  rw [← hw0] at ra hB
  have hHX := hid hx
  clear hx
  have hm0 : (0 : Int) ≤ (m : Int) := by omega
  have hm0' : (0 : Int) ≤ (m' : Int) := by omega
  by_cases hbig : 24 < m + m'
  · have hbig' : (24 : Int) < (m : Int) + (m' : Int) := by omega
    clear h h'
    go_enter Try.func4, Try.ntmps4
    go_wp2
    rw [← hw0]
    go_ret
    exact ⟨rfl, hB⟩
  · cases h1 : shortsB ln ld m
    · have hbig' : (m : Int) + (m' : Int) ≤ 24 := by omega
      have H1 := hid h1
      clear h1
      go_enter Try.func4, Try.ntmps4
      go_upto_region 1 with fail
      rw [← hw0]
      clear hw0
      go_wp2_with fail
      refine (lawShorts_is false T m c ln ld _ (h.1.on hB) (by omega) H1).mono ?_
      rintro e w1 ⟨rfl, kb⟩
      replace ra := rowIs_on ra kb
      replace hB := onS hB kb
      clear kb
      go_wp2
      go_ret
      exact ⟨rfl, hB⟩
    · cases h2 : shortsB ln' ld' m'
      · have hbig' : (m : Int) + (m' : Int) ≤ 24 := by omega
        have H1 := hid h1
        have H2 := hid h2
        clear h1 h2
        go_enter Try.func4, Try.ntmps4
        go_upto_region 1 with fail
        rw [← hw0]
        clear hw0
        go_wp2_with fail
        refine (lawShorts_is true T m c ln ld _ (h.1.on hB) (by omega) H1).mono ?_
        rintro e w1 ⟨rfl, kb⟩
        replace ra := rowIs_on ra kb
        replace hB := onS hB kb
        clear kb
        go_wp2_with fail
        refine (lawShorts_is false T' m' c' ln' ld' _ (h'.1.on hB) (by omega) H2).mono ?_
        rintro e w2 ⟨rfl, kb⟩
        replace ra := rowIs_on ra kb
        replace hB := onS hB kb
        clear kb
        go_wp2
        go_ret
        exact ⟨rfl, hB⟩
      · cases h3 : (decide (n ≤ 4) && decide (n2 ≤ 4))
        · have hbig' : (m : Int) + (m' : Int) ≤ 24 := by omega
          have H1 := hid h1
          have H2 := hid h2
          have H3 := hid h3
          clear h1 h2 h3
          go_enter Try.func4, Try.ntmps4
          go_upto_region 1 with fail
          rw [← hw0]
          clear hw0
          go_wp2_with fail
          refine (lawShorts_is true T m c ln ld _ (h.1.on hB) (by omega) H1).mono ?_
          rintro e w1 ⟨rfl, kb⟩
          replace ra := rowIs_on ra kb
          replace hB := onS hB kb
          clear kb
          go_wp2_with fail
          refine (lawShorts_is true T' m' c' ln' ld' _ (h'.1.on hB) (by omega) H2).mono ?_
          rintro e w2 ⟨rfl, kb⟩
          replace ra := rowIs_on ra kb
          replace hB := onS hB kb
          clear kb
          have e0 : w2.cell? ⟨w.heap.size, 0, none⟩ = some (.bool (s)) := ra.cell (i := 0) (by omega)
          have e1 : w2.cell? ⟨w.heap.size, 1, none⟩ = some (.slice (A) (n) (cx1)) := ra.cell (i := 1) (by omega)
          have e2 : w2.cell? ⟨w.heap.size, 2, none⟩ = some (.slice (A2) (n2) (cx2)) := ra.cell (i := 2) (by omega)
          go_wp2_with fail
          refine (lawShort_is false s A A2 n cx1 n2 cx2 _ H3).mono ?_
          rintro e w3 ⟨rfl, kb⟩
          replace ra := rowIs_on ra kb
          replace hB := onS hB kb
          clear kb
          clear e0 e1 e2
          go_wp2
          go_ret
          exact ⟨rfl, hB⟩
        · have hbig' : (m : Int) + (m' : Int) ≤ 24 := by omega
          have H1 := hid h1
          have H2 := hid h2
          have H3 := hid h3
          have ht := h.2 4 (fun i hi => shortsB_true h1 i hi)
          have ht' := h'.2 4 (fun i hi => shortsB_true h2 i hi)
          have hnn : n ≤ 4 ∧ n2 ≤ 4 := by simpa using h3
          have hx := hHX.out 4 hnn.1 hnn.2
          have hra := hid (ht.rsz (by omega))
          have hrb := hid (ht'.rsz (by omega))
          have hrx := hx.rsz (by omega)
          have hfa : Hid (EvalFits a m x 4000) := evalFits hra.out hrx (by have h1 : m * 4 ≤ 24 * 4 := Nat.mul_le_mul_right 4 (by omega); have : m * (m * 4 + 4 + 4 + 3) ≤ 24 * (24 * 4 + 4 + 4 + 3) := Nat.mul_le_mul (by omega) (by omega); omega) (by omega)
          have hfb : Hid (EvalFits b m' x 4000) := evalFits hrb.out hrx (by have h1 : m' * 4 ≤ 24 * 4 := Nat.mul_le_mul_right 4 (by omega); have : m' * (m' * 4 + 4 + 4 + 3) ≤ 24 * (24 * 4 + 4 + 4 + 3) := Nat.mul_le_mul (by omega) (by omega); omega) (by omega)
          have hm24 : m ≤ 24 := by omega
          have hm24' : m' ≤ 24 := by omega
          have hmul9 : m * (4 + 4 + 1) ≤ 216 := by omega
          clear h1 h2 h3 hnn
          go_enter Try.func4, Try.ntmps4
          go_upto_region 1 with fail
          rw [← hw0]
          clear hw0
          go_wp2_with fail
          refine (lawShorts_is true T m c ln ld _ (h.1.on hB) (by omega) H1).mono ?_
          rintro e w1 ⟨rfl, kb⟩
          replace ra := rowIs_on ra kb
          replace hB := onS hB kb
          clear kb
          go_wp2_with fail
          refine (lawShorts_is true T' m' c' ln' ld' _ (h'.1.on hB) (by omega) H2).mono ?_
          rintro e w2 ⟨rfl, kb⟩
          replace ra := rowIs_on ra kb
          replace hB := onS hB kb
          clear kb
          have e0 : w2.cell? ⟨w.heap.size, 0, none⟩ = some (.bool (s)) := ra.cell (i := 0) (by omega)
          have e1 : w2.cell? ⟨w.heap.size, 1, none⟩ = some (.slice (A) (n) (cx1)) := ra.cell (i := 1) (by omega)
          have e2 : w2.cell? ⟨w.heap.size, 2, none⟩ = some (.slice (A2) (n2) (cx2)) := ra.cell (i := 2) (by omega)
          go_wp2_with fail
          refine (lawShort_is true s A A2 n cx1 n2 cx2 _ H3).mono ?_
          rintro e w3 ⟨rfl, kb⟩
          replace ra := rowIs_on ra kb
          replace hB := onS hB kb
          clear kb
          clear e0 e1 e2
          clear h h' H1 H2 H3 hHX
          have hSS : Hid (∀ i, i < clen (sumP a m b m') (max m m') → rsz (sumP a m b m' i) 9) := fun i _ => rsz_sumP hra.out hrb.out (by omega)
          have hSP : Hid (∀ i, i < clen (mulP a m b m') (m + m') → rsz (mulP a m b m' i) 217) := fun i _ => (rsz_outP hra.out hrb.out m (Nat.le_refl _) i).mono (by omega)
          have hcs := clen_le (sumP a m b m') (max m m')
          have hcp := clen_le (mulP a m b m') (m + m')
          have hvs := evR_clen (sumP a m b m') x (max m m')
          rw [evR_sumP] at hvs
          have hvp := evR_clen (mulP a m b m') x (m + m')
          rw [evR_mulP] at hvp
          obtain ⟨S, hS⟩ : ∃ S, S = sumP a m b m' := ⟨_, rfl⟩
          obtain ⟨P, hP⟩ : ∃ P, P = mulP a m b m' := ⟨_, rfl⟩
          rw [← hS] at hSS hcs hvs
          rw [← hP] at hSP hcp hvp
          obtain ⟨ns, hns⟩ : ∃ n, n = clen S (max m m') := ⟨_, rfl⟩
          obtain ⟨np, hnp⟩ : ∃ n, n = clen P (m + m') := ⟨_, rfl⟩
          rw [← hns] at hSS hcs hvs
          rw [← hnp] at hSP hcp hvp
          have HAD : Hid (∀ (W : World) (e : Ending) (W' : World), PolyPost (clen (sumP a m b m') (max m m')) (sumP a m b m') W e W' → PolyPost ns S W e W') := fun W e W' hh => by rw [hns, hS]; exact hh
          have HMD : Hid (∀ (W : World) (e : Ending) (W' : World), PolyPost (clen (mulP a m b m') (m + m')) (mulP a m b m') W e W' → PolyPost np P W e W') := fun W e W' hh => by rw [hnp, hP]; exact hh
          have HVS := hid hvs
          have HVP := hid hvp
          have hns24 : ns ≤ 24 := by omega
          have hnp24 : np ≤ 24 := by omega
          clear hvs hvp hS hP hns hnp hcs hcp
          go_upto_region 3 with fail
          have HS : Hid (∀ w' : World, w'.rowIs (w.heap.size) 32 3 (ratCell (.bool (s)) (.slice (A) (n) (cx1)) (.slice (A2) (n2) (cx2))) → w'.cell? ⟨w.heap.size, 0, none⟩ = some (.bool (s)) ∧ w'.cell? ⟨w.heap.size, 1, none⟩ = some (.slice (A) (n) (cx1)) ∧ w'.cell? ⟨w.heap.size, 2, none⟩ = some (.slice (A2) (n2) (cx2))) := fun w' h0 => ⟨h0.cell (i := 0) (by omega), h0.cell (i := 1) (by omega), h0.cell (i := 2) (by omega)⟩
          refine wp_region_held_drew (S := fun w' => w'.cell? ⟨w.heap.size, 0, none⟩ = some (.bool (s)) ∧ w'.cell? ⟨w.heap.size, 1, none⟩ = some (.slice (A) (n) (cx1)) ∧ w'.cell? ⟨w.heap.size, 2, none⟩ = some (.slice (A2) (n2) (cx2))) (by kernel_rfl) (HS.out _ (show World.rowIs (World.drew _) _ _ _ _ from ra)) (fun hHeld => ?_)
          obtain ⟨w4, hw⟩ : ∃ W, W = World.drew w3 := ⟨_, rfl⟩
          have kb : Below w3.heap.size w3 w4 := by rw [hw]; exact (Below.refl _ _).drew
          rw [← hw] at hHeld ⊢
          clear hw
          replace ra := rowIs_on ra kb
          replace hB := onS hB kb
          clear kb
          refine wpAnyH_take (i := 0) (v := ?_) (by simp only [List.getElem?_toArray, List.getElem?_cons_zero]; rfl) (by kernel_rfl) (by kernel_rfl) (by kernel_rfl) (by exact fun _ _ _ h => h) (Or.inl ⟨by rfl, ?_⟩) (by assumption) ?_
          rotate_left
          · (intro w hSw; (try dsimp only at hSw); go_simp); first | done | with_reducible rfl
          try simp only [Act.put, List.setIfInBounds_toArray, List.set_cons_zero, List.set_cons_succ]
          refine wpAnyH_take (i := 1) (v := ?_) (by simp only [List.getElem?_toArray, List.getElem?_cons_succ, List.getElem?_cons_zero]; rfl) (by kernel_rfl) (by kernel_rfl) (by kernel_rfl) (by exact fun _ _ _ h => h) (Or.inl ⟨by rfl, ?_⟩) (by assumption) ?_
          rotate_left
          · (intro w hSw; (try dsimp only at hSw); go_simp); first | done | with_reducible rfl
          try simp only [Act.put, List.setIfInBounds_toArray, List.set_cons_zero, List.set_cons_succ]
          refine wpAnyH_take (i := 3) (v := ?_) (by simp only [List.getElem?_toArray, List.getElem?_cons_succ, List.getElem?_cons_zero]; rfl) (by kernel_rfl) (by kernel_rfl) (by kernel_rfl) (by exact fun _ _ _ h => h) (Or.inl ⟨by rfl, ?_⟩) (by assumption) ?_
          rotate_left
          · (intro w hSw; (try dsimp only at hSw); go_simp); first | done | with_reducible rfl
          try simp only [Act.put, List.setIfInBounds_toArray, List.set_cons_zero, List.set_cons_succ]
          refine wpAnyH_take (i := 4) (v := ?_) (by simp only [List.getElem?_toArray, List.getElem?_cons_succ, List.getElem?_cons_zero]; rfl) (by kernel_rfl) (by kernel_rfl) (by kernel_rfl) (by exact fun _ _ _ h => h) (Or.inl ⟨by rfl, ?_⟩) (by assumption) ?_
          rotate_left
          · (intro w hSw; (try dsimp only at hSw); go_simp); first | done | with_reducible rfl
          try simp only [Act.put, List.setIfInBounds_toArray, List.set_cons_zero, List.set_cons_succ]
          refine wpAnyH_ready (rs := [2]) (by kernel_rfl) (by simp) ?_
          refine AllReadyH.cons (by simp only [List.getElem?_toArray, List.getElem?_cons_succ, List.getElem?_cons_zero]; rfl) (fun K hK => ?_) AllReadyH.nil
          go_simp
          go_wp2_with fail
          refine ((chPAdd_any T T' m c m' c' 4 a b _ (ht.on hB) (ht'.on hB) (by omega) (by omega) (by omega) hra hrb).mono (fun e W' => HAD.out _ e W')).mono ?_
          rintro e w5 ⟨Ta, ca, rfl, la1, la2, la3, kb⟩
          replace ra := rowIs_on ra kb
          replace hB := onS hB kb
          clear kb
          refine hK.out _ _ (HS.out _ ra) (fun hHeld => ?_)
          clear hK K
          try simp only [Act.put, List.setIfInBounds_toArray, List.set_cons_zero, List.set_cons_succ]
          refine wpAnyH_ready (rs := [5]) (by kernel_rfl) (by simp) ?_
          refine AllReadyH.cons (by simp only [List.getElem?_toArray, List.getElem?_cons_succ, List.getElem?_cons_zero]; rfl) (fun K hK => ?_) AllReadyH.nil
          go_simp
          go_wp2_with fail
          refine ((refPAdd_any T T' m c m' c' 4 a b _ (ht.on hB) (ht'.on hB) (by omega) (by omega) (by omega) hra hrb).mono (fun e W' => HAD.out _ e W')).mono ?_
          rintro e w6 ⟨Tb, cb, rfl, lb1, lb2, lb3, kb⟩
          replace ra := rowIs_on ra kb
          replace hB := onS hB kb
          replace la3 := la3.on kb
          clear kb
          refine hK.out _ _ (HS.out _ ra) (fun hHeld => ?_)
          clear hK K
          try simp only [Act.put, List.setIfInBounds_toArray, List.set_cons_zero, List.set_cons_succ]
          refine wpAnyH_ready (rs := [6]) (by kernel_rfl) (by simp) ?_
          refine AllReadyH.cons (by simp only [List.getElem?_toArray, List.getElem?_cons_succ, List.getElem?_cons_zero]; rfl) (fun K hK => ?_) AllReadyH.nil
          go_simp
          go_wp2_with fail
          refine (lawSame_any _ _ ns _ _ 9 S _ la3 lb3 (by omega) (by omega) hSS).mono ?_
          rintro e w7 ⟨rfl, kb⟩
          replace ra := rowIs_on ra kb
          replace hB := onS hB kb
          replace la3 := la3.on kb
          replace lb3 := lb3.on kb
          clear kb
          clear la1 la2 la3
          clear lb1 lb2 lb3
          refine hK.out _ _ (HS.out _ ra) (fun hHeld => ?_)
          clear hK K
          try simp only [Act.put, List.setIfInBounds_toArray, List.set_cons_zero, List.set_cons_succ]
          refine wpAnyH_take (i := 7) (v := ?_) (by simp only [List.getElem?_toArray, List.getElem?_cons_succ, List.getElem?_cons_zero]; rfl) (by kernel_rfl) (by kernel_rfl) (by kernel_rfl) (by exact fun _ _ _ h => h) (Or.inl ⟨by rfl, ?_⟩) (by assumption) ?_
          rotate_left
          · (intro w hSw; (try dsimp only at hSw); go_simp); first | done | with_reducible rfl
          try simp only [Act.put, List.setIfInBounds_toArray, List.set_cons_zero, List.set_cons_succ]
          refine wpAnyH_take (i := 8) (v := ?_) (by simp only [List.getElem?_toArray, List.getElem?_cons_succ, List.getElem?_cons_zero]; rfl) (by kernel_rfl) (by kernel_rfl) (by kernel_rfl) (by exact fun _ _ _ h => h) (Or.inl ⟨by rfl, ?_⟩) (by assumption) ?_
          rotate_left
          · (intro w hSw; (try dsimp only at hSw); go_simp); first | done | with_reducible rfl
          try simp only [Act.put, List.setIfInBounds_toArray, List.set_cons_zero, List.set_cons_succ]
          refine wpAnyH_take (i := 9) (v := ?_) (by simp only [List.getElem?_toArray, List.getElem?_cons_succ, List.getElem?_cons_zero]; rfl) (by kernel_rfl) (by kernel_rfl) (by kernel_rfl) (by exact fun _ _ _ h => h) (Or.inl ⟨by rfl, ?_⟩) (by assumption) ?_
          rotate_left
          · (intro w hSw; (try dsimp only at hSw); go_simp); first | done | with_reducible rfl
          try simp only [Act.put, List.setIfInBounds_toArray, List.set_cons_zero, List.set_cons_succ]
          refine wpAnyH_take (i := 11) (v := ?_) (by simp only [List.getElem?_toArray, List.getElem?_cons_succ, List.getElem?_cons_zero]; rfl) (by kernel_rfl) (by kernel_rfl) (by kernel_rfl) (by exact fun _ _ _ h => h) (Or.inl ⟨by rfl, ?_⟩) (by assumption) ?_
          rotate_left
          · (intro w hSw; (try dsimp only at hSw); go_simp); first | done | with_reducible rfl
          try simp only [Act.put, List.setIfInBounds_toArray, List.set_cons_zero, List.set_cons_succ]
          refine wpAnyH_take (i := 12) (v := ?_) (by simp only [List.getElem?_toArray, List.getElem?_cons_succ, List.getElem?_cons_zero]; rfl) (by kernel_rfl) (by kernel_rfl) (by kernel_rfl) (by exact fun _ _ _ h => h) (Or.inl ⟨by rfl, ?_⟩) (by assumption) ?_
          rotate_left
          · (intro w hSw; (try dsimp only at hSw); go_simp); first | done | with_reducible rfl
          try simp only [Act.put, List.setIfInBounds_toArray, List.set_cons_zero, List.set_cons_succ]
          refine wpAnyH_ready (rs := [10]) (by kernel_rfl) (by simp) ?_
          refine AllReadyH.cons (by simp only [List.getElem?_toArray, List.getElem?_cons_succ, List.getElem?_cons_zero]; rfl) (fun K hK => ?_) AllReadyH.nil
          go_simp
          go_wp2_with fail
          refine ((chPMul_any T T' m c m' c' 4 216 a b _ (ht.on hB) (ht'.on hB) (by omega) (by omega) hmul9 (by omega) hra hrb).mono (fun e W' => HMD.out _ e W')).mono ?_
          rintro e w8 ⟨Ta, ca, rfl, la1, la2, la3, kb⟩
          replace ra := rowIs_on ra kb
          replace hB := onS hB kb
          clear kb
          refine hK.out _ _ (HS.out _ ra) (fun hHeld => ?_)
          clear hK K
          try simp only [Act.put, List.setIfInBounds_toArray, List.set_cons_zero, List.set_cons_succ]
          refine wpAnyH_ready (rs := [13]) (by kernel_rfl) (by simp) ?_
          refine AllReadyH.cons (by simp only [List.getElem?_toArray, List.getElem?_cons_succ, List.getElem?_cons_zero]; rfl) (fun K hK => ?_) AllReadyH.nil
          go_simp
          go_wp2_with fail
          refine ((refPMul_any T T' m c m' c' 4 216 a b _ (ht.on hB) (ht'.on hB) (by omega) (by omega) hmul9 (by omega) hra hrb).mono (fun e W' => HMD.out _ e W')).mono ?_
          rintro e w9 ⟨Tb, cb, rfl, lb1, lb2, lb3, kb⟩
          replace ra := rowIs_on ra kb
          replace hB := onS hB kb
          replace la3 := la3.on kb
          clear kb
          refine hK.out _ _ (HS.out _ ra) (fun hHeld => ?_)
          clear hK K
          try simp only [Act.put, List.setIfInBounds_toArray, List.set_cons_zero, List.set_cons_succ]
          refine wpAnyH_ready (rs := [14]) (by kernel_rfl) (by simp) ?_
          refine AllReadyH.cons (by simp only [List.getElem?_toArray, List.getElem?_cons_succ, List.getElem?_cons_zero]; rfl) (fun K hK => ?_) AllReadyH.nil
          go_simp
          go_wp2_with fail
          refine (lawSame_any _ _ np _ _ 217 P _ la3 lb3 (by omega) (by omega) hSP).mono ?_
          rintro e w10 ⟨rfl, kb⟩
          replace ra := rowIs_on ra kb
          replace hB := onS hB kb
          replace la3 := la3.on kb
          replace lb3 := lb3.on kb
          clear kb
          clear la1 la2 la3
          clear lb1 lb2 lb3
          refine hK.out _ _ (HS.out _ ra) (fun hHeld => ?_)
          clear hK K
          try simp only [Act.put, List.setIfInBounds_toArray, List.set_cons_zero, List.set_cons_succ]
          refine wpAnyH_take (i := 15) (v := ?_) (by simp only [List.getElem?_toArray, List.getElem?_cons_succ, List.getElem?_cons_zero]; rfl) (by kernel_rfl) (by kernel_rfl) (by kernel_rfl) (by exact fun _ _ _ h => h) (Or.inl ⟨by rfl, ?_⟩) (by assumption) ?_
          rotate_left
          · (intro w hSw; (try dsimp only at hSw); go_simp); first | done | with_reducible rfl
          try simp only [Act.put, List.setIfInBounds_toArray, List.set_cons_zero, List.set_cons_succ]
          refine wpAnyH_take (i := 16) (v := ?_) (by simp only [List.getElem?_toArray, List.getElem?_cons_succ, List.getElem?_cons_zero]; rfl) (by kernel_rfl) (by kernel_rfl) (by kernel_rfl) (by exact fun _ _ _ h => h) (Or.inl ⟨by rfl, ?_⟩) (by assumption) ?_
          rotate_left
          · (intro w hSw; (try dsimp only at hSw); go_simp); first | done | with_reducible rfl
          try simp only [Act.put, List.setIfInBounds_toArray, List.set_cons_zero, List.set_cons_succ]
          refine wpAnyH_take (i := 17) (v := ?_) (by simp only [List.getElem?_toArray, List.getElem?_cons_succ, List.getElem?_cons_zero]; rfl) (by kernel_rfl) (by kernel_rfl) (by kernel_rfl) (by exact fun _ _ _ h => h) (Or.inl ⟨by rfl, ?_⟩) (by assumption) ?_
          rotate_left
          · (intro w hSw; (try dsimp only at hSw); go_simp); first | done | with_reducible rfl
          try simp only [Act.put, List.setIfInBounds_toArray, List.set_cons_zero, List.set_cons_succ]
          refine wpAnyH_take (i := 18) (v := ?_) (by simp only [List.getElem?_toArray, List.getElem?_cons_succ, List.getElem?_cons_zero]; rfl) (by kernel_rfl) (by kernel_rfl) (by kernel_rfl) (by exact fun _ _ _ h => h) (Or.inl ⟨by rfl, ?_⟩) (by assumption) ?_
          rotate_left
          · (intro w hSw; (try dsimp only at hSw); go_simp); first | done | with_reducible rfl
          try simp only [Act.put, List.setIfInBounds_toArray, List.set_cons_zero, List.set_cons_succ]
          refine wpAnyH_take (i := 20) (v := ?_) (by simp only [List.getElem?_toArray, List.getElem?_cons_succ, List.getElem?_cons_zero]; rfl) (by kernel_rfl) (by kernel_rfl) (by kernel_rfl) (by exact fun _ _ _ h => h) (Or.inl ⟨by rfl, ?_⟩) (by assumption) ?_
          rotate_left
          · (intro w hSw; (try dsimp only at hSw); go_simp); first | done | with_reducible rfl
          try simp only [Act.put, List.setIfInBounds_toArray, List.set_cons_zero, List.set_cons_succ]
          refine wpAnyH_take (i := 21) (v := ?_) (by simp only [List.getElem?_toArray, List.getElem?_cons_succ, List.getElem?_cons_zero]; rfl) (by kernel_rfl) (by kernel_rfl) (by kernel_rfl) (by exact fun _ _ _ h => h) (Or.inl ⟨by rfl, ?_⟩) (by assumption) ?_
          rotate_left
          · (intro w hSw; (try dsimp only at hSw); go_simp); first | done | with_reducible rfl
          try simp only [Act.put, List.setIfInBounds_toArray, List.set_cons_zero, List.set_cons_succ]
          refine wpAnyH_ready (rs := [19]) (by kernel_rfl) (by simp) ?_
          refine AllReadyH.cons (by simp only [List.getElem?_toArray, List.getElem?_cons_succ, List.getElem?_cons_zero]; rfl) (fun K hK => ?_) AllReadyH.nil
          go_simp
          go_wp2_with fail
          refine (chEval_fit ((ht.mono (show 4 ≤ 4000 by omega)).on hB) ((hx.mono (by omega)).on hB) (by omega) (by omega) hfa.out).mono ?_
          rintro e w11 ⟨Ae, ce, Be, de, rfl, me1, me2, me3, me4, me5, me6, kb⟩
          replace ra := rowIs_on ra kb
          replace hB := onS hB kb
          clear kb
          obtain ⟨pe, hp⟩ : ∃ p, p = evR a x m := ⟨_, rfl⟩
          have hse := (hfa.out.low m (Nat.le_refl _)).1
          rw [← hp] at me1 me2 me3 me5 hse ⊢
          have HPe := hid hp
          clear hp
          refine hK.out _ _ (HS.out _ ra) (fun hHeld => ?_)
          clear hK K
          try simp only [Act.put, List.setIfInBounds_toArray, List.set_cons_zero, List.set_cons_succ]
          refine wpAnyH_ready (rs := [22]) (by kernel_rfl) (by simp) ?_
          refine AllReadyH.cons (by simp only [List.getElem?_toArray, List.getElem?_cons_succ, List.getElem?_cons_zero]; rfl) (fun K hK => ?_) AllReadyH.nil
          go_simp
          go_wp2_with fail
          refine (refEval_fit ((ht.mono (show 4 ≤ 4000 by omega)).on hB) ((hx.mono (by omega)).on hB) (by omega) (by omega) hfa.out).mono ?_
          rintro e w12 ⟨Af, cf, Bf, df, rfl, mf1, mf2, mf3, mf4, mf5, mf6, kb⟩
          replace ra := rowIs_on ra kb
          replace hB := onS hB kb
          replace me1 := me1.on kb
          replace me2 := me2.on kb
          clear kb
          obtain ⟨pf, hp⟩ : ∃ p, p = evR a x m := ⟨_, rfl⟩
          have hsf := (hfa.out.low m (Nat.le_refl _)).1
          rw [← hp] at mf1 mf2 mf3 mf5 hsf ⊢
          have HPf := hid hp
          clear hp
          refine hK.out _ _ (HS.out _ ra) (fun hHeld => ?_)
          clear hK K
          try simp only [Act.put, List.setIfInBounds_toArray, List.set_cons_zero, List.set_cons_succ]
          refine wpAnyH_ready (rs := [23]) (by kernel_rfl) (by simp) ?_
          refine AllReadyH.cons (by simp only [List.getElem?_toArray, List.getElem?_cons_succ, List.getElem?_cons_zero]; rfl) (fun K hK => ?_) AllReadyH.nil
          go_simp
          go_wp2_with fail
          have hpp : pf = pe := by rw [HPf.out, HPe.out]
          rw [hpp] at mf1 mf2 mf3 mf5 ⊢
          clear hpp hsf HPf
          refine (refSame02_any _ _ _ _ _ _ _ _ pe 4000 _ me1 me2 mf1 mf2 (by omega) hse).mono ?_
          rintro e w13 ⟨rfl, kb⟩
          replace ra := rowIs_on ra kb
          replace hB := onS hB kb
          replace me1 := me1.on kb
          replace me2 := me2.on kb
          replace mf1 := mf1.on kb
          replace mf2 := mf2.on kb
          clear kb
          clear me1 me2 me3 me4 me5 me6
          clear mf1 mf2 mf3 mf4 mf5 mf6
          clear hse HPe
          refine hK.out _ _ (HS.out _ ra) (fun hHeld => ?_)
          clear hK K
          try simp only [Act.put, List.setIfInBounds_toArray, List.set_cons_zero, List.set_cons_succ]
          refine wpAnyH_take (i := 24) (v := ?_) (by simp only [List.getElem?_toArray, List.getElem?_cons_succ, List.getElem?_cons_zero]; rfl) (by kernel_rfl) (by kernel_rfl) (by kernel_rfl) (by exact fun _ _ _ h => h) (Or.inl ⟨by rfl, ?_⟩) (by assumption) ?_
          rotate_left
          · (intro w hSw; (try dsimp only at hSw); go_simp); first | done | with_reducible rfl
          try simp only [Act.put, List.setIfInBounds_toArray, List.set_cons_zero, List.set_cons_succ]
          refine wpAnyH_take (i := 25) (v := ?_) (by simp only [List.getElem?_toArray, List.getElem?_cons_succ, List.getElem?_cons_zero]; rfl) (by kernel_rfl) (by kernel_rfl) (by kernel_rfl) (by exact fun _ _ _ h => h) (Or.inl ⟨by rfl, ?_⟩) (by assumption) ?_
          rotate_left
          · (intro w hSw; (try dsimp only at hSw); go_simp); first | done | with_reducible rfl
          try simp only [Act.put, List.setIfInBounds_toArray, List.set_cons_zero, List.set_cons_succ]
          refine wpAnyH_take (i := 26) (v := ?_) (by simp only [List.getElem?_toArray, List.getElem?_cons_succ, List.getElem?_cons_zero]; rfl) (by kernel_rfl) (by kernel_rfl) (by kernel_rfl) (by exact fun _ _ _ h => h) (Or.inl ⟨by rfl, ?_⟩) (by assumption) ?_
          rotate_left
          · (intro w hSw; (try dsimp only at hSw); go_simp); first | done | with_reducible rfl
          try simp only [Act.put, List.setIfInBounds_toArray, List.set_cons_zero, List.set_cons_succ]
          refine wpAnyH_take (i := 27) (v := ?_) (by simp only [List.getElem?_toArray, List.getElem?_cons_succ, List.getElem?_cons_zero]; rfl) (by kernel_rfl) (by kernel_rfl) (by kernel_rfl) (by exact fun _ _ _ h => h) (Or.inl ⟨by rfl, ?_⟩) (by assumption) ?_
          rotate_left
          · (intro w hSw; (try dsimp only at hSw); go_simp); first | done | with_reducible rfl
          try simp only [Act.put, List.setIfInBounds_toArray, List.set_cons_zero, List.set_cons_succ]
          refine wpAnyH_take (i := 28) (v := ?_) (by simp only [List.getElem?_toArray, List.getElem?_cons_succ, List.getElem?_cons_zero]; rfl) (by kernel_rfl) (by kernel_rfl) (by kernel_rfl) (by exact fun _ _ _ h => h) (Or.inl ⟨by rfl, ?_⟩) (by assumption) ?_
          rotate_left
          · (intro w hSw; (try dsimp only at hSw); go_simp); first | done | with_reducible rfl
          try simp only [Act.put, List.setIfInBounds_toArray, List.set_cons_zero, List.set_cons_succ]
          refine wpAnyH_take (i := 30) (v := ?_) (by simp only [List.getElem?_toArray, List.getElem?_cons_succ, List.getElem?_cons_zero]; rfl) (by kernel_rfl) (by kernel_rfl) (by kernel_rfl) (by exact fun _ _ _ h => h) (Or.inl ⟨by rfl, ?_⟩) (by assumption) ?_
          rotate_left
          · (intro w hSw; (try dsimp only at hSw); go_simp); first | done | with_reducible rfl
          try simp only [Act.put, List.setIfInBounds_toArray, List.set_cons_zero, List.set_cons_succ]
          refine wpAnyH_take (i := 31) (v := ?_) (by simp only [List.getElem?_toArray, List.getElem?_cons_succ, List.getElem?_cons_zero]; rfl) (by kernel_rfl) (by kernel_rfl) (by kernel_rfl) (by exact fun _ _ _ h => h) (Or.inl ⟨by rfl, ?_⟩) (by assumption) ?_
          rotate_left
          · (intro w hSw; (try dsimp only at hSw); go_simp); first | done | with_reducible rfl
          try simp only [Act.put, List.setIfInBounds_toArray, List.set_cons_zero, List.set_cons_succ]
          refine wpAnyH_take (i := 33) (v := ?_) (by simp only [List.getElem?_toArray, List.getElem?_cons_succ, List.getElem?_cons_zero]; rfl) (by kernel_rfl) (by kernel_rfl) (by kernel_rfl) (by exact fun _ _ _ h => h) (Or.inl ⟨by rfl, ?_⟩) (by assumption) ?_
          rotate_left
          · (intro w hSw; (try dsimp only at hSw); go_simp); first | done | with_reducible rfl
          try simp only [Act.put, List.setIfInBounds_toArray, List.set_cons_zero, List.set_cons_succ]
          refine wpAnyH_take (i := 34) (v := ?_) (by simp only [List.getElem?_toArray, List.getElem?_cons_succ, List.getElem?_cons_zero]; rfl) (by kernel_rfl) (by kernel_rfl) (by kernel_rfl) (by exact fun _ _ _ h => h) (Or.inl ⟨by rfl, ?_⟩) (by assumption) ?_
          rotate_left
          · (intro w hSw; (try dsimp only at hSw); go_simp); first | done | with_reducible rfl
          try simp only [Act.put, List.setIfInBounds_toArray, List.set_cons_zero, List.set_cons_succ]
          refine wpAnyH_ready (rs := [29]) (by kernel_rfl) (by simp) ?_
          refine AllReadyH.cons (by simp only [List.getElem?_toArray, List.getElem?_cons_succ, List.getElem?_cons_zero]; rfl) (fun K hK => ?_) AllReadyH.nil
          go_simp
          go_wp2_with fail
          refine (chCompare_fit ((ht.mono (show 4 ≤ 4000 by omega)).on hB) ((ht'.mono (show 4 ≤ 4000 by omega)).on hB) ((hx.mono (by omega)).on hB) (by omega) (by omega) (by omega) hfa.out hfb.out).mono ?_
          rintro e w14 ⟨rfl, kb⟩
          replace ra := rowIs_on ra kb
          replace hB := onS hB kb
          clear kb
          obtain ⟨sg, hsg⟩ : ∃ z, z = rsign (evR a x m - evR b x m') := ⟨_, rfl⟩
          rw [← hsg]
          have HSG := hid hsg
          clear hsg
          refine hK.out _ _ (HS.out _ ra) (fun hHeld => ?_)
          clear hK K
          try simp only [Act.put, List.setIfInBounds_toArray, List.set_cons_zero, List.set_cons_succ]
          refine wpAnyH_ready (rs := [32]) (by kernel_rfl) (by simp) ?_
          refine AllReadyH.cons (by simp only [List.getElem?_toArray, List.getElem?_cons_succ, List.getElem?_cons_zero]; rfl) (fun K hK => ?_) AllReadyH.nil
          go_simp
          go_wp2_with fail
          refine (refEval_fit ((ht.mono (show 4 ≤ 4000 by omega)).on hB) ((hx.mono (by omega)).on hB) (by omega) (by omega) hfa.out).mono ?_
          rintro e w15 ⟨Ae, ce, Be, de, rfl, me1, me2, me3, me4, me5, me6, kb⟩
          replace ra := rowIs_on ra kb
          replace hB := onS hB kb
          clear kb
          obtain ⟨pe, hp⟩ : ∃ p, p = evR a x m := ⟨_, rfl⟩
          have hse := (hfa.out.low m (Nat.le_refl _)).1
          rw [← hp] at me1 me2 me3 me5 hse ⊢
          have HPe := hid hp
          clear hp
          refine hK.out _ _ (HS.out _ ra) (fun hHeld => ?_)
          clear hK K
          try simp only [Act.put, List.setIfInBounds_toArray, List.set_cons_zero, List.set_cons_succ]
          refine wpAnyH_ready (rs := [35]) (by kernel_rfl) (by simp) ?_
          refine AllReadyH.cons (by simp only [List.getElem?_toArray, List.getElem?_cons_succ, List.getElem?_cons_zero]; rfl) (fun K hK => ?_) AllReadyH.nil
          go_simp
          go_wp2_with fail
          refine (refEval_fit ((ht'.mono (show 4 ≤ 4000 by omega)).on hB) ((hx.mono (by omega)).on hB) (by omega) (by omega) hfb.out).mono ?_
          rintro e w16 ⟨Af, cf, Bf, df, rfl, mf1, mf2, mf3, mf4, mf5, mf6, kb⟩
          replace ra := rowIs_on ra kb
          replace hB := onS hB kb
          replace me1 := me1.on kb
          replace me2 := me2.on kb
          clear kb
          obtain ⟨pf, hp⟩ : ∃ p, p = evR b x m' := ⟨_, rfl⟩
          have hsf := (hfb.out.low m' (Nat.le_refl _)).1
          rw [← hp] at mf1 mf2 mf3 mf5 hsf ⊢
          have HPf := hid hp
          clear hp
          refine hK.out _ _ (HS.out _ ra) (fun hHeld => ?_)
          clear hK K
          try simp only [Act.put, List.setIfInBounds_toArray, List.set_cons_zero, List.set_cons_succ]
          refine wpAnyH_ready (rs := [36]) (by kernel_rfl) (by simp) ?_
          refine AllReadyH.cons (by simp only [List.getElem?_toArray, List.getElem?_cons_succ, List.getElem?_cons_zero]; rfl) (fun K hK => ?_) AllReadyH.nil
          go_simp
          go_wp2_with fail
          refine (refCmp02_any _ _ pe pf 4000 _ (ratPost_raw me1 me2 me3 me4 me5 me6 hse) (ratPost_raw mf1 mf2 mf3 mf4 mf5 mf6 hsf) (by omega) hse hsf).mono ?_
          rintro e w17 ⟨rfl, kb⟩
          replace ra := rowIs_on ra kb
          replace hB := onS hB kb
          replace me1 := me1.on kb
          replace me2 := me2.on kb
          replace mf1 := mf1.on kb
          replace mf2 := mf2.on kb
          clear kb
          have hpp : rsign (pe - pf) = sg := by rw [HPe.out, HPf.out, HSG.out]
          rw [hpp]
          clear hpp HPe HPf HSG hse hsf
          clear me1 me2 me3 me4 me5 me6
          clear mf1 mf2 mf3 mf4 mf5 mf6
          refine hK.out _ _ (HS.out _ ra) (fun hHeld => ?_)
          clear hK K
          try simp only [Act.put, List.setIfInBounds_toArray, List.set_cons_zero, List.set_cons_succ]
          refine wpAnyH_take (i := 37) (v := ?_) (by simp only [List.getElem?_toArray, List.getElem?_cons_succ, List.getElem?_cons_zero]; rfl) (by kernel_rfl) (by kernel_rfl) (by kernel_rfl) (by exact fun _ _ _ h => h) (Or.inl ⟨by rfl, ?_⟩) (by assumption) ?_
          rotate_left
          · (intro w hSw; (try dsimp only at hSw); go_simp); first | done | with_reducible rfl
          try simp only [Act.put, List.setIfInBounds_toArray, List.set_cons_zero, List.set_cons_succ]
          refine wpAnyH_take (i := 38) (v := ?_) (by simp only [List.getElem?_toArray, List.getElem?_cons_succ, List.getElem?_cons_zero]; rfl) (by kernel_rfl) (by kernel_rfl) (by kernel_rfl) (by exact fun _ _ _ h => h) (Or.inl ⟨by rfl, ?_⟩) (by assumption) ?_
          rotate_left
          · (intro w hSw; (try dsimp only at hSw); go_simp); first | done | with_reducible rfl
          try simp only [Act.put, List.setIfInBounds_toArray, List.set_cons_zero, List.set_cons_succ]
          refine wpAnyH_take (i := 39) (v := ?_) (by simp only [List.getElem?_toArray, List.getElem?_cons_succ, List.getElem?_cons_zero]; rfl) (by kernel_rfl) (by kernel_rfl) (by kernel_rfl) (by exact fun _ _ _ h => h) (Or.inl ⟨by rfl, ?_⟩) (by assumption) ?_
          rotate_left
          · (intro w hSw; (try dsimp only at hSw); go_simp); first | done | with_reducible rfl
          try simp only [Act.put, List.setIfInBounds_toArray, List.set_cons_zero, List.set_cons_succ]
          refine wpAnyH_done (by kernel_rfl) ?_ _
          clear hHeld
          go_wp2
          go_ret
          exact ⟨rfl, hB⟩
theorem channelPolynomials_law {H : Type} {enc : TypeId × Value → H} {w : World} {T T' : Option Addr} {m c m' c' : Nat} {cs : Array Value}
    (h : Sees enc Try.prog w 0 (fun _ => true) true 22 [.slice T m c]) (h' : Sees enc Try.prog w 0 (fun _ => true) true 22 [.slice T' m' c']) (hx : Sees enc Try.prog w 0 (fun _ => true) true 32 cs.toList) (z0 : c * 56 ≤ 140737488351232) (z1 : c' * 56 ≤ 140737488351232) :
    Calls Try.prog 4 #[.slice T m c, .slice T' m' c', .agg cs] w fun e w' => e = .returned (.bool true) ∧ Below w.heap.size w w' := by
  obtain ⟨cs⟩ := cs
  obtain ⟨S, n, d, ln, ld, rs, e, h1, h2, h3⟩ := sees_rats h
  simp only [List.cons.injEq, Value.slice.injEq, and_true] at e
  obtain ⟨rfl, rfl, rfl⟩ := e
  obtain ⟨S', n', d', ln', ld', rs', e, h1', h2', h3'⟩ := sees_rats h'
  simp only [List.cons.injEq, Value.slice.injEq, and_true] at e
  obtain ⟨rfl, rfl, rfl⟩ := e
  obtain ⟨s, A, k, cx, A2, k2, cx2, r, rfl, h4⟩ := sees_rat hx
  exact channelPolynomials_any T T' m c m' c' ln ld ln' ld' rs rs' s A A2 k cx k2 cx2 r w h3 h3' h4 (by omega) (by omega)

end Go.Proofs.Ytlfmnaepcndhiaa
