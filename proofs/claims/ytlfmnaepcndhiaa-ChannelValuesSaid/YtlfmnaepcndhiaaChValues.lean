/- ChannelValues returns true. -/
import Derived.Test.YtlfmnaepcndhiaaPolyC
import Derived.Deep.DeepCutAuto
namespace Go.Proofs.Ytlfmnaepcndhiaa
open Go.RowKit Go.ChangeShapes Go.WideShapes Go.ChangeAt

set_option maxRecDepth 100000 in
set_option maxHeartbeats 16000000 in
theorem channelValues_any (T T' : Option Addr) (m c m' c' : Nat) (ln ld ln' ld' : Nat → Nat) (a b : Nat → Rat) (s : Bool) (A A2 : Option Addr) (n cx1 n2 cx2 : Nat) (x : Rat) (w : World) (h : PolyArg w T m ln ld a) (h' : PolyArg w T' m' ln' ld' b) (hx : ∀ N, n ≤ N → n2 ≤ N → RatRaw w w.heap.size (.agg #[.bool s, .slice A n cx1, .slice A2 n2 cx2]) x N) (hmx : m ≤ 4398046511104) (hmx' : m' ≤ 4398046511104) :
    Calls Try.prog 5 #[.slice T m c, .slice T' m' c', .agg #[.bool s, .slice A n cx1, .slice A2 n2 cx2]] w fun e w' => e = .returned (.bool true) ∧ Below w.heap.size w w' := by
  have hB := below_one w (.cells #[.bool s, .slice A n cx1, .slice A2 n2 cx2] 32)
  have ra := box_row (w := w) (a := .bool s) (b := .slice A n cx1) (c := .slice A2 n2 cx2) (T := 32)
  obtain ⟨w0, hw0⟩ : ∃ W, W = (w.alloc (.cells #[.bool s, .slice A n cx1, .slice A2 n2 cx2] 32)) := ⟨_, rfl⟩
  rw [← hw0] at ra hB
  have hHX := hid hx
  clear hx
  have hm0 : (0 : Int) ≤ (m : Int) := by omega
  have hm0' : (0 : Int) ≤ (m' : Int) := by omega
  by_cases hbig : 24 < m + m'
  · have hbig' : (24 : Int) < (m : Int) + (m' : Int) := by omega
    clear h h'
    go_enter Try.func5, Try.ntmps5
    go_wp2
    rw [← hw0]
    go_ret
    exact ⟨rfl, hB⟩
  · cases h1 : shortsB ln ld m
    · have hbig' : (m : Int) + (m' : Int) ≤ 24 := by omega
      have H1 := hid h1
      clear h1
      go_enter Try.func5, Try.ntmps5
      go_upto_region 1 with fail
      rw [← hw0]
      clear hw0
      go_wp2_with fail
      refine (lawShorts_is false T m c ln ld _ (h.1.on hB) (by omega) H1).mono ?_
      rintro e w1 ⟨rfl, kb⟩
      replace ra := rowIs_on ra kb
      replace hB := onS hB kb
      clear kb
      go_wp2
      go_ret
      exact ⟨rfl, hB⟩
    · cases h2 : shortsB ln' ld' m'
      · have hbig' : (m : Int) + (m' : Int) ≤ 24 := by omega
        have H1 := hid h1
        have H2 := hid h2
        clear h1 h2
        go_enter Try.func5, Try.ntmps5
        go_upto_region 1 with fail
        rw [← hw0]
        clear hw0
        go_wp2_with fail
        refine (lawShorts_is true T m c ln ld _ (h.1.on hB) (by omega) H1).mono ?_
        rintro e w1 ⟨rfl, kb⟩
        replace ra := rowIs_on ra kb
        replace hB := onS hB kb
        clear kb
        go_wp2_with fail
        refine (lawShorts_is false T' m' c' ln' ld' _ (h'.1.on hB) (by omega) H2).mono ?_
        rintro e w2 ⟨rfl, kb⟩
        replace ra := rowIs_on ra kb
        replace hB := onS hB kb
        clear kb
        go_wp2
        go_ret
        exact ⟨rfl, hB⟩
      · cases h3 : (decide (n ≤ 4) && decide (n2 ≤ 4))
        · have hbig' : (m : Int) + (m' : Int) ≤ 24 := by omega
          have H1 := hid h1
          have H2 := hid h2
          have H3 := hid h3
          clear h1 h2 h3
          go_enter Try.func5, Try.ntmps5
          go_upto_region 1 with fail
          rw [← hw0]
          clear hw0
          go_wp2_with fail
          refine (lawShorts_is true T m c ln ld _ (h.1.on hB) (by omega) H1).mono ?_
          rintro e w1 ⟨rfl, kb⟩
          replace ra := rowIs_on ra kb
          replace hB := onS hB kb
          clear kb
          go_wp2_with fail
          refine (lawShorts_is true T' m' c' ln' ld' _ (h'.1.on hB) (by omega) H2).mono ?_
          rintro e w2 ⟨rfl, kb⟩
          replace ra := rowIs_on ra kb
          replace hB := onS hB kb
          clear kb
          have e0 : w2.cell? ⟨w.heap.size, 0, none⟩ = some (.bool (s)) := ra.cell (i := 0) (by omega)
          have e1 : w2.cell? ⟨w.heap.size, 1, none⟩ = some (.slice (A) (n) (cx1)) := ra.cell (i := 1) (by omega)
          have e2 : w2.cell? ⟨w.heap.size, 2, none⟩ = some (.slice (A2) (n2) (cx2)) := ra.cell (i := 2) (by omega)
          go_wp2_with fail
          refine (lawShort_is false s A A2 n cx1 n2 cx2 _ H3).mono ?_
          rintro e w3 ⟨rfl, kb⟩
          replace ra := rowIs_on ra kb
          replace hB := onS hB kb
          clear kb
          clear e0 e1 e2
          go_wp2
          go_ret
          exact ⟨rfl, hB⟩
        · have hbig' : (m : Int) + (m' : Int) ≤ 24 := by omega
          have H1 := hid h1
          have H2 := hid h2
          have H3 := hid h3
          have ht := h.2 4 (fun i hi => shortsB_true h1 i hi)
          have ht' := h'.2 4 (fun i hi => shortsB_true h2 i hi)
          have hnn : n ≤ 4 ∧ n2 ≤ 4 := by simpa using h3
          have hx := hHX.out 4 hnn.1 hnn.2
          have hra := hid (ht.rsz (by omega))
          have hrb := hid (ht'.rsz (by omega))
          have hrx := hx.rsz (by omega)
          have hfa : Hid (EvalFits a m x 4000) := evalFits hra.out hrx (by have h1 : m * 4 ≤ 24 * 4 := Nat.mul_le_mul_right 4 (by omega); have : m * (m * 4 + 4 + 4 + 3) ≤ 24 * (24 * 4 + 4 + 4 + 3) := Nat.mul_le_mul (by omega) (by omega); omega) (by omega)
          have hfb : Hid (EvalFits b m' x 4000) := evalFits hrb.out hrx (by have h1 : m' * 4 ≤ 24 * 4 := Nat.mul_le_mul_right 4 (by omega); have : m' * (m' * 4 + 4 + 4 + 3) ≤ 24 * (24 * 4 + 4 + 4 + 3) := Nat.mul_le_mul (by omega) (by omega); omega) (by omega)
          have hm24 : m ≤ 24 := by omega
          have hm24' : m' ≤ 24 := by omega
          have hmul9 : m * (4 + 4 + 1) ≤ 216 := by omega
          clear h1 h2 h3 hnn
          go_enter Try.func5, Try.ntmps5
          go_upto_region 1 with fail
          rw [← hw0]
          clear hw0
          go_wp2_with fail
          refine (lawShorts_is true T m c ln ld _ (h.1.on hB) (by omega) H1).mono ?_
          rintro e w1 ⟨rfl, kb⟩
          replace ra := rowIs_on ra kb
          replace hB := onS hB kb
          clear kb
          go_wp2_with fail
          refine (lawShorts_is true T' m' c' ln' ld' _ (h'.1.on hB) (by omega) H2).mono ?_
          rintro e w2 ⟨rfl, kb⟩
          replace ra := rowIs_on ra kb
          replace hB := onS hB kb
          clear kb
          have e0 : w2.cell? ⟨w.heap.size, 0, none⟩ = some (.bool (s)) := ra.cell (i := 0) (by omega)
          have e1 : w2.cell? ⟨w.heap.size, 1, none⟩ = some (.slice (A) (n) (cx1)) := ra.cell (i := 1) (by omega)
          have e2 : w2.cell? ⟨w.heap.size, 2, none⟩ = some (.slice (A2) (n2) (cx2)) := ra.cell (i := 2) (by omega)
          go_wp2_with fail
          refine (lawShort_is true s A A2 n cx1 n2 cx2 _ H3).mono ?_
          rintro e w3 ⟨rfl, kb⟩
          replace ra := rowIs_on ra kb
          replace hB := onS hB kb
          clear kb
          clear e0 e1 e2
          clear h h' H1 H2 H3 hHX
          have hSS : Hid (∀ i, i < clen (sumP a m b m') (max m m') → rsz (sumP a m b m' i) 9) := fun i _ => rsz_sumP hra.out hrb.out (by omega)
          have hSP : Hid (∀ i, i < clen (mulP a m b m') (m + m') → rsz (mulP a m b m' i) 217) := fun i _ => (rsz_outP hra.out hrb.out m (Nat.le_refl _) i).mono (by omega)
          have hcs := clen_le (sumP a m b m') (max m m')
          have hcp := clen_le (mulP a m b m') (m + m')
          have hvs := evR_clen (sumP a m b m') x (max m m')
          rw [evR_sumP] at hvs
          have hvp := evR_clen (mulP a m b m') x (m + m')
          rw [evR_mulP] at hvp
          obtain ⟨S, hS⟩ : ∃ S, S = sumP a m b m' := ⟨_, rfl⟩
          obtain ⟨P, hP⟩ : ∃ P, P = mulP a m b m' := ⟨_, rfl⟩
          rw [← hS] at hSS hcs hvs
          rw [← hP] at hSP hcp hvp
          obtain ⟨ns, hns⟩ : ∃ n, n = clen S (max m m') := ⟨_, rfl⟩
          obtain ⟨np, hnp⟩ : ∃ n, n = clen P (m + m') := ⟨_, rfl⟩
          rw [← hns] at hSS hcs hvs
          rw [← hnp] at hSP hcp hvp
          have HAD : Hid (∀ (W : World) (e : Ending) (W' : World), PolyPost (clen (sumP a m b m') (max m m')) (sumP a m b m') W e W' → PolyPost ns S W e W') := fun W e W' hh => by rw [hns, hS]; exact hh
          have HMD : Hid (∀ (W : World) (e : Ending) (W' : World), PolyPost (clen (mulP a m b m') (m + m')) (mulP a m b m') W e W' → PolyPost np P W e W') := fun W e W' hh => by rw [hnp, hP]; exact hh
          have HVS := hid hvs
          have HVP := hid hvp
          have hns24 : ns ≤ 24 := by omega
          have hnp24 : np ≤ 24 := by omega
          clear hvs hvp hS hP hns hnp hcs hcp
          have hfS : Hid (EvalFits S ns x 4000) := evalFits hSS.out hrx (by have h1 : ns * 4 ≤ 24 * 4 := Nat.mul_le_mul_right 4 hns24; have : ns * (ns * 4 + 9 + 4 + 3) ≤ 24 * (24 * 4 + 9 + 4 + 3) := Nat.mul_le_mul (by omega) (by omega); omega) (by omega)
          have hfP : Hid (EvalFits P np x 8000) := evalFits hSP.out hrx (by have h1 : np * 4 ≤ 24 * 4 := Nat.mul_le_mul_right 4 hnp24; have : np * (np * 4 + 217 + 4 + 3) ≤ 24 * (24 * 4 + 217 + 4 + 3) := Nat.mul_le_mul (by omega) (by omega); omega) (by omega)
          go_upto_region 3 with fail
          go_cut [7, 8] (fun v7 v8 wx => ∃ g7 g8 Ae ce Be de Af cf Bf df, v7 = .pointer (some ⟨g7, 0, none⟩) ∧ v8 = .pointer (some ⟨g8, 0, none⟩) ∧ dl (evR a x m).num.natAbs ≤ ce ∧ ce ≤ maxLen ∧ dl (evR a x m).den ≤ de ∧ de ≤ maxLen ∧ NatOk wx wx.heap.size Ae (evR a x m).num.natAbs ∧ NatOk wx wx.heap.size Be (evR a x m).den ∧ dl (evR b x m').num.natAbs ≤ cf ∧ cf ≤ maxLen ∧ dl (evR b x m').den ≤ df ∧ df ≤ maxLen ∧ NatOk wx wx.heap.size Af (evR b x m').num.natAbs ∧ NatOk wx wx.heap.size Bf (evR b x m').den ∧ wx.rowIs g7 32 3 (ratCell (.bool (rneg ((evR a x m)))) (.slice (Ae) (dl ((evR a x m)).num.natAbs) (ce)) (.slice (Be) (dl ((evR a x m)).den) (de))) ∧ wx.rowIs g8 32 3 (ratCell (.bool (rneg ((evR b x m')))) (.slice (Af) (dl ((evR b x m')).num.natAbs) (cf)) (.slice (Bf) (dl ((evR b x m')).den) (df))) ∧ wx.rowIs w.heap.size 32 3 (ratCell (.bool (s)) (.slice (A) (n) (cx1)) (.slice (A2) (n2) (cx2))) ∧ Below w.heap.size w wx)
          case first =>
            have HS : Hid (∀ w' : World, w'.rowIs (w.heap.size) 32 3 (ratCell (.bool (s)) (.slice (A) (n) (cx1)) (.slice (A2) (n2) (cx2))) → w'.cell? ⟨w.heap.size, 0, none⟩ = some (.bool (s)) ∧ w'.cell? ⟨w.heap.size, 1, none⟩ = some (.slice (A) (n) (cx1)) ∧ w'.cell? ⟨w.heap.size, 2, none⟩ = some (.slice (A2) (n2) (cx2))) := fun w' h0 => ⟨h0.cell (i := 0) (by omega), h0.cell (i := 1) (by omega), h0.cell (i := 2) (by omega)⟩
            refine wp_region_held_drew (S := fun w' => w'.cell? ⟨w.heap.size, 0, none⟩ = some (.bool (s)) ∧ w'.cell? ⟨w.heap.size, 1, none⟩ = some (.slice (A) (n) (cx1)) ∧ w'.cell? ⟨w.heap.size, 2, none⟩ = some (.slice (A2) (n2) (cx2))) (by kernel_rfl) (HS.out _ (show World.rowIs (World.drew _) _ _ _ _ from ra)) (fun hHeld => ?_)
            obtain ⟨w4, hw⟩ : ∃ W, W = World.drew w3 := ⟨_, rfl⟩
            have kb : Below w3.heap.size w3 w4 := by rw [hw]; exact (Below.refl _ _).drew
            rw [← hw] at hHeld ⊢
            clear hw
            replace ra := rowIs_on ra kb
            replace hB := onS hB kb
            clear kb
            refine wpAnyH_take (i := 0) (v := ?_) (by simp only [List.getElem?_toArray, List.getElem?_cons_zero]; rfl) (by kernel_rfl) (by kernel_rfl) (by kernel_rfl) (by exact fun _ _ _ h => h) (Or.inl ⟨by rfl, ?_⟩) (by assumption) ?_
            rotate_left
            · (intro w hSw; (try dsimp only at hSw); go_simp); first | done | with_reducible rfl
            try simp only [Act.put, List.setIfInBounds_toArray, List.set_cons_zero, List.set_cons_succ]
            refine wpAnyH_take (i := 1) (v := ?_) (by simp only [List.getElem?_toArray, List.getElem?_cons_succ, List.getElem?_cons_zero]; rfl) (by kernel_rfl) (by kernel_rfl) (by kernel_rfl) (by exact fun _ _ _ h => h) (Or.inl ⟨by rfl, ?_⟩) (by assumption) ?_
            rotate_left
            · (intro w hSw; (try dsimp only at hSw); go_simp); first | done | with_reducible rfl
            try simp only [Act.put, List.setIfInBounds_toArray, List.set_cons_zero, List.set_cons_succ]
            refine wpAnyH_take (i := 3) (v := ?_) (by simp only [List.getElem?_toArray, List.getElem?_cons_succ, List.getElem?_cons_zero]; rfl) (by kernel_rfl) (by kernel_rfl) (by kernel_rfl) (by exact fun _ _ _ h => h) (Or.inl ⟨by rfl, ?_⟩) (by assumption) ?_
            rotate_left
            · (intro w hSw; (try dsimp only at hSw); go_simp); first | done | with_reducible rfl
            try simp only [Act.put, List.setIfInBounds_toArray, List.set_cons_zero, List.set_cons_succ]
            refine wpAnyH_take (i := 4) (v := ?_) (by simp only [List.getElem?_toArray, List.getElem?_cons_succ, List.getElem?_cons_zero]; rfl) (by kernel_rfl) (by kernel_rfl) (by kernel_rfl) (by exact fun _ _ _ h => h) (Or.inl ⟨by rfl, ?_⟩) (by assumption) ?_
            rotate_left
            · (intro w hSw; (try dsimp only at hSw); go_simp); first | done | with_reducible rfl
            try simp only [Act.put, List.setIfInBounds_toArray, List.set_cons_zero, List.set_cons_succ]
            refine wpAnyH_ready (rs := [2, 6, 7]) (by kernel_rfl) (by simp) ?_
            refine AllReadyH.cons (by simp only [List.getElem?_toArray, List.getElem?_cons_succ, List.getElem?_cons_zero]; rfl) (fun K hK => ?_) (AllReadyH.cons (by simp only [List.getElem?_toArray, List.getElem?_cons_succ, List.getElem?_cons_zero]; rfl) (fun K hK => ?_) (AllReadyH.cons (by simp only [List.getElem?_toArray, List.getElem?_cons_succ, List.getElem?_cons_zero]; rfl) (fun K hK => ?_) AllReadyH.nil))
            · go_simp
              go_wp2_with fail
              refine (chEval_fit ((ht.mono (show 4 ≤ 4000 by omega)).on hB) ((hx.mono (by omega)).on hB) (by omega) (by omega) hfa.out).mono ?_
              rintro e w5 ⟨Ae, ce, Be, de, rfl, me1, me2, me3, me4, me5, me6, kb⟩
              replace ra := rowIs_on ra kb
              replace hB := onS hB kb
              clear kb
              obtain ⟨pe, hp⟩ : ∃ p, p = evR a x m := ⟨_, rfl⟩
              rw [← hp] at me1 me2 me3 me5 ⊢
              have HPe := hid hp
              clear hp
              refine hK.out _ _ (HS.out _ ra) (fun hHeld => ?_)
              clear hK K
              try simp only [Act.put, List.setIfInBounds_toArray, List.set_cons_zero, List.set_cons_succ]
              refine wpAnyH_ready (rs := [5, 6, 7]) (by kernel_rfl) (by simp) ?_
              refine AllReadyH.cons (by simp only [List.getElem?_toArray, List.getElem?_cons_succ, List.getElem?_cons_zero]; rfl) (fun K hK => ?_) (AllReadyH.cons (by simp only [List.getElem?_toArray, List.getElem?_cons_succ, List.getElem?_cons_zero]; rfl) (fun K hK => ?_) (AllReadyH.cons (by simp only [List.getElem?_toArray, List.getElem?_cons_succ, List.getElem?_cons_zero]; rfl) (fun K hK => ?_) AllReadyH.nil))
              · go_simp
                go_wp2_with fail
                refine (chEval_fit ((ht'.mono (show 4 ≤ 4000 by omega)).on hB) ((hx.mono (by omega)).on hB) (by omega) (by omega) hfb.out).mono ?_
                rintro e w6 ⟨Af, cf, Bf, df, rfl, mf1, mf2, mf3, mf4, mf5, mf6, kb⟩
                replace ra := rowIs_on ra kb
                replace hB := onS hB kb
                replace me1 := me1.on kb
                replace me2 := me2.on kb
                clear kb
                obtain ⟨pf, hp⟩ : ∃ p, p = evR b x m' := ⟨_, rfl⟩
                rw [← hp] at mf1 mf2 mf3 mf5 ⊢
                have HPf := hid hp
                clear hp
                refine hK.out _ _ (HS.out _ ra) (fun hHeld => ?_)
                clear hK K
                try simp only [Act.put, List.setIfInBounds_toArray, List.set_cons_zero, List.set_cons_succ]
                refine wpAnyH_ready (rs := [6, 7]) (by kernel_rfl) (by simp) ?_
                refine AllReadyH.cons (by simp only [List.getElem?_toArray, List.getElem?_cons_succ, List.getElem?_cons_zero]; rfl) (fun K hK => ?_) (AllReadyH.cons (by simp only [List.getElem?_toArray, List.getElem?_cons_succ, List.getElem?_cons_zero]; rfl) (fun K hK => ?_) AllReadyH.nil)
                · go_simp
                  have kb := below_one w6 (.cells #[.bool false, .slice none 0 0, .slice none 0 0] 32)
                  have r7 := box_row (w := w6) (a := .bool false) (b := .slice none 0 0) (c := .slice none 0 0) (T := 32)
                  have hl7ra := ra.lt
                  replace ra := rowIs_on ra kb
                  replace hB := onS hB kb
                  replace me1 := me1.on kb
                  replace me2 := me2.on kb
                  replace mf1 := mf1.on kb
                  replace mf2 := mf2.on kb
                  clear kb
                  obtain ⟨w7, hww⟩ : ∃ W, W = World.alloc w6 (.cells #[.bool false, .slice none 0 0, .slice none 0 0] 32) := ⟨_, rfl⟩
                  rw [← hww] at ra hB me1 me2 mf1 mf2 r7 ⊢
                  obtain ⟨g7, hgg⟩ : ∃ g, g = w6.heap.size := ⟨_, rfl⟩
                  rw [← hgg] at r7 hl7ra ⊢
                  clear hww hgg
                  refine hK.out _ _ (HS.out _ ra) (fun hHeld => ?_)
                  clear hK K
                  try simp only [Act.put, List.setIfInBounds_toArray, List.set_cons_zero, List.set_cons_succ]
                  refine wpAnyH_ready (rs := [7]) (by kernel_rfl) (by simp) ?_
                  refine AllReadyH.cons (by simp only [List.getElem?_toArray, List.getElem?_cons_succ, List.getElem?_cons_zero]; rfl) (fun K hK => ?_) AllReadyH.nil
                  go_simp
                  have kb := below_one w7 (.cells #[.bool false, .slice none 0 0, .slice none 0 0] 32)
                  have r8 := box_row (w := w7) (a := .bool false) (b := .slice none 0 0) (c := .slice none 0 0) (T := 32)
                  have hl8ra := ra.lt
                  have hl8r7 := r7.lt
                  replace ra := rowIs_on ra kb
                  replace hB := onS hB kb
                  replace me1 := me1.on kb
                  replace me2 := me2.on kb
                  replace mf1 := mf1.on kb
                  replace mf2 := mf2.on kb
                  replace r7 := rowIs_on r7 kb
                  clear kb
                  obtain ⟨w8, hww⟩ : ∃ W, W = World.alloc w7 (.cells #[.bool false, .slice none 0 0, .slice none 0 0] 32) := ⟨_, rfl⟩
                  rw [← hww] at ra hB me1 me2 mf1 mf2 r7 r8 ⊢
                  obtain ⟨g8, hgg⟩ : ∃ g, g = w7.heap.size := ⟨_, rfl⟩
                  rw [← hgg] at r8 hl8ra hl8r7 ⊢
                  clear hww hgg
                  refine hK.out _ _ (HS.out _ ra) (fun hHeld => ?_)
                  clear hK K
                  try simp only [Act.put, List.setIfInBounds_toArray, List.set_cons_zero, List.set_cons_succ]
                  refine wpAnyH_ready (rs := [8]) (by kernel_rfl) (by simp) ?_
                  refine AllReadyH.cons (by simp only [List.getElem?_toArray, List.getElem?_cons_succ, List.getElem?_cons_zero]; rfl) (fun K hK => ?_) AllReadyH.nil
                  have hsz := hB.size
                  have za0 := r7.frozen 0
                  have za1 := r7.frozen 1
                  have za2 := r7.frozen 2
                  have ya0 : w8.cell? ⟨g7, 0, none⟩ = some _ := r7.cell (i := 0) (by omega)
                  have ya1 : w8.cell? ⟨g7, 1, none⟩ = some _ := r7.cell (i := 1) (by omega)
                  have ya2 : w8.cell? ⟨g7, 2, none⟩ = some _ := r7.cell (i := 2) (by omega)
                  go_simp
                  generalize hw3 : World.setCell _ _ _ = w9
                  have hst : RatStored w8 (g7) 32 (rneg (pe)) (Ae) (dl (pe).num.natAbs) (ce) (Be) (dl (pe).den) (de) w9 := by rw [← hw3]; exact rat_stored r7 _ _ _ _ _ _ _
                  clear hw3
                  replace ra := rowIs_grown ra hst.grown (by omega)
                  replace hB := hst.below hB (by omega) (by omega)
                  replace me1 := hst.nat _ _ _ me1
                  rw [← hst.size] at me1
                  replace me2 := hst.nat _ _ _ me2
                  rw [← hst.size] at me2
                  replace mf1 := hst.nat _ _ _ mf1
                  rw [← hst.size] at mf1
                  replace mf2 := hst.nat _ _ _ mf2
                  rw [← hst.size] at mf2
                  replace r7 := hst.row
                  replace r8 := rowIs_grown r8 hst.grown (by omega)
                  clear hst
                  clear hsz za0 za1 za2 ya0 ya1 ya2
                  refine hK.out _ _ (HS.out _ ra) (fun hHeld => ?_)
                  clear hK K
                  try simp only [Act.put, List.setIfInBounds_toArray, List.set_cons_zero, List.set_cons_succ]
                  refine wpAnyH_ready (rs := [9]) (by kernel_rfl) (by simp) ?_
                  refine AllReadyH.cons (by simp only [List.getElem?_toArray, List.getElem?_cons_succ, List.getElem?_cons_zero]; rfl) (fun K hK => ?_) AllReadyH.nil
                  have hsz := hB.size
                  have za0 := r8.frozen 0
                  have za1 := r8.frozen 1
                  have za2 := r8.frozen 2
                  have ya0 : w9.cell? ⟨g8, 0, none⟩ = some _ := r8.cell (i := 0) (by omega)
                  have ya1 : w9.cell? ⟨g8, 1, none⟩ = some _ := r8.cell (i := 1) (by omega)
                  have ya2 : w9.cell? ⟨g8, 2, none⟩ = some _ := r8.cell (i := 2) (by omega)
                  go_simp
                  generalize hw3 : World.setCell _ _ _ = w10
                  have hst : RatStored w9 (g8) 32 (rneg (pf)) (Af) (dl (pf).num.natAbs) (cf) (Bf) (dl (pf).den) (df) w10 := by rw [← hw3]; exact rat_stored r8 _ _ _ _ _ _ _
                  clear hw3
                  replace ra := rowIs_grown ra hst.grown (by omega)
                  replace hB := hst.below hB (by omega) (by omega)
                  replace me1 := hst.nat _ _ _ me1
                  rw [← hst.size] at me1
                  replace me2 := hst.nat _ _ _ me2
                  rw [← hst.size] at me2
                  replace mf1 := hst.nat _ _ _ mf1
                  rw [← hst.size] at mf1
                  replace mf2 := hst.nat _ _ _ mf2
                  rw [← hst.size] at mf2
                  replace r7 := rowIs_grown r7 hst.grown (by omega)
                  replace r8 := hst.row
                  clear hst
                  clear hsz za0 za1 za2 ya0 ya1 ya2
                  refine hK.out _ _ (HS.out _ ra) (fun hHeld => ?_)
                  clear hK K
                  try simp only [Act.put, List.setIfInBounds_toArray, List.set_cons_zero, List.set_cons_succ]
                  refine wpAnyH_done (by kernel_rfl) ?_ _
                  clear hHeld
                  rw [HPe.out] at me1 me2 me3 me5 r7
                  rw [HPf.out] at mf1 mf2 mf3 mf5 r8
                  go_wp2
                  go_meet
                  exact ⟨g7, g8, Ae, ce, Be, de, Af, cf, Bf, df, rfl, rfl, me3, me4, me5, me6, me1, me2, mf3, mf4, mf5, mf6, mf1, mf2, r7, r8, ra, hB⟩
                · go_simp
                  have kb := below_one w6 (.cells #[.bool false, .slice none 0 0, .slice none 0 0] 32)
                  have r8 := box_row (w := w6) (a := .bool false) (b := .slice none 0 0) (c := .slice none 0 0) (T := 32)
                  have hl8ra := ra.lt
                  replace ra := rowIs_on ra kb
                  replace hB := onS hB kb
                  replace me1 := me1.on kb
                  replace me2 := me2.on kb
                  replace mf1 := mf1.on kb
                  replace mf2 := mf2.on kb
                  clear kb
                  obtain ⟨w7, hww⟩ : ∃ W, W = World.alloc w6 (.cells #[.bool false, .slice none 0 0, .slice none 0 0] 32) := ⟨_, rfl⟩
                  rw [← hww] at ra hB me1 me2 mf1 mf2 r8 ⊢
                  obtain ⟨g8, hgg⟩ : ∃ g, g = w6.heap.size := ⟨_, rfl⟩
                  rw [← hgg] at r8 hl8ra ⊢
                  clear hww hgg
                  refine hK.out _ _ (HS.out _ ra) (fun hHeld => ?_)
                  clear hK K
                  try simp only [Act.put, List.setIfInBounds_toArray, List.set_cons_zero, List.set_cons_succ]
                  refine wpAnyH_ready (rs := [6]) (by kernel_rfl) (by simp) ?_
                  refine AllReadyH.cons (by simp only [List.getElem?_toArray, List.getElem?_cons_succ, List.getElem?_cons_zero]; rfl) (fun K hK => ?_) AllReadyH.nil
                  go_simp
                  have kb := below_one w7 (.cells #[.bool false, .slice none 0 0, .slice none 0 0] 32)
                  have r7 := box_row (w := w7) (a := .bool false) (b := .slice none 0 0) (c := .slice none 0 0) (T := 32)
                  have hl7ra := ra.lt
                  have hl7r8 := r8.lt
                  replace ra := rowIs_on ra kb
                  replace hB := onS hB kb
                  replace me1 := me1.on kb
                  replace me2 := me2.on kb
                  replace mf1 := mf1.on kb
                  replace mf2 := mf2.on kb
                  replace r8 := rowIs_on r8 kb
                  clear kb
                  obtain ⟨w8, hww⟩ : ∃ W, W = World.alloc w7 (.cells #[.bool false, .slice none 0 0, .slice none 0 0] 32) := ⟨_, rfl⟩
                  rw [← hww] at ra hB me1 me2 mf1 mf2 r8 r7 ⊢
                  obtain ⟨g7, hgg⟩ : ∃ g, g = w7.heap.size := ⟨_, rfl⟩
                  rw [← hgg] at r7 hl7ra hl7r8 ⊢
                  clear hww hgg
                  refine hK.out _ _ (HS.out _ ra) (fun hHeld => ?_)
                  clear hK K
                  try simp only [Act.put, List.setIfInBounds_toArray, List.set_cons_zero, List.set_cons_succ]
                  refine wpAnyH_ready (rs := [8]) (by kernel_rfl) (by simp) ?_
                  refine AllReadyH.cons (by simp only [List.getElem?_toArray, List.getElem?_cons_succ, List.getElem?_cons_zero]; rfl) (fun K hK => ?_) AllReadyH.nil
                  have hsz := hB.size
                  have za0 := r7.frozen 0
                  have za1 := r7.frozen 1
                  have za2 := r7.frozen 2
                  have ya0 : w8.cell? ⟨g7, 0, none⟩ = some _ := r7.cell (i := 0) (by omega)
                  have ya1 : w8.cell? ⟨g7, 1, none⟩ = some _ := r7.cell (i := 1) (by omega)
                  have ya2 : w8.cell? ⟨g7, 2, none⟩ = some _ := r7.cell (i := 2) (by omega)
                  go_simp
                  generalize hw3 : World.setCell _ _ _ = w9
                  have hst : RatStored w8 (g7) 32 (rneg (pe)) (Ae) (dl (pe).num.natAbs) (ce) (Be) (dl (pe).den) (de) w9 := by rw [← hw3]; exact rat_stored r7 _ _ _ _ _ _ _
                  clear hw3
                  replace ra := rowIs_grown ra hst.grown (by omega)
                  replace hB := hst.below hB (by omega) (by omega)
                  replace me1 := hst.nat _ _ _ me1
                  rw [← hst.size] at me1
                  replace me2 := hst.nat _ _ _ me2
                  rw [← hst.size] at me2
                  replace mf1 := hst.nat _ _ _ mf1
                  rw [← hst.size] at mf1
                  replace mf2 := hst.nat _ _ _ mf2
                  rw [← hst.size] at mf2
                  replace r8 := rowIs_grown r8 hst.grown (by omega)
                  replace r7 := hst.row
                  clear hst
                  clear hsz za0 za1 za2 ya0 ya1 ya2
                  refine hK.out _ _ (HS.out _ ra) (fun hHeld => ?_)
                  clear hK K
                  try simp only [Act.put, List.setIfInBounds_toArray, List.set_cons_zero, List.set_cons_succ]
                  refine wpAnyH_ready (rs := [9]) (by kernel_rfl) (by simp) ?_
                  refine AllReadyH.cons (by simp only [List.getElem?_toArray, List.getElem?_cons_succ, List.getElem?_cons_zero]; rfl) (fun K hK => ?_) AllReadyH.nil
                  have hsz := hB.size
                  have za0 := r8.frozen 0
                  have za1 := r8.frozen 1
                  have za2 := r8.frozen 2
                  have ya0 : w9.cell? ⟨g8, 0, none⟩ = some _ := r8.cell (i := 0) (by omega)
                  have ya1 : w9.cell? ⟨g8, 1, none⟩ = some _ := r8.cell (i := 1) (by omega)
                  have ya2 : w9.cell? ⟨g8, 2, none⟩ = some _ := r8.cell (i := 2) (by omega)
                  go_simp
                  generalize hw3 : World.setCell _ _ _ = w10
                  have hst : RatStored w9 (g8) 32 (rneg (pf)) (Af) (dl (pf).num.natAbs) (cf) (Bf) (dl (pf).den) (df) w10 := by rw [← hw3]; exact rat_stored r8 _ _ _ _ _ _ _
                  clear hw3
                  replace ra := rowIs_grown ra hst.grown (by omega)
                  replace hB := hst.below hB (by omega) (by omega)
                  replace me1 := hst.nat _ _ _ me1
                  rw [← hst.size] at me1
                  replace me2 := hst.nat _ _ _ me2
                  rw [← hst.size] at me2
                  replace mf1 := hst.nat _ _ _ mf1
                  rw [← hst.size] at mf1
                  replace mf2 := hst.nat _ _ _ mf2
                  rw [← hst.size] at mf2
                  replace r8 := hst.row
                  replace r7 := rowIs_grown r7 hst.grown (by omega)
                  clear hst
                  clear hsz za0 za1 za2 ya0 ya1 ya2
                  refine hK.out _ _ (HS.out _ ra) (fun hHeld => ?_)
                  clear hK K
                  try simp only [Act.put, List.setIfInBounds_toArray, List.set_cons_zero, List.set_cons_succ]
                  refine wpAnyH_done (by kernel_rfl) ?_ _
                  clear hHeld
                  rw [HPe.out] at me1 me2 me3 me5 r7
                  rw [HPf.out] at mf1 mf2 mf3 mf5 r8
                  go_wp2
                  go_meet
                  exact ⟨g7, g8, Ae, ce, Be, de, Af, cf, Bf, df, rfl, rfl, me3, me4, me5, me6, me1, me2, mf3, mf4, mf5, mf6, mf1, mf2, r7, r8, ra, hB⟩
              · go_simp
                have kb := below_one w5 (.cells #[.bool false, .slice none 0 0, .slice none 0 0] 32)
                have r7 := box_row (w := w5) (a := .bool false) (b := .slice none 0 0) (c := .slice none 0 0) (T := 32)
                have hl7ra := ra.lt
                replace ra := rowIs_on ra kb
                replace hB := onS hB kb
                replace me1 := me1.on kb
                replace me2 := me2.on kb
                clear kb
                obtain ⟨w6, hww⟩ : ∃ W, W = World.alloc w5 (.cells #[.bool false, .slice none 0 0, .slice none 0 0] 32) := ⟨_, rfl⟩
                rw [← hww] at ra hB me1 me2 r7 ⊢
                obtain ⟨g7, hgg⟩ : ∃ g, g = w5.heap.size := ⟨_, rfl⟩
                rw [← hgg] at r7 hl7ra ⊢
                clear hww hgg
                refine hK.out _ _ (HS.out _ ra) (fun hHeld => ?_)
                clear hK K
                try simp only [Act.put, List.setIfInBounds_toArray, List.set_cons_zero, List.set_cons_succ]
                refine wpAnyH_ready (rs := [5, 7]) (by kernel_rfl) (by simp) ?_
                refine AllReadyH.cons (by simp only [List.getElem?_toArray, List.getElem?_cons_succ, List.getElem?_cons_zero]; rfl) (fun K hK => ?_) (AllReadyH.cons (by simp only [List.getElem?_toArray, List.getElem?_cons_succ, List.getElem?_cons_zero]; rfl) (fun K hK => ?_) AllReadyH.nil)
                · go_simp
                  go_wp2_with fail
                  refine (chEval_fit ((ht'.mono (show 4 ≤ 4000 by omega)).on hB) ((hx.mono (by omega)).on hB) (by omega) (by omega) hfb.out).mono ?_
                  rintro e w7 ⟨Af, cf, Bf, df, rfl, mf1, mf2, mf3, mf4, mf5, mf6, kb⟩
                  replace ra := rowIs_on ra kb
                  replace hB := onS hB kb
                  replace me1 := me1.on kb
                  replace me2 := me2.on kb
                  replace r7 := rowIs_on r7 kb
                  clear kb
                  obtain ⟨pf, hp⟩ : ∃ p, p = evR b x m' := ⟨_, rfl⟩
                  rw [← hp] at mf1 mf2 mf3 mf5 ⊢
                  have HPf := hid hp
                  clear hp
                  refine hK.out _ _ (HS.out _ ra) (fun hHeld => ?_)
                  clear hK K
                  try simp only [Act.put, List.setIfInBounds_toArray, List.set_cons_zero, List.set_cons_succ]
                  refine wpAnyH_ready (rs := [7]) (by kernel_rfl) (by simp) ?_
                  refine AllReadyH.cons (by simp only [List.getElem?_toArray, List.getElem?_cons_succ, List.getElem?_cons_zero]; rfl) (fun K hK => ?_) AllReadyH.nil
                  go_simp
                  have kb := below_one w7 (.cells #[.bool false, .slice none 0 0, .slice none 0 0] 32)
                  have r8 := box_row (w := w7) (a := .bool false) (b := .slice none 0 0) (c := .slice none 0 0) (T := 32)
                  have hl8ra := ra.lt
                  have hl8r7 := r7.lt
                  replace ra := rowIs_on ra kb
                  replace hB := onS hB kb
                  replace me1 := me1.on kb
                  replace me2 := me2.on kb
                  replace r7 := rowIs_on r7 kb
                  replace mf1 := mf1.on kb
                  replace mf2 := mf2.on kb
                  clear kb
                  obtain ⟨w8, hww⟩ : ∃ W, W = World.alloc w7 (.cells #[.bool false, .slice none 0 0, .slice none 0 0] 32) := ⟨_, rfl⟩
                  rw [← hww] at ra hB me1 me2 r7 mf1 mf2 r8 ⊢
                  obtain ⟨g8, hgg⟩ : ∃ g, g = w7.heap.size := ⟨_, rfl⟩
                  rw [← hgg] at r8 hl8ra hl8r7 ⊢
                  clear hww hgg
                  refine hK.out _ _ (HS.out _ ra) (fun hHeld => ?_)
                  clear hK K
                  try simp only [Act.put, List.setIfInBounds_toArray, List.set_cons_zero, List.set_cons_succ]
                  refine wpAnyH_ready (rs := [8]) (by kernel_rfl) (by simp) ?_
                  refine AllReadyH.cons (by simp only [List.getElem?_toArray, List.getElem?_cons_succ, List.getElem?_cons_zero]; rfl) (fun K hK => ?_) AllReadyH.nil
                  have hsz := hB.size
                  have za0 := r7.frozen 0
                  have za1 := r7.frozen 1
                  have za2 := r7.frozen 2
                  have ya0 : w8.cell? ⟨g7, 0, none⟩ = some _ := r7.cell (i := 0) (by omega)
                  have ya1 : w8.cell? ⟨g7, 1, none⟩ = some _ := r7.cell (i := 1) (by omega)
                  have ya2 : w8.cell? ⟨g7, 2, none⟩ = some _ := r7.cell (i := 2) (by omega)
                  go_simp
                  generalize hw3 : World.setCell _ _ _ = w9
                  have hst : RatStored w8 (g7) 32 (rneg (pe)) (Ae) (dl (pe).num.natAbs) (ce) (Be) (dl (pe).den) (de) w9 := by rw [← hw3]; exact rat_stored r7 _ _ _ _ _ _ _
                  clear hw3
                  replace ra := rowIs_grown ra hst.grown (by omega)
                  replace hB := hst.below hB (by omega) (by omega)
                  replace me1 := hst.nat _ _ _ me1
                  rw [← hst.size] at me1
                  replace me2 := hst.nat _ _ _ me2
                  rw [← hst.size] at me2
                  replace r7 := hst.row
                  replace mf1 := hst.nat _ _ _ mf1
                  rw [← hst.size] at mf1
                  replace mf2 := hst.nat _ _ _ mf2
                  rw [← hst.size] at mf2
                  replace r8 := rowIs_grown r8 hst.grown (by omega)
                  clear hst
                  clear hsz za0 za1 za2 ya0 ya1 ya2
                  refine hK.out _ _ (HS.out _ ra) (fun hHeld => ?_)
                  clear hK K
                  try simp only [Act.put, List.setIfInBounds_toArray, List.set_cons_zero, List.set_cons_succ]
                  refine wpAnyH_ready (rs := [9]) (by kernel_rfl) (by simp) ?_
                  refine AllReadyH.cons (by simp only [List.getElem?_toArray, List.getElem?_cons_succ, List.getElem?_cons_zero]; rfl) (fun K hK => ?_) AllReadyH.nil
                  have hsz := hB.size
                  have za0 := r8.frozen 0
                  have za1 := r8.frozen 1
                  have za2 := r8.frozen 2
                  have ya0 : w9.cell? ⟨g8, 0, none⟩ = some _ := r8.cell (i := 0) (by omega)
                  have ya1 : w9.cell? ⟨g8, 1, none⟩ = some _ := r8.cell (i := 1) (by omega)
                  have ya2 : w9.cell? ⟨g8, 2, none⟩ = some _ := r8.cell (i := 2) (by omega)
                  go_simp
                  generalize hw3 : World.setCell _ _ _ = w10
                  have hst : RatStored w9 (g8) 32 (rneg (pf)) (Af) (dl (pf).num.natAbs) (cf) (Bf) (dl (pf).den) (df) w10 := by rw [← hw3]; exact rat_stored r8 _ _ _ _ _ _ _
                  clear hw3
                  replace ra := rowIs_grown ra hst.grown (by omega)
                  replace hB := hst.below hB (by omega) (by omega)
                  replace me1 := hst.nat _ _ _ me1
                  rw [← hst.size] at me1
                  replace me2 := hst.nat _ _ _ me2
                  rw [← hst.size] at me2
                  replace r7 := rowIs_grown r7 hst.grown (by omega)
                  replace mf1 := hst.nat _ _ _ mf1
                  rw [← hst.size] at mf1
                  replace mf2 := hst.nat _ _ _ mf2
                  rw [← hst.size] at mf2
                  replace r8 := hst.row
                  clear hst
                  clear hsz za0 za1 za2 ya0 ya1 ya2
                  refine hK.out _ _ (HS.out _ ra) (fun hHeld => ?_)
                  clear hK K
                  try simp only [Act.put, List.setIfInBounds_toArray, List.set_cons_zero, List.set_cons_succ]
                  refine wpAnyH_done (by kernel_rfl) ?_ _
                  clear hHeld
                  rw [HPe.out] at me1 me2 me3 me5 r7
                  rw [HPf.out] at mf1 mf2 mf3 mf5 r8
                  go_wp2
                  go_meet
                  exact ⟨g7, g8, Ae, ce, Be, de, Af, cf, Bf, df, rfl, rfl, me3, me4, me5, me6, me1, me2, mf3, mf4, mf5, mf6, mf1, mf2, r7, r8, ra, hB⟩
                · go_simp
                  have kb := below_one w6 (.cells #[.bool false, .slice none 0 0, .slice none 0 0] 32)
                  have r8 := box_row (w := w6) (a := .bool false) (b := .slice none 0 0) (c := .slice none 0 0) (T := 32)
                  have hl8ra := ra.lt
                  have hl8r7 := r7.lt
                  replace ra := rowIs_on ra kb
                  replace hB := onS hB kb
                  replace me1 := me1.on kb
                  replace me2 := me2.on kb
                  replace r7 := rowIs_on r7 kb
                  clear kb
                  obtain ⟨w7, hww⟩ : ∃ W, W = World.alloc w6 (.cells #[.bool false, .slice none 0 0, .slice none 0 0] 32) := ⟨_, rfl⟩
                  rw [← hww] at ra hB me1 me2 r7 r8 ⊢
                  obtain ⟨g8, hgg⟩ : ∃ g, g = w6.heap.size := ⟨_, rfl⟩
                  rw [← hgg] at r8 hl8ra hl8r7 ⊢
                  clear hww hgg
                  refine hK.out _ _ (HS.out _ ra) (fun hHeld => ?_)
                  clear hK K
                  try simp only [Act.put, List.setIfInBounds_toArray, List.set_cons_zero, List.set_cons_succ]
                  refine wpAnyH_ready (rs := [5]) (by kernel_rfl) (by simp) ?_
                  refine AllReadyH.cons (by simp only [List.getElem?_toArray, List.getElem?_cons_succ, List.getElem?_cons_zero]; rfl) (fun K hK => ?_) AllReadyH.nil
                  go_simp
                  go_wp2_with fail
                  refine (chEval_fit ((ht'.mono (show 4 ≤ 4000 by omega)).on hB) ((hx.mono (by omega)).on hB) (by omega) (by omega) hfb.out).mono ?_
                  rintro e w8 ⟨Af, cf, Bf, df, rfl, mf1, mf2, mf3, mf4, mf5, mf6, kb⟩
                  replace ra := rowIs_on ra kb
                  replace hB := onS hB kb
                  replace me1 := me1.on kb
                  replace me2 := me2.on kb
                  replace r7 := rowIs_on r7 kb
                  replace r8 := rowIs_on r8 kb
                  clear kb
                  obtain ⟨pf, hp⟩ : ∃ p, p = evR b x m' := ⟨_, rfl⟩
                  rw [← hp] at mf1 mf2 mf3 mf5 ⊢
                  have HPf := hid hp
                  clear hp
                  refine hK.out _ _ (HS.out _ ra) (fun hHeld => ?_)
                  clear hK K
                  try simp only [Act.put, List.setIfInBounds_toArray, List.set_cons_zero, List.set_cons_succ]
                  refine wpAnyH_ready (rs := [8]) (by kernel_rfl) (by simp) ?_
                  refine AllReadyH.cons (by simp only [List.getElem?_toArray, List.getElem?_cons_succ, List.getElem?_cons_zero]; rfl) (fun K hK => ?_) AllReadyH.nil
                  have hsz := hB.size
                  have za0 := r7.frozen 0
                  have za1 := r7.frozen 1
                  have za2 := r7.frozen 2
                  have ya0 : w8.cell? ⟨g7, 0, none⟩ = some _ := r7.cell (i := 0) (by omega)
                  have ya1 : w8.cell? ⟨g7, 1, none⟩ = some _ := r7.cell (i := 1) (by omega)
                  have ya2 : w8.cell? ⟨g7, 2, none⟩ = some _ := r7.cell (i := 2) (by omega)
                  go_simp
                  generalize hw3 : World.setCell _ _ _ = w9
                  have hst : RatStored w8 (g7) 32 (rneg (pe)) (Ae) (dl (pe).num.natAbs) (ce) (Be) (dl (pe).den) (de) w9 := by rw [← hw3]; exact rat_stored r7 _ _ _ _ _ _ _
                  clear hw3
                  replace ra := rowIs_grown ra hst.grown (by omega)
                  replace hB := hst.below hB (by omega) (by omega)
                  replace me1 := hst.nat _ _ _ me1
                  rw [← hst.size] at me1
                  replace me2 := hst.nat _ _ _ me2
                  rw [← hst.size] at me2
                  replace r7 := hst.row
                  replace r8 := rowIs_grown r8 hst.grown (by omega)
                  replace mf1 := hst.nat _ _ _ mf1
                  rw [← hst.size] at mf1
                  replace mf2 := hst.nat _ _ _ mf2
                  rw [← hst.size] at mf2
                  clear hst
                  clear hsz za0 za1 za2 ya0 ya1 ya2
                  refine hK.out _ _ (HS.out _ ra) (fun hHeld => ?_)
                  clear hK K
                  try simp only [Act.put, List.setIfInBounds_toArray, List.set_cons_zero, List.set_cons_succ]
                  refine wpAnyH_ready (rs := [9]) (by kernel_rfl) (by simp) ?_
                  refine AllReadyH.cons (by simp only [List.getElem?_toArray, List.getElem?_cons_succ, List.getElem?_cons_zero]; rfl) (fun K hK => ?_) AllReadyH.nil
                  have hsz := hB.size
                  have za0 := r8.frozen 0
                  have za1 := r8.frozen 1
                  have za2 := r8.frozen 2
                  have ya0 : w9.cell? ⟨g8, 0, none⟩ = some _ := r8.cell (i := 0) (by omega)
                  have ya1 : w9.cell? ⟨g8, 1, none⟩ = some _ := r8.cell (i := 1) (by omega)
                  have ya2 : w9.cell? ⟨g8, 2, none⟩ = some _ := r8.cell (i := 2) (by omega)
                  go_simp
                  generalize hw3 : World.setCell _ _ _ = w10
                  have hst : RatStored w9 (g8) 32 (rneg (pf)) (Af) (dl (pf).num.natAbs) (cf) (Bf) (dl (pf).den) (df) w10 := by rw [← hw3]; exact rat_stored r8 _ _ _ _ _ _ _
                  clear hw3
                  replace ra := rowIs_grown ra hst.grown (by omega)
                  replace hB := hst.below hB (by omega) (by omega)
                  replace me1 := hst.nat _ _ _ me1
                  rw [← hst.size] at me1
                  replace me2 := hst.nat _ _ _ me2
                  rw [← hst.size] at me2
                  replace r7 := rowIs_grown r7 hst.grown (by omega)
                  replace r8 := hst.row
                  replace mf1 := hst.nat _ _ _ mf1
                  rw [← hst.size] at mf1
                  replace mf2 := hst.nat _ _ _ mf2
                  rw [← hst.size] at mf2
                  clear hst
                  clear hsz za0 za1 za2 ya0 ya1 ya2
                  refine hK.out _ _ (HS.out _ ra) (fun hHeld => ?_)
                  clear hK K
                  try simp only [Act.put, List.setIfInBounds_toArray, List.set_cons_zero, List.set_cons_succ]
                  refine wpAnyH_done (by kernel_rfl) ?_ _
                  clear hHeld
                  rw [HPe.out] at me1 me2 me3 me5 r7
                  rw [HPf.out] at mf1 mf2 mf3 mf5 r8
                  go_wp2
                  go_meet
                  exact ⟨g7, g8, Ae, ce, Be, de, Af, cf, Bf, df, rfl, rfl, me3, me4, me5, me6, me1, me2, mf3, mf4, mf5, mf6, mf1, mf2, r7, r8, ra, hB⟩
              · go_simp
                have kb := below_one w5 (.cells #[.bool false, .slice none 0 0, .slice none 0 0] 32)
                have r8 := box_row (w := w5) (a := .bool false) (b := .slice none 0 0) (c := .slice none 0 0) (T := 32)
                have hl8ra := ra.lt
                replace ra := rowIs_on ra kb
                replace hB := onS hB kb
                replace me1 := me1.on kb
                replace me2 := me2.on kb
                clear kb
                obtain ⟨w6, hww⟩ : ∃ W, W = World.alloc w5 (.cells #[.bool false, .slice none 0 0, .slice none 0 0] 32) := ⟨_, rfl⟩
                rw [← hww] at ra hB me1 me2 r8 ⊢
                obtain ⟨g8, hgg⟩ : ∃ g, g = w5.heap.size := ⟨_, rfl⟩
                rw [← hgg] at r8 hl8ra ⊢
                clear hww hgg
                refine hK.out _ _ (HS.out _ ra) (fun hHeld => ?_)
                clear hK K
                try simp only [Act.put, List.setIfInBounds_toArray, List.set_cons_zero, List.set_cons_succ]
                refine wpAnyH_ready (rs := [5, 6]) (by kernel_rfl) (by simp) ?_
                refine AllReadyH.cons (by simp only [List.getElem?_toArray, List.getElem?_cons_succ, List.getElem?_cons_zero]; rfl) (fun K hK => ?_) (AllReadyH.cons (by simp only [List.getElem?_toArray, List.getElem?_cons_succ, List.getElem?_cons_zero]; rfl) (fun K hK => ?_) AllReadyH.nil)
                · go_simp
                  go_wp2_with fail
                  refine (chEval_fit ((ht'.mono (show 4 ≤ 4000 by omega)).on hB) ((hx.mono (by omega)).on hB) (by omega) (by omega) hfb.out).mono ?_
                  rintro e w7 ⟨Af, cf, Bf, df, rfl, mf1, mf2, mf3, mf4, mf5, mf6, kb⟩
                  replace ra := rowIs_on ra kb
                  replace hB := onS hB kb
                  replace me1 := me1.on kb
                  replace me2 := me2.on kb
                  replace r8 := rowIs_on r8 kb
                  clear kb
                  obtain ⟨pf, hp⟩ : ∃ p, p = evR b x m' := ⟨_, rfl⟩
                  rw [← hp] at mf1 mf2 mf3 mf5 ⊢
                  have HPf := hid hp
                  clear hp
                  refine hK.out _ _ (HS.out _ ra) (fun hHeld => ?_)
                  clear hK K
                  try simp only [Act.put, List.setIfInBounds_toArray, List.set_cons_zero, List.set_cons_succ]
                  refine wpAnyH_ready (rs := [6]) (by kernel_rfl) (by simp) ?_
                  refine AllReadyH.cons (by simp only [List.getElem?_toArray, List.getElem?_cons_succ, List.getElem?_cons_zero]; rfl) (fun K hK => ?_) AllReadyH.nil
                  go_simp
                  have kb := below_one w7 (.cells #[.bool false, .slice none 0 0, .slice none 0 0] 32)
                  have r7 := box_row (w := w7) (a := .bool false) (b := .slice none 0 0) (c := .slice none 0 0) (T := 32)
                  have hl7ra := ra.lt
                  have hl7r8 := r8.lt
                  replace ra := rowIs_on ra kb
                  replace hB := onS hB kb
                  replace me1 := me1.on kb
                  replace me2 := me2.on kb
                  replace r8 := rowIs_on r8 kb
                  replace mf1 := mf1.on kb
                  replace mf2 := mf2.on kb
                  clear kb
                  obtain ⟨w8, hww⟩ : ∃ W, W = World.alloc w7 (.cells #[.bool false, .slice none 0 0, .slice none 0 0] 32) := ⟨_, rfl⟩
                  rw [← hww] at ra hB me1 me2 r8 mf1 mf2 r7 ⊢
                  obtain ⟨g7, hgg⟩ : ∃ g, g = w7.heap.size := ⟨_, rfl⟩
                  rw [← hgg] at r7 hl7ra hl7r8 ⊢
                  clear hww hgg
                  refine hK.out _ _ (HS.out _ ra) (fun hHeld => ?_)
                  clear hK K
                  try simp only [Act.put, List.setIfInBounds_toArray, List.set_cons_zero, List.set_cons_succ]
                  refine wpAnyH_ready (rs := [8]) (by kernel_rfl) (by simp) ?_
                  refine AllReadyH.cons (by simp only [List.getElem?_toArray, List.getElem?_cons_succ, List.getElem?_cons_zero]; rfl) (fun K hK => ?_) AllReadyH.nil
                  have hsz := hB.size
                  have za0 := r7.frozen 0
                  have za1 := r7.frozen 1
                  have za2 := r7.frozen 2
                  have ya0 : w8.cell? ⟨g7, 0, none⟩ = some _ := r7.cell (i := 0) (by omega)
                  have ya1 : w8.cell? ⟨g7, 1, none⟩ = some _ := r7.cell (i := 1) (by omega)
                  have ya2 : w8.cell? ⟨g7, 2, none⟩ = some _ := r7.cell (i := 2) (by omega)
                  go_simp
                  generalize hw3 : World.setCell _ _ _ = w9
                  have hst : RatStored w8 (g7) 32 (rneg (pe)) (Ae) (dl (pe).num.natAbs) (ce) (Be) (dl (pe).den) (de) w9 := by rw [← hw3]; exact rat_stored r7 _ _ _ _ _ _ _
                  clear hw3
                  replace ra := rowIs_grown ra hst.grown (by omega)
                  replace hB := hst.below hB (by omega) (by omega)
                  replace me1 := hst.nat _ _ _ me1
                  rw [← hst.size] at me1
                  replace me2 := hst.nat _ _ _ me2
                  rw [← hst.size] at me2
                  replace r8 := rowIs_grown r8 hst.grown (by omega)
                  replace mf1 := hst.nat _ _ _ mf1
                  rw [← hst.size] at mf1
                  replace mf2 := hst.nat _ _ _ mf2
                  rw [← hst.size] at mf2
                  replace r7 := hst.row
                  clear hst
                  clear hsz za0 za1 za2 ya0 ya1 ya2
                  refine hK.out _ _ (HS.out _ ra) (fun hHeld => ?_)
                  clear hK K
                  try simp only [Act.put, List.setIfInBounds_toArray, List.set_cons_zero, List.set_cons_succ]
                  refine wpAnyH_ready (rs := [9]) (by kernel_rfl) (by simp) ?_
                  refine AllReadyH.cons (by simp only [List.getElem?_toArray, List.getElem?_cons_succ, List.getElem?_cons_zero]; rfl) (fun K hK => ?_) AllReadyH.nil
                  have hsz := hB.size
                  have za0 := r8.frozen 0
                  have za1 := r8.frozen 1
                  have za2 := r8.frozen 2
                  have ya0 : w9.cell? ⟨g8, 0, none⟩ = some _ := r8.cell (i := 0) (by omega)
                  have ya1 : w9.cell? ⟨g8, 1, none⟩ = some _ := r8.cell (i := 1) (by omega)
                  have ya2 : w9.cell? ⟨g8, 2, none⟩ = some _ := r8.cell (i := 2) (by omega)
                  go_simp
                  generalize hw3 : World.setCell _ _ _ = w10
                  have hst : RatStored w9 (g8) 32 (rneg (pf)) (Af) (dl (pf).num.natAbs) (cf) (Bf) (dl (pf).den) (df) w10 := by rw [← hw3]; exact rat_stored r8 _ _ _ _ _ _ _
                  clear hw3
                  replace ra := rowIs_grown ra hst.grown (by omega)
                  replace hB := hst.below hB (by omega) (by omega)
                  replace me1 := hst.nat _ _ _ me1
                  rw [← hst.size] at me1
                  replace me2 := hst.nat _ _ _ me2
                  rw [← hst.size] at me2
                  replace r8 := hst.row
                  replace mf1 := hst.nat _ _ _ mf1
                  rw [← hst.size] at mf1
                  replace mf2 := hst.nat _ _ _ mf2
                  rw [← hst.size] at mf2
                  replace r7 := rowIs_grown r7 hst.grown (by omega)
                  clear hst
                  clear hsz za0 za1 za2 ya0 ya1 ya2
                  refine hK.out _ _ (HS.out _ ra) (fun hHeld => ?_)
                  clear hK K
                  try simp only [Act.put, List.setIfInBounds_toArray, List.set_cons_zero, List.set_cons_succ]
                  refine wpAnyH_done (by kernel_rfl) ?_ _
                  clear hHeld
                  rw [HPe.out] at me1 me2 me3 me5 r7
                  rw [HPf.out] at mf1 mf2 mf3 mf5 r8
                  go_wp2
                  go_meet
                  exact ⟨g7, g8, Ae, ce, Be, de, Af, cf, Bf, df, rfl, rfl, me3, me4, me5, me6, me1, me2, mf3, mf4, mf5, mf6, mf1, mf2, r7, r8, ra, hB⟩
                · go_simp
                  have kb := below_one w6 (.cells #[.bool false, .slice none 0 0, .slice none 0 0] 32)
                  have r7 := box_row (w := w6) (a := .bool false) (b := .slice none 0 0) (c := .slice none 0 0) (T := 32)
                  have hl7ra := ra.lt
                  have hl7r8 := r8.lt
                  replace ra := rowIs_on ra kb
                  replace hB := onS hB kb
                  replace me1 := me1.on kb
                  replace me2 := me2.on kb
                  replace r8 := rowIs_on r8 kb
                  clear kb
                  obtain ⟨w7, hww⟩ : ∃ W, W = World.alloc w6 (.cells #[.bool false, .slice none 0 0, .slice none 0 0] 32) := ⟨_, rfl⟩
                  rw [← hww] at ra hB me1 me2 r8 r7 ⊢
                  obtain ⟨g7, hgg⟩ : ∃ g, g = w6.heap.size := ⟨_, rfl⟩
                  rw [← hgg] at r7 hl7ra hl7r8 ⊢
                  clear hww hgg
                  refine hK.out _ _ (HS.out _ ra) (fun hHeld => ?_)
                  clear hK K
                  try simp only [Act.put, List.setIfInBounds_toArray, List.set_cons_zero, List.set_cons_succ]
                  refine wpAnyH_ready (rs := [5]) (by kernel_rfl) (by simp) ?_
                  refine AllReadyH.cons (by simp only [List.getElem?_toArray, List.getElem?_cons_succ, List.getElem?_cons_zero]; rfl) (fun K hK => ?_) AllReadyH.nil
                  go_simp
                  go_wp2_with fail
                  refine (chEval_fit ((ht'.mono (show 4 ≤ 4000 by omega)).on hB) ((hx.mono (by omega)).on hB) (by omega) (by omega) hfb.out).mono ?_
                  rintro e w8 ⟨Af, cf, Bf, df, rfl, mf1, mf2, mf3, mf4, mf5, mf6, kb⟩
                  replace ra := rowIs_on ra kb
                  replace hB := onS hB kb
                  replace me1 := me1.on kb
                  replace me2 := me2.on kb
                  replace r8 := rowIs_on r8 kb
                  replace r7 := rowIs_on r7 kb
                  clear kb
                  obtain ⟨pf, hp⟩ : ∃ p, p = evR b x m' := ⟨_, rfl⟩
                  rw [← hp] at mf1 mf2 mf3 mf5 ⊢
                  have HPf := hid hp
                  clear hp
                  refine hK.out _ _ (HS.out _ ra) (fun hHeld => ?_)
                  clear hK K
                  try simp only [Act.put, List.setIfInBounds_toArray, List.set_cons_zero, List.set_cons_succ]
                  refine wpAnyH_ready (rs := [8]) (by kernel_rfl) (by simp) ?_
                  refine AllReadyH.cons (by simp only [List.getElem?_toArray, List.getElem?_cons_succ, List.getElem?_cons_zero]; rfl) (fun K hK => ?_) AllReadyH.nil
                  have hsz := hB.size
                  have za0 := r7.frozen 0
                  have za1 := r7.frozen 1
                  have za2 := r7.frozen 2
                  have ya0 : w8.cell? ⟨g7, 0, none⟩ = some _ := r7.cell (i := 0) (by omega)
                  have ya1 : w8.cell? ⟨g7, 1, none⟩ = some _ := r7.cell (i := 1) (by omega)
                  have ya2 : w8.cell? ⟨g7, 2, none⟩ = some _ := r7.cell (i := 2) (by omega)
                  go_simp
                  generalize hw3 : World.setCell _ _ _ = w9
                  have hst : RatStored w8 (g7) 32 (rneg (pe)) (Ae) (dl (pe).num.natAbs) (ce) (Be) (dl (pe).den) (de) w9 := by rw [← hw3]; exact rat_stored r7 _ _ _ _ _ _ _
                  clear hw3
                  replace ra := rowIs_grown ra hst.grown (by omega)
                  replace hB := hst.below hB (by omega) (by omega)
                  replace me1 := hst.nat _ _ _ me1
                  rw [← hst.size] at me1
                  replace me2 := hst.nat _ _ _ me2
                  rw [← hst.size] at me2
                  replace r8 := rowIs_grown r8 hst.grown (by omega)
                  replace r7 := hst.row
                  replace mf1 := hst.nat _ _ _ mf1
                  rw [← hst.size] at mf1
                  replace mf2 := hst.nat _ _ _ mf2
                  rw [← hst.size] at mf2
                  clear hst
                  clear hsz za0 za1 za2 ya0 ya1 ya2
                  refine hK.out _ _ (HS.out _ ra) (fun hHeld => ?_)
                  clear hK K
                  try simp only [Act.put, List.setIfInBounds_toArray, List.set_cons_zero, List.set_cons_succ]
                  refine wpAnyH_ready (rs := [9]) (by kernel_rfl) (by simp) ?_
                  refine AllReadyH.cons (by simp only [List.getElem?_toArray, List.getElem?_cons_succ, List.getElem?_cons_zero]; rfl) (fun K hK => ?_) AllReadyH.nil
                  have hsz := hB.size
                  have za0 := r8.frozen 0
                  have za1 := r8.frozen 1
                  have za2 := r8.frozen 2
                  have ya0 : w9.cell? ⟨g8, 0, none⟩ = some _ := r8.cell (i := 0) (by omega)
                  have ya1 : w9.cell? ⟨g8, 1, none⟩ = some _ := r8.cell (i := 1) (by omega)
                  have ya2 : w9.cell? ⟨g8, 2, none⟩ = some _ := r8.cell (i := 2) (by omega)
                  go_simp
                  generalize hw3 : World.setCell _ _ _ = w10
                  have hst : RatStored w9 (g8) 32 (rneg (pf)) (Af) (dl (pf).num.natAbs) (cf) (Bf) (dl (pf).den) (df) w10 := by rw [← hw3]; exact rat_stored r8 _ _ _ _ _ _ _
                  clear hw3
                  replace ra := rowIs_grown ra hst.grown (by omega)
                  replace hB := hst.below hB (by omega) (by omega)
                  replace me1 := hst.nat _ _ _ me1
                  rw [← hst.size] at me1
                  replace me2 := hst.nat _ _ _ me2
                  rw [← hst.size] at me2
                  replace r8 := hst.row
                  replace r7 := rowIs_grown r7 hst.grown (by omega)
                  replace mf1 := hst.nat _ _ _ mf1
                  rw [← hst.size] at mf1
                  replace mf2 := hst.nat _ _ _ mf2
                  rw [← hst.size] at mf2
                  clear hst
                  clear hsz za0 za1 za2 ya0 ya1 ya2
                  refine hK.out _ _ (HS.out _ ra) (fun hHeld => ?_)
                  clear hK K
                  try simp only [Act.put, List.setIfInBounds_toArray, List.set_cons_zero, List.set_cons_succ]
                  refine wpAnyH_done (by kernel_rfl) ?_ _
                  clear hHeld
                  rw [HPe.out] at me1 me2 me3 me5 r7
                  rw [HPf.out] at mf1 mf2 mf3 mf5 r8
                  go_wp2
                  go_meet
                  exact ⟨g7, g8, Ae, ce, Be, de, Af, cf, Bf, df, rfl, rfl, me3, me4, me5, me6, me1, me2, mf3, mf4, mf5, mf6, mf1, mf2, r7, r8, ra, hB⟩
            · go_simp
              have kb := below_one w4 (.cells #[.bool false, .slice none 0 0, .slice none 0 0] 32)
              have r7 := box_row (w := w4) (a := .bool false) (b := .slice none 0 0) (c := .slice none 0 0) (T := 32)
              have hl7ra := ra.lt
              replace ra := rowIs_on ra kb
              replace hB := onS hB kb
              clear kb
              obtain ⟨w5, hww⟩ : ∃ W, W = World.alloc w4 (.cells #[.bool false, .slice none 0 0, .slice none 0 0] 32) := ⟨_, rfl⟩
              rw [← hww] at ra hB r7 ⊢
              obtain ⟨g7, hgg⟩ : ∃ g, g = w4.heap.size := ⟨_, rfl⟩
              rw [← hgg] at r7 hl7ra ⊢
              clear hww hgg
              refine hK.out _ _ (HS.out _ ra) (fun hHeld => ?_)
              clear hK K
              try simp only [Act.put, List.setIfInBounds_toArray, List.set_cons_zero, List.set_cons_succ]
              refine wpAnyH_ready (rs := [2, 7]) (by kernel_rfl) (by simp) ?_
              refine AllReadyH.cons (by simp only [List.getElem?_toArray, List.getElem?_cons_succ, List.getElem?_cons_zero]; rfl) (fun K hK => ?_) (AllReadyH.cons (by simp only [List.getElem?_toArray, List.getElem?_cons_succ, List.getElem?_cons_zero]; rfl) (fun K hK => ?_) AllReadyH.nil)
              · go_simp
                go_wp2_with fail
                refine (chEval_fit ((ht.mono (show 4 ≤ 4000 by omega)).on hB) ((hx.mono (by omega)).on hB) (by omega) (by omega) hfa.out).mono ?_
                rintro e w6 ⟨Ae, ce, Be, de, rfl, me1, me2, me3, me4, me5, me6, kb⟩
                replace ra := rowIs_on ra kb
                replace hB := onS hB kb
                replace r7 := rowIs_on r7 kb
                clear kb
                obtain ⟨pe, hp⟩ : ∃ p, p = evR a x m := ⟨_, rfl⟩
                rw [← hp] at me1 me2 me3 me5 ⊢
                have HPe := hid hp
                clear hp
                refine hK.out _ _ (HS.out _ ra) (fun hHeld => ?_)
                clear hK K
                try simp only [Act.put, List.setIfInBounds_toArray, List.set_cons_zero, List.set_cons_succ]
                refine wpAnyH_ready (rs := [5, 7]) (by kernel_rfl) (by simp) ?_
                refine AllReadyH.cons (by simp only [List.getElem?_toArray, List.getElem?_cons_succ, List.getElem?_cons_zero]; rfl) (fun K hK => ?_) (AllReadyH.cons (by simp only [List.getElem?_toArray, List.getElem?_cons_succ, List.getElem?_cons_zero]; rfl) (fun K hK => ?_) AllReadyH.nil)
                · go_simp
                  go_wp2_with fail
                  refine (chEval_fit ((ht'.mono (show 4 ≤ 4000 by omega)).on hB) ((hx.mono (by omega)).on hB) (by omega) (by omega) hfb.out).mono ?_
                  rintro e w7 ⟨Af, cf, Bf, df, rfl, mf1, mf2, mf3, mf4, mf5, mf6, kb⟩
                  replace ra := rowIs_on ra kb
                  replace hB := onS hB kb
                  replace r7 := rowIs_on r7 kb
                  replace me1 := me1.on kb
                  replace me2 := me2.on kb
                  clear kb
                  obtain ⟨pf, hp⟩ : ∃ p, p = evR b x m' := ⟨_, rfl⟩
                  rw [← hp] at mf1 mf2 mf3 mf5 ⊢
                  have HPf := hid hp
                  clear hp
                  refine hK.out _ _ (HS.out _ ra) (fun hHeld => ?_)
                  clear hK K
                  try simp only [Act.put, List.setIfInBounds_toArray, List.set_cons_zero, List.set_cons_succ]
                  refine wpAnyH_ready (rs := [7]) (by kernel_rfl) (by simp) ?_
                  refine AllReadyH.cons (by simp only [List.getElem?_toArray, List.getElem?_cons_succ, List.getElem?_cons_zero]; rfl) (fun K hK => ?_) AllReadyH.nil
                  go_simp
                  have kb := below_one w7 (.cells #[.bool false, .slice none 0 0, .slice none 0 0] 32)
                  have r8 := box_row (w := w7) (a := .bool false) (b := .slice none 0 0) (c := .slice none 0 0) (T := 32)
                  have hl8ra := ra.lt
                  have hl8r7 := r7.lt
                  replace ra := rowIs_on ra kb
                  replace hB := onS hB kb
                  replace r7 := rowIs_on r7 kb
                  replace me1 := me1.on kb
                  replace me2 := me2.on kb
                  replace mf1 := mf1.on kb
                  replace mf2 := mf2.on kb
                  clear kb
                  obtain ⟨w8, hww⟩ : ∃ W, W = World.alloc w7 (.cells #[.bool false, .slice none 0 0, .slice none 0 0] 32) := ⟨_, rfl⟩
                  rw [← hww] at ra hB r7 me1 me2 mf1 mf2 r8 ⊢
                  obtain ⟨g8, hgg⟩ : ∃ g, g = w7.heap.size := ⟨_, rfl⟩
                  rw [← hgg] at r8 hl8ra hl8r7 ⊢
                  clear hww hgg
                  refine hK.out _ _ (HS.out _ ra) (fun hHeld => ?_)
                  clear hK K
                  try simp only [Act.put, List.setIfInBounds_toArray, List.set_cons_zero, List.set_cons_succ]
                  refine wpAnyH_ready (rs := [8]) (by kernel_rfl) (by simp) ?_
                  refine AllReadyH.cons (by simp only [List.getElem?_toArray, List.getElem?_cons_succ, List.getElem?_cons_zero]; rfl) (fun K hK => ?_) AllReadyH.nil
                  have hsz := hB.size
                  have za0 := r7.frozen 0
                  have za1 := r7.frozen 1
                  have za2 := r7.frozen 2
                  have ya0 : w8.cell? ⟨g7, 0, none⟩ = some _ := r7.cell (i := 0) (by omega)
                  have ya1 : w8.cell? ⟨g7, 1, none⟩ = some _ := r7.cell (i := 1) (by omega)
                  have ya2 : w8.cell? ⟨g7, 2, none⟩ = some _ := r7.cell (i := 2) (by omega)
                  go_simp
                  generalize hw3 : World.setCell _ _ _ = w9
                  have hst : RatStored w8 (g7) 32 (rneg (pe)) (Ae) (dl (pe).num.natAbs) (ce) (Be) (dl (pe).den) (de) w9 := by rw [← hw3]; exact rat_stored r7 _ _ _ _ _ _ _
                  clear hw3
                  replace ra := rowIs_grown ra hst.grown (by omega)
                  replace hB := hst.below hB (by omega) (by omega)
                  replace r7 := hst.row
                  replace me1 := hst.nat _ _ _ me1
                  rw [← hst.size] at me1
                  replace me2 := hst.nat _ _ _ me2
                  rw [← hst.size] at me2
                  replace mf1 := hst.nat _ _ _ mf1
                  rw [← hst.size] at mf1
                  replace mf2 := hst.nat _ _ _ mf2
                  rw [← hst.size] at mf2
                  replace r8 := rowIs_grown r8 hst.grown (by omega)
                  clear hst
                  clear hsz za0 za1 za2 ya0 ya1 ya2
                  refine hK.out _ _ (HS.out _ ra) (fun hHeld => ?_)
                  clear hK K
                  try simp only [Act.put, List.setIfInBounds_toArray, List.set_cons_zero, List.set_cons_succ]
                  refine wpAnyH_ready (rs := [9]) (by kernel_rfl) (by simp) ?_
                  refine AllReadyH.cons (by simp only [List.getElem?_toArray, List.getElem?_cons_succ, List.getElem?_cons_zero]; rfl) (fun K hK => ?_) AllReadyH.nil
                  have hsz := hB.size
                  have za0 := r8.frozen 0
                  have za1 := r8.frozen 1
                  have za2 := r8.frozen 2
                  have ya0 : w9.cell? ⟨g8, 0, none⟩ = some _ := r8.cell (i := 0) (by omega)
                  have ya1 : w9.cell? ⟨g8, 1, none⟩ = some _ := r8.cell (i := 1) (by omega)
                  have ya2 : w9.cell? ⟨g8, 2, none⟩ = some _ := r8.cell (i := 2) (by omega)
                  go_simp
                  generalize hw3 : World.setCell _ _ _ = w10
                  have hst : RatStored w9 (g8) 32 (rneg (pf)) (Af) (dl (pf).num.natAbs) (cf) (Bf) (dl (pf).den) (df) w10 := by rw [← hw3]; exact rat_stored r8 _ _ _ _ _ _ _
                  clear hw3
                  replace ra := rowIs_grown ra hst.grown (by omega)
                  replace hB := hst.below hB (by omega) (by omega)
                  replace r7 := rowIs_grown r7 hst.grown (by omega)
                  replace me1 := hst.nat _ _ _ me1
                  rw [← hst.size] at me1
                  replace me2 := hst.nat _ _ _ me2
                  rw [← hst.size] at me2
                  replace mf1 := hst.nat _ _ _ mf1
                  rw [← hst.size] at mf1
                  replace mf2 := hst.nat _ _ _ mf2
                  rw [← hst.size] at mf2
                  replace r8 := hst.row
                  clear hst
                  clear hsz za0 za1 za2 ya0 ya1 ya2
                  refine hK.out _ _ (HS.out _ ra) (fun hHeld => ?_)
                  clear hK K
                  try simp only [Act.put, List.setIfInBounds_toArray, List.set_cons_zero, List.set_cons_succ]
                  refine wpAnyH_done (by kernel_rfl) ?_ _
                  clear hHeld
                  rw [HPe.out] at me1 me2 me3 me5 r7
                  rw [HPf.out] at mf1 mf2 mf3 mf5 r8
                  go_wp2
                  go_meet
                  exact ⟨g7, g8, Ae, ce, Be, de, Af, cf, Bf, df, rfl, rfl, me3, me4, me5, me6, me1, me2, mf3, mf4, mf5, mf6, mf1, mf2, r7, r8, ra, hB⟩
                · go_simp
                  have kb := below_one w6 (.cells #[.bool false, .slice none 0 0, .slice none 0 0] 32)
                  have r8 := box_row (w := w6) (a := .bool false) (b := .slice none 0 0) (c := .slice none 0 0) (T := 32)
                  have hl8ra := ra.lt
                  have hl8r7 := r7.lt
                  replace ra := rowIs_on ra kb
                  replace hB := onS hB kb
                  replace r7 := rowIs_on r7 kb
                  replace me1 := me1.on kb
                  replace me2 := me2.on kb
                  clear kb
                  obtain ⟨w7, hww⟩ : ∃ W, W = World.alloc w6 (.cells #[.bool false, .slice none 0 0, .slice none 0 0] 32) := ⟨_, rfl⟩
                  rw [← hww] at ra hB r7 me1 me2 r8 ⊢
                  obtain ⟨g8, hgg⟩ : ∃ g, g = w6.heap.size := ⟨_, rfl⟩
                  rw [← hgg] at r8 hl8ra hl8r7 ⊢
                  clear hww hgg
                  refine hK.out _ _ (HS.out _ ra) (fun hHeld => ?_)
                  clear hK K
                  try simp only [Act.put, List.setIfInBounds_toArray, List.set_cons_zero, List.set_cons_succ]
                  refine wpAnyH_ready (rs := [5]) (by kernel_rfl) (by simp) ?_
                  refine AllReadyH.cons (by simp only [List.getElem?_toArray, List.getElem?_cons_succ, List.getElem?_cons_zero]; rfl) (fun K hK => ?_) AllReadyH.nil
                  go_simp
                  go_wp2_with fail
                  refine (chEval_fit ((ht'.mono (show 4 ≤ 4000 by omega)).on hB) ((hx.mono (by omega)).on hB) (by omega) (by omega) hfb.out).mono ?_
                  rintro e w8 ⟨Af, cf, Bf, df, rfl, mf1, mf2, mf3, mf4, mf5, mf6, kb⟩
                  replace ra := rowIs_on ra kb
                  replace hB := onS hB kb
                  replace r7 := rowIs_on r7 kb
                  replace me1 := me1.on kb
                  replace me2 := me2.on kb
                  replace r8 := rowIs_on r8 kb
                  clear kb
                  obtain ⟨pf, hp⟩ : ∃ p, p = evR b x m' := ⟨_, rfl⟩
                  rw [← hp] at mf1 mf2 mf3 mf5 ⊢
                  have HPf := hid hp
                  clear hp
                  refine hK.out _ _ (HS.out _ ra) (fun hHeld => ?_)
                  clear hK K
                  try simp only [Act.put, List.setIfInBounds_toArray, List.set_cons_zero, List.set_cons_succ]
                  refine wpAnyH_ready (rs := [8]) (by kernel_rfl) (by simp) ?_
                  refine AllReadyH.cons (by simp only [List.getElem?_toArray, List.getElem?_cons_succ, List.getElem?_cons_zero]; rfl) (fun K hK => ?_) AllReadyH.nil
                  have hsz := hB.size
                  have za0 := r7.frozen 0
                  have za1 := r7.frozen 1
                  have za2 := r7.frozen 2
                  have ya0 : w8.cell? ⟨g7, 0, none⟩ = some _ := r7.cell (i := 0) (by omega)
                  have ya1 : w8.cell? ⟨g7, 1, none⟩ = some _ := r7.cell (i := 1) (by omega)
                  have ya2 : w8.cell? ⟨g7, 2, none⟩ = some _ := r7.cell (i := 2) (by omega)
                  go_simp
                  generalize hw3 : World.setCell _ _ _ = w9
                  have hst : RatStored w8 (g7) 32 (rneg (pe)) (Ae) (dl (pe).num.natAbs) (ce) (Be) (dl (pe).den) (de) w9 := by rw [← hw3]; exact rat_stored r7 _ _ _ _ _ _ _
                  clear hw3
                  replace ra := rowIs_grown ra hst.grown (by omega)
                  replace hB := hst.below hB (by omega) (by omega)
                  replace r7 := hst.row
                  replace me1 := hst.nat _ _ _ me1
                  rw [← hst.size] at me1
                  replace me2 := hst.nat _ _ _ me2
                  rw [← hst.size] at me2
                  replace r8 := rowIs_grown r8 hst.grown (by omega)
                  replace mf1 := hst.nat _ _ _ mf1
                  rw [← hst.size] at mf1
                  replace mf2 := hst.nat _ _ _ mf2
                  rw [← hst.size] at mf2
                  clear hst
                  clear hsz za0 za1 za2 ya0 ya1 ya2
                  refine hK.out _ _ (HS.out _ ra) (fun hHeld => ?_)
                  clear hK K
                  try simp only [Act.put, List.setIfInBounds_toArray, List.set_cons_zero, List.set_cons_succ]
                  refine wpAnyH_ready (rs := [9]) (by kernel_rfl) (by simp) ?_
                  refine AllReadyH.cons (by simp only [List.getElem?_toArray, List.getElem?_cons_succ, List.getElem?_cons_zero]; rfl) (fun K hK => ?_) AllReadyH.nil
                  have hsz := hB.size
                  have za0 := r8.frozen 0
                  have za1 := r8.frozen 1
                  have za2 := r8.frozen 2
                  have ya0 : w9.cell? ⟨g8, 0, none⟩ = some _ := r8.cell (i := 0) (by omega)
                  have ya1 : w9.cell? ⟨g8, 1, none⟩ = some _ := r8.cell (i := 1) (by omega)
                  have ya2 : w9.cell? ⟨g8, 2, none⟩ = some _ := r8.cell (i := 2) (by omega)
                  go_simp
                  generalize hw3 : World.setCell _ _ _ = w10
                  have hst : RatStored w9 (g8) 32 (rneg (pf)) (Af) (dl (pf).num.natAbs) (cf) (Bf) (dl (pf).den) (df) w10 := by rw [← hw3]; exact rat_stored r8 _ _ _ _ _ _ _
                  clear hw3
                  replace ra := rowIs_grown ra hst.grown (by omega)
                  replace hB := hst.below hB (by omega) (by omega)
                  replace r7 := rowIs_grown r7 hst.grown (by omega)
                  replace me1 := hst.nat _ _ _ me1
                  rw [← hst.size] at me1
                  replace me2 := hst.nat _ _ _ me2
                  rw [← hst.size] at me2
                  replace r8 := hst.row
                  replace mf1 := hst.nat _ _ _ mf1
                  rw [← hst.size] at mf1
                  replace mf2 := hst.nat _ _ _ mf2
                  rw [← hst.size] at mf2
                  clear hst
                  clear hsz za0 za1 za2 ya0 ya1 ya2
                  refine hK.out _ _ (HS.out _ ra) (fun hHeld => ?_)
                  clear hK K
                  try simp only [Act.put, List.setIfInBounds_toArray, List.set_cons_zero, List.set_cons_succ]
                  refine wpAnyH_done (by kernel_rfl) ?_ _
                  clear hHeld
                  rw [HPe.out] at me1 me2 me3 me5 r7
                  rw [HPf.out] at mf1 mf2 mf3 mf5 r8
                  go_wp2
                  go_meet
                  exact ⟨g7, g8, Ae, ce, Be, de, Af, cf, Bf, df, rfl, rfl, me3, me4, me5, me6, me1, me2, mf3, mf4, mf5, mf6, mf1, mf2, r7, r8, ra, hB⟩
              · go_simp
                have kb := below_one w5 (.cells #[.bool false, .slice none 0 0, .slice none 0 0] 32)
                have r8 := box_row (w := w5) (a := .bool false) (b := .slice none 0 0) (c := .slice none 0 0) (T := 32)
                have hl8ra := ra.lt
                have hl8r7 := r7.lt
                replace ra := rowIs_on ra kb
                replace hB := onS hB kb
                replace r7 := rowIs_on r7 kb
                clear kb
                obtain ⟨w6, hww⟩ : ∃ W, W = World.alloc w5 (.cells #[.bool false, .slice none 0 0, .slice none 0 0] 32) := ⟨_, rfl⟩
                rw [← hww] at ra hB r7 r8 ⊢
                obtain ⟨g8, hgg⟩ : ∃ g, g = w5.heap.size := ⟨_, rfl⟩
                rw [← hgg] at r8 hl8ra hl8r7 ⊢
                clear hww hgg
                refine hK.out _ _ (HS.out _ ra) (fun hHeld => ?_)
                clear hK K
                try simp only [Act.put, List.setIfInBounds_toArray, List.set_cons_zero, List.set_cons_succ]
                refine wpAnyH_ready (rs := [2]) (by kernel_rfl) (by simp) ?_
                refine AllReadyH.cons (by simp only [List.getElem?_toArray, List.getElem?_cons_succ, List.getElem?_cons_zero]; rfl) (fun K hK => ?_) AllReadyH.nil
                go_simp
                go_wp2_with fail
                refine (chEval_fit ((ht.mono (show 4 ≤ 4000 by omega)).on hB) ((hx.mono (by omega)).on hB) (by omega) (by omega) hfa.out).mono ?_
                rintro e w7 ⟨Ae, ce, Be, de, rfl, me1, me2, me3, me4, me5, me6, kb⟩
                replace ra := rowIs_on ra kb
                replace hB := onS hB kb
                replace r7 := rowIs_on r7 kb
                replace r8 := rowIs_on r8 kb
                clear kb
                obtain ⟨pe, hp⟩ : ∃ p, p = evR a x m := ⟨_, rfl⟩
                rw [← hp] at me1 me2 me3 me5 ⊢
                have HPe := hid hp
                clear hp
                refine hK.out _ _ (HS.out _ ra) (fun hHeld => ?_)
                clear hK K
                try simp only [Act.put, List.setIfInBounds_toArray, List.set_cons_zero, List.set_cons_succ]
                refine wpAnyH_ready (rs := [5]) (by kernel_rfl) (by simp) ?_
                refine AllReadyH.cons (by simp only [List.getElem?_toArray, List.getElem?_cons_succ, List.getElem?_cons_zero]; rfl) (fun K hK => ?_) AllReadyH.nil
                go_simp
                go_wp2_with fail
                refine (chEval_fit ((ht'.mono (show 4 ≤ 4000 by omega)).on hB) ((hx.mono (by omega)).on hB) (by omega) (by omega) hfb.out).mono ?_
                rintro e w8 ⟨Af, cf, Bf, df, rfl, mf1, mf2, mf3, mf4, mf5, mf6, kb⟩
                replace ra := rowIs_on ra kb
                replace hB := onS hB kb
                replace r7 := rowIs_on r7 kb
                replace r8 := rowIs_on r8 kb
                replace me1 := me1.on kb
                replace me2 := me2.on kb
                clear kb
                obtain ⟨pf, hp⟩ : ∃ p, p = evR b x m' := ⟨_, rfl⟩
                rw [← hp] at mf1 mf2 mf3 mf5 ⊢
                have HPf := hid hp
                clear hp
                refine hK.out _ _ (HS.out _ ra) (fun hHeld => ?_)
                clear hK K
                try simp only [Act.put, List.setIfInBounds_toArray, List.set_cons_zero, List.set_cons_succ]
                refine wpAnyH_ready (rs := [8]) (by kernel_rfl) (by simp) ?_
                refine AllReadyH.cons (by simp only [List.getElem?_toArray, List.getElem?_cons_succ, List.getElem?_cons_zero]; rfl) (fun K hK => ?_) AllReadyH.nil
                have hsz := hB.size
                have za0 := r7.frozen 0
                have za1 := r7.frozen 1
                have za2 := r7.frozen 2
                have ya0 : w8.cell? ⟨g7, 0, none⟩ = some _ := r7.cell (i := 0) (by omega)
                have ya1 : w8.cell? ⟨g7, 1, none⟩ = some _ := r7.cell (i := 1) (by omega)
                have ya2 : w8.cell? ⟨g7, 2, none⟩ = some _ := r7.cell (i := 2) (by omega)
                go_simp
                generalize hw3 : World.setCell _ _ _ = w9
                have hst : RatStored w8 (g7) 32 (rneg (pe)) (Ae) (dl (pe).num.natAbs) (ce) (Be) (dl (pe).den) (de) w9 := by rw [← hw3]; exact rat_stored r7 _ _ _ _ _ _ _
                clear hw3
                replace ra := rowIs_grown ra hst.grown (by omega)
                replace hB := hst.below hB (by omega) (by omega)
                replace r7 := hst.row
                replace r8 := rowIs_grown r8 hst.grown (by omega)
                replace me1 := hst.nat _ _ _ me1
                rw [← hst.size] at me1
                replace me2 := hst.nat _ _ _ me2
                rw [← hst.size] at me2
                replace mf1 := hst.nat _ _ _ mf1
                rw [← hst.size] at mf1
                replace mf2 := hst.nat _ _ _ mf2
                rw [← hst.size] at mf2
                clear hst
                clear hsz za0 za1 za2 ya0 ya1 ya2
                refine hK.out _ _ (HS.out _ ra) (fun hHeld => ?_)
                clear hK K
                try simp only [Act.put, List.setIfInBounds_toArray, List.set_cons_zero, List.set_cons_succ]
                refine wpAnyH_ready (rs := [9]) (by kernel_rfl) (by simp) ?_
                refine AllReadyH.cons (by simp only [List.getElem?_toArray, List.getElem?_cons_succ, List.getElem?_cons_zero]; rfl) (fun K hK => ?_) AllReadyH.nil
                have hsz := hB.size
                have za0 := r8.frozen 0
                have za1 := r8.frozen 1
                have za2 := r8.frozen 2
                have ya0 : w9.cell? ⟨g8, 0, none⟩ = some _ := r8.cell (i := 0) (by omega)
                have ya1 : w9.cell? ⟨g8, 1, none⟩ = some _ := r8.cell (i := 1) (by omega)
                have ya2 : w9.cell? ⟨g8, 2, none⟩ = some _ := r8.cell (i := 2) (by omega)
                go_simp
                generalize hw3 : World.setCell _ _ _ = w10
                have hst : RatStored w9 (g8) 32 (rneg (pf)) (Af) (dl (pf).num.natAbs) (cf) (Bf) (dl (pf).den) (df) w10 := by rw [← hw3]; exact rat_stored r8 _ _ _ _ _ _ _
                clear hw3
                replace ra := rowIs_grown ra hst.grown (by omega)
                replace hB := hst.below hB (by omega) (by omega)
                replace r7 := rowIs_grown r7 hst.grown (by omega)
                replace r8 := hst.row
                replace me1 := hst.nat _ _ _ me1
                rw [← hst.size] at me1
                replace me2 := hst.nat _ _ _ me2
                rw [← hst.size] at me2
                replace mf1 := hst.nat _ _ _ mf1
                rw [← hst.size] at mf1
                replace mf2 := hst.nat _ _ _ mf2
                rw [← hst.size] at mf2
                clear hst
                clear hsz za0 za1 za2 ya0 ya1 ya2
                refine hK.out _ _ (HS.out _ ra) (fun hHeld => ?_)
                clear hK K
                try simp only [Act.put, List.setIfInBounds_toArray, List.set_cons_zero, List.set_cons_succ]
                refine wpAnyH_done (by kernel_rfl) ?_ _
                clear hHeld
                rw [HPe.out] at me1 me2 me3 me5 r7
                rw [HPf.out] at mf1 mf2 mf3 mf5 r8
                go_wp2
                go_meet
                exact ⟨g7, g8, Ae, ce, Be, de, Af, cf, Bf, df, rfl, rfl, me3, me4, me5, me6, me1, me2, mf3, mf4, mf5, mf6, mf1, mf2, r7, r8, ra, hB⟩
            · go_simp
              have kb := below_one w4 (.cells #[.bool false, .slice none 0 0, .slice none 0 0] 32)
              have r8 := box_row (w := w4) (a := .bool false) (b := .slice none 0 0) (c := .slice none 0 0) (T := 32)
              have hl8ra := ra.lt
              replace ra := rowIs_on ra kb
              replace hB := onS hB kb
              clear kb
              obtain ⟨w5, hww⟩ : ∃ W, W = World.alloc w4 (.cells #[.bool false, .slice none 0 0, .slice none 0 0] 32) := ⟨_, rfl⟩
              rw [← hww] at ra hB r8 ⊢
              obtain ⟨g8, hgg⟩ : ∃ g, g = w4.heap.size := ⟨_, rfl⟩
              rw [← hgg] at r8 hl8ra ⊢
              clear hww hgg
              refine hK.out _ _ (HS.out _ ra) (fun hHeld => ?_)
              clear hK K
              try simp only [Act.put, List.setIfInBounds_toArray, List.set_cons_zero, List.set_cons_succ]
              refine wpAnyH_ready (rs := [2, 6]) (by kernel_rfl) (by simp) ?_
              refine AllReadyH.cons (by simp only [List.getElem?_toArray, List.getElem?_cons_succ, List.getElem?_cons_zero]; rfl) (fun K hK => ?_) (AllReadyH.cons (by simp only [List.getElem?_toArray, List.getElem?_cons_succ, List.getElem?_cons_zero]; rfl) (fun K hK => ?_) AllReadyH.nil)
              · go_simp
                go_wp2_with fail
                refine (chEval_fit ((ht.mono (show 4 ≤ 4000 by omega)).on hB) ((hx.mono (by omega)).on hB) (by omega) (by omega) hfa.out).mono ?_
                rintro e w6 ⟨Ae, ce, Be, de, rfl, me1, me2, me3, me4, me5, me6, kb⟩
                replace ra := rowIs_on ra kb
                replace hB := onS hB kb
                replace r8 := rowIs_on r8 kb
                clear kb
                obtain ⟨pe, hp⟩ : ∃ p, p = evR a x m := ⟨_, rfl⟩
                rw [← hp] at me1 me2 me3 me5 ⊢
                have HPe := hid hp
                clear hp
                refine hK.out _ _ (HS.out _ ra) (fun hHeld => ?_)
                clear hK K
                try simp only [Act.put, List.setIfInBounds_toArray, List.set_cons_zero, List.set_cons_succ]
                refine wpAnyH_ready (rs := [5, 6]) (by kernel_rfl) (by simp) ?_
                refine AllReadyH.cons (by simp only [List.getElem?_toArray, List.getElem?_cons_succ, List.getElem?_cons_zero]; rfl) (fun K hK => ?_) (AllReadyH.cons (by simp only [List.getElem?_toArray, List.getElem?_cons_succ, List.getElem?_cons_zero]; rfl) (fun K hK => ?_) AllReadyH.nil)
                · go_simp
                  go_wp2_with fail
                  refine (chEval_fit ((ht'.mono (show 4 ≤ 4000 by omega)).on hB) ((hx.mono (by omega)).on hB) (by omega) (by omega) hfb.out).mono ?_
                  rintro e w7 ⟨Af, cf, Bf, df, rfl, mf1, mf2, mf3, mf4, mf5, mf6, kb⟩
                  replace ra := rowIs_on ra kb
                  replace hB := onS hB kb
                  replace r8 := rowIs_on r8 kb
                  replace me1 := me1.on kb
                  replace me2 := me2.on kb
                  clear kb
                  obtain ⟨pf, hp⟩ : ∃ p, p = evR b x m' := ⟨_, rfl⟩
                  rw [← hp] at mf1 mf2 mf3 mf5 ⊢
                  have HPf := hid hp
                  clear hp
                  refine hK.out _ _ (HS.out _ ra) (fun hHeld => ?_)
                  clear hK K
                  try simp only [Act.put, List.setIfInBounds_toArray, List.set_cons_zero, List.set_cons_succ]
                  refine wpAnyH_ready (rs := [6]) (by kernel_rfl) (by simp) ?_
                  refine AllReadyH.cons (by simp only [List.getElem?_toArray, List.getElem?_cons_succ, List.getElem?_cons_zero]; rfl) (fun K hK => ?_) AllReadyH.nil
                  go_simp
                  have kb := below_one w7 (.cells #[.bool false, .slice none 0 0, .slice none 0 0] 32)
                  have r7 := box_row (w := w7) (a := .bool false) (b := .slice none 0 0) (c := .slice none 0 0) (T := 32)
                  have hl7ra := ra.lt
                  have hl7r8 := r8.lt
                  replace ra := rowIs_on ra kb
                  replace hB := onS hB kb
                  replace r8 := rowIs_on r8 kb
                  replace me1 := me1.on kb
                  replace me2 := me2.on kb
                  replace mf1 := mf1.on kb
                  replace mf2 := mf2.on kb
                  clear kb
                  obtain ⟨w8, hww⟩ : ∃ W, W = World.alloc w7 (.cells #[.bool false, .slice none 0 0, .slice none 0 0] 32) := ⟨_, rfl⟩
                  rw [← hww] at ra hB r8 me1 me2 mf1 mf2 r7 ⊢
                  obtain ⟨g7, hgg⟩ : ∃ g, g = w7.heap.size := ⟨_, rfl⟩
                  rw [← hgg] at r7 hl7ra hl7r8 ⊢
                  clear hww hgg
                  refine hK.out _ _ (HS.out _ ra) (fun hHeld => ?_)
                  clear hK K
                  try simp only [Act.put, List.setIfInBounds_toArray, List.set_cons_zero, List.set_cons_succ]
                  refine wpAnyH_ready (rs := [8]) (by kernel_rfl) (by simp) ?_
                  refine AllReadyH.cons (by simp only [List.getElem?_toArray, List.getElem?_cons_succ, List.getElem?_cons_zero]; rfl) (fun K hK => ?_) AllReadyH.nil
                  have hsz := hB.size
                  have za0 := r7.frozen 0
                  have za1 := r7.frozen 1
                  have za2 := r7.frozen 2
                  have ya0 : w8.cell? ⟨g7, 0, none⟩ = some _ := r7.cell (i := 0) (by omega)
                  have ya1 : w8.cell? ⟨g7, 1, none⟩ = some _ := r7.cell (i := 1) (by omega)
                  have ya2 : w8.cell? ⟨g7, 2, none⟩ = some _ := r7.cell (i := 2) (by omega)
                  go_simp
                  generalize hw3 : World.setCell _ _ _ = w9
                  have hst : RatStored w8 (g7) 32 (rneg (pe)) (Ae) (dl (pe).num.natAbs) (ce) (Be) (dl (pe).den) (de) w9 := by rw [← hw3]; exact rat_stored r7 _ _ _ _ _ _ _
                  clear hw3
                  replace ra := rowIs_grown ra hst.grown (by omega)
                  replace hB := hst.below hB (by omega) (by omega)
                  replace r8 := rowIs_grown r8 hst.grown (by omega)
                  replace me1 := hst.nat _ _ _ me1
                  rw [← hst.size] at me1
                  replace me2 := hst.nat _ _ _ me2
                  rw [← hst.size] at me2
                  replace mf1 := hst.nat _ _ _ mf1
                  rw [← hst.size] at mf1
                  replace mf2 := hst.nat _ _ _ mf2
                  rw [← hst.size] at mf2
                  replace r7 := hst.row
                  clear hst
                  clear hsz za0 za1 za2 ya0 ya1 ya2
                  refine hK.out _ _ (HS.out _ ra) (fun hHeld => ?_)
                  clear hK K
                  try simp only [Act.put, List.setIfInBounds_toArray, List.set_cons_zero, List.set_cons_succ]
                  refine wpAnyH_ready (rs := [9]) (by kernel_rfl) (by simp) ?_
                  refine AllReadyH.cons (by simp only [List.getElem?_toArray, List.getElem?_cons_succ, List.getElem?_cons_zero]; rfl) (fun K hK => ?_) AllReadyH.nil
                  have hsz := hB.size
                  have za0 := r8.frozen 0
                  have za1 := r8.frozen 1
                  have za2 := r8.frozen 2
                  have ya0 : w9.cell? ⟨g8, 0, none⟩ = some _ := r8.cell (i := 0) (by omega)
                  have ya1 : w9.cell? ⟨g8, 1, none⟩ = some _ := r8.cell (i := 1) (by omega)
                  have ya2 : w9.cell? ⟨g8, 2, none⟩ = some _ := r8.cell (i := 2) (by omega)
                  go_simp
                  generalize hw3 : World.setCell _ _ _ = w10
                  have hst : RatStored w9 (g8) 32 (rneg (pf)) (Af) (dl (pf).num.natAbs) (cf) (Bf) (dl (pf).den) (df) w10 := by rw [← hw3]; exact rat_stored r8 _ _ _ _ _ _ _
                  clear hw3
                  replace ra := rowIs_grown ra hst.grown (by omega)
                  replace hB := hst.below hB (by omega) (by omega)
                  replace r8 := hst.row
                  replace me1 := hst.nat _ _ _ me1
                  rw [← hst.size] at me1
                  replace me2 := hst.nat _ _ _ me2
                  rw [← hst.size] at me2
                  replace mf1 := hst.nat _ _ _ mf1
                  rw [← hst.size] at mf1
                  replace mf2 := hst.nat _ _ _ mf2
                  rw [← hst.size] at mf2
                  replace r7 := rowIs_grown r7 hst.grown (by omega)
                  clear hst
                  clear hsz za0 za1 za2 ya0 ya1 ya2
                  refine hK.out _ _ (HS.out _ ra) (fun hHeld => ?_)
                  clear hK K
                  try simp only [Act.put, List.setIfInBounds_toArray, List.set_cons_zero, List.set_cons_succ]
                  refine wpAnyH_done (by kernel_rfl) ?_ _
                  clear hHeld
                  rw [HPe.out] at me1 me2 me3 me5 r7
                  rw [HPf.out] at mf1 mf2 mf3 mf5 r8
                  go_wp2
                  go_meet
                  exact ⟨g7, g8, Ae, ce, Be, de, Af, cf, Bf, df, rfl, rfl, me3, me4, me5, me6, me1, me2, mf3, mf4, mf5, mf6, mf1, mf2, r7, r8, ra, hB⟩
                · go_simp
                  have kb := below_one w6 (.cells #[.bool false, .slice none 0 0, .slice none 0 0] 32)
                  have r7 := box_row (w := w6) (a := .bool false) (b := .slice none 0 0) (c := .slice none 0 0) (T := 32)
                  have hl7ra := ra.lt
                  have hl7r8 := r8.lt
                  replace ra := rowIs_on ra kb
                  replace hB := onS hB kb
                  replace r8 := rowIs_on r8 kb
                  replace me1 := me1.on kb
                  replace me2 := me2.on kb
                  clear kb
                  obtain ⟨w7, hww⟩ : ∃ W, W = World.alloc w6 (.cells #[.bool false, .slice none 0 0, .slice none 0 0] 32) := ⟨_, rfl⟩
                  rw [← hww] at ra hB r8 me1 me2 r7 ⊢
                  obtain ⟨g7, hgg⟩ : ∃ g, g = w6.heap.size := ⟨_, rfl⟩
                  rw [← hgg] at r7 hl7ra hl7r8 ⊢
                  clear hww hgg
                  refine hK.out _ _ (HS.out _ ra) (fun hHeld => ?_)
                  clear hK K
                  try simp only [Act.put, List.setIfInBounds_toArray, List.set_cons_zero, List.set_cons_succ]
                  refine wpAnyH_ready (rs := [5]) (by kernel_rfl) (by simp) ?_
                  refine AllReadyH.cons (by simp only [List.getElem?_toArray, List.getElem?_cons_succ, List.getElem?_cons_zero]; rfl) (fun K hK => ?_) AllReadyH.nil
                  go_simp
                  go_wp2_with fail
                  refine (chEval_fit ((ht'.mono (show 4 ≤ 4000 by omega)).on hB) ((hx.mono (by omega)).on hB) (by omega) (by omega) hfb.out).mono ?_
                  rintro e w8 ⟨Af, cf, Bf, df, rfl, mf1, mf2, mf3, mf4, mf5, mf6, kb⟩
                  replace ra := rowIs_on ra kb
                  replace hB := onS hB kb
                  replace r8 := rowIs_on r8 kb
                  replace me1 := me1.on kb
                  replace me2 := me2.on kb
                  replace r7 := rowIs_on r7 kb
                  clear kb
                  obtain ⟨pf, hp⟩ : ∃ p, p = evR b x m' := ⟨_, rfl⟩
                  rw [← hp] at mf1 mf2 mf3 mf5 ⊢
                  have HPf := hid hp
                  clear hp
                  refine hK.out _ _ (HS.out _ ra) (fun hHeld => ?_)
                  clear hK K
                  try simp only [Act.put, List.setIfInBounds_toArray, List.set_cons_zero, List.set_cons_succ]
                  refine wpAnyH_ready (rs := [8]) (by kernel_rfl) (by simp) ?_
                  refine AllReadyH.cons (by simp only [List.getElem?_toArray, List.getElem?_cons_succ, List.getElem?_cons_zero]; rfl) (fun K hK => ?_) AllReadyH.nil
                  have hsz := hB.size
                  have za0 := r7.frozen 0
                  have za1 := r7.frozen 1
                  have za2 := r7.frozen 2
                  have ya0 : w8.cell? ⟨g7, 0, none⟩ = some _ := r7.cell (i := 0) (by omega)
                  have ya1 : w8.cell? ⟨g7, 1, none⟩ = some _ := r7.cell (i := 1) (by omega)
                  have ya2 : w8.cell? ⟨g7, 2, none⟩ = some _ := r7.cell (i := 2) (by omega)
                  go_simp
                  generalize hw3 : World.setCell _ _ _ = w9
                  have hst : RatStored w8 (g7) 32 (rneg (pe)) (Ae) (dl (pe).num.natAbs) (ce) (Be) (dl (pe).den) (de) w9 := by rw [← hw3]; exact rat_stored r7 _ _ _ _ _ _ _
                  clear hw3
                  replace ra := rowIs_grown ra hst.grown (by omega)
                  replace hB := hst.below hB (by omega) (by omega)
                  replace r8 := rowIs_grown r8 hst.grown (by omega)
                  replace me1 := hst.nat _ _ _ me1
                  rw [← hst.size] at me1
                  replace me2 := hst.nat _ _ _ me2
                  rw [← hst.size] at me2
                  replace r7 := hst.row
                  replace mf1 := hst.nat _ _ _ mf1
                  rw [← hst.size] at mf1
                  replace mf2 := hst.nat _ _ _ mf2
                  rw [← hst.size] at mf2
                  clear hst
                  clear hsz za0 za1 za2 ya0 ya1 ya2
                  refine hK.out _ _ (HS.out _ ra) (fun hHeld => ?_)
                  clear hK K
                  try simp only [Act.put, List.setIfInBounds_toArray, List.set_cons_zero, List.set_cons_succ]
                  refine wpAnyH_ready (rs := [9]) (by kernel_rfl) (by simp) ?_
                  refine AllReadyH.cons (by simp only [List.getElem?_toArray, List.getElem?_cons_succ, List.getElem?_cons_zero]; rfl) (fun K hK => ?_) AllReadyH.nil
                  have hsz := hB.size
                  have za0 := r8.frozen 0
                  have za1 := r8.frozen 1
                  have za2 := r8.frozen 2
                  have ya0 : w9.cell? ⟨g8, 0, none⟩ = some _ := r8.cell (i := 0) (by omega)
                  have ya1 : w9.cell? ⟨g8, 1, none⟩ = some _ := r8.cell (i := 1) (by omega)
                  have ya2 : w9.cell? ⟨g8, 2, none⟩ = some _ := r8.cell (i := 2) (by omega)
                  go_simp
                  generalize hw3 : World.setCell _ _ _ = w10
                  have hst : RatStored w9 (g8) 32 (rneg (pf)) (Af) (dl (pf).num.natAbs) (cf) (Bf) (dl (pf).den) (df) w10 := by rw [← hw3]; exact rat_stored r8 _ _ _ _ _ _ _
                  clear hw3
                  replace ra := rowIs_grown ra hst.grown (by omega)
                  replace hB := hst.below hB (by omega) (by omega)
                  replace r8 := hst.row
                  replace me1 := hst.nat _ _ _ me1
                  rw [← hst.size] at me1
                  replace me2 := hst.nat _ _ _ me2
                  rw [← hst.size] at me2
                  replace r7 := rowIs_grown r7 hst.grown (by omega)
                  replace mf1 := hst.nat _ _ _ mf1
                  rw [← hst.size] at mf1
                  replace mf2 := hst.nat _ _ _ mf2
                  rw [← hst.size] at mf2
                  clear hst
                  clear hsz za0 za1 za2 ya0 ya1 ya2
                  refine hK.out _ _ (HS.out _ ra) (fun hHeld => ?_)
                  clear hK K
                  try simp only [Act.put, List.setIfInBounds_toArray, List.set_cons_zero, List.set_cons_succ]
                  refine wpAnyH_done (by kernel_rfl) ?_ _
                  clear hHeld
                  rw [HPe.out] at me1 me2 me3 me5 r7
                  rw [HPf.out] at mf1 mf2 mf3 mf5 r8
                  go_wp2
                  go_meet
                  exact ⟨g7, g8, Ae, ce, Be, de, Af, cf, Bf, df, rfl, rfl, me3, me4, me5, me6, me1, me2, mf3, mf4, mf5, mf6, mf1, mf2, r7, r8, ra, hB⟩
              · go_simp
                have kb := below_one w5 (.cells #[.bool false, .slice none 0 0, .slice none 0 0] 32)
                have r7 := box_row (w := w5) (a := .bool false) (b := .slice none 0 0) (c := .slice none 0 0) (T := 32)
                have hl7ra := ra.lt
                have hl7r8 := r8.lt
                replace ra := rowIs_on ra kb
                replace hB := onS hB kb
                replace r8 := rowIs_on r8 kb
                clear kb
                obtain ⟨w6, hww⟩ : ∃ W, W = World.alloc w5 (.cells #[.bool false, .slice none 0 0, .slice none 0 0] 32) := ⟨_, rfl⟩
                rw [← hww] at ra hB r8 r7 ⊢
                obtain ⟨g7, hgg⟩ : ∃ g, g = w5.heap.size := ⟨_, rfl⟩
                rw [← hgg] at r7 hl7ra hl7r8 ⊢
                clear hww hgg
                refine hK.out _ _ (HS.out _ ra) (fun hHeld => ?_)
                clear hK K
                try simp only [Act.put, List.setIfInBounds_toArray, List.set_cons_zero, List.set_cons_succ]
                refine wpAnyH_ready (rs := [2]) (by kernel_rfl) (by simp) ?_
                refine AllReadyH.cons (by simp only [List.getElem?_toArray, List.getElem?_cons_succ, List.getElem?_cons_zero]; rfl) (fun K hK => ?_) AllReadyH.nil
                go_simp
                go_wp2_with fail
                refine (chEval_fit ((ht.mono (show 4 ≤ 4000 by omega)).on hB) ((hx.mono (by omega)).on hB) (by omega) (by omega) hfa.out).mono ?_
                rintro e w7 ⟨Ae, ce, Be, de, rfl, me1, me2, me3, me4, me5, me6, kb⟩
                replace ra := rowIs_on ra kb
                replace hB := onS hB kb
                replace r8 := rowIs_on r8 kb
                replace r7 := rowIs_on r7 kb
                clear kb
                obtain ⟨pe, hp⟩ : ∃ p, p = evR a x m := ⟨_, rfl⟩
                rw [← hp] at me1 me2 me3 me5 ⊢
                have HPe := hid hp
                clear hp
                refine hK.out _ _ (HS.out _ ra) (fun hHeld => ?_)
                clear hK K
                try simp only [Act.put, List.setIfInBounds_toArray, List.set_cons_zero, List.set_cons_succ]
                refine wpAnyH_ready (rs := [5]) (by kernel_rfl) (by simp) ?_
                refine AllReadyH.cons (by simp only [List.getElem?_toArray, List.getElem?_cons_succ, List.getElem?_cons_zero]; rfl) (fun K hK => ?_) AllReadyH.nil
                go_simp
                go_wp2_with fail
                refine (chEval_fit ((ht'.mono (show 4 ≤ 4000 by omega)).on hB) ((hx.mono (by omega)).on hB) (by omega) (by omega) hfb.out).mono ?_
                rintro e w8 ⟨Af, cf, Bf, df, rfl, mf1, mf2, mf3, mf4, mf5, mf6, kb⟩
                replace ra := rowIs_on ra kb
                replace hB := onS hB kb
                replace r8 := rowIs_on r8 kb
                replace r7 := rowIs_on r7 kb
                replace me1 := me1.on kb
                replace me2 := me2.on kb
                clear kb
                obtain ⟨pf, hp⟩ : ∃ p, p = evR b x m' := ⟨_, rfl⟩
                rw [← hp] at mf1 mf2 mf3 mf5 ⊢
                have HPf := hid hp
                clear hp
                refine hK.out _ _ (HS.out _ ra) (fun hHeld => ?_)
                clear hK K
                try simp only [Act.put, List.setIfInBounds_toArray, List.set_cons_zero, List.set_cons_succ]
                refine wpAnyH_ready (rs := [8]) (by kernel_rfl) (by simp) ?_
                refine AllReadyH.cons (by simp only [List.getElem?_toArray, List.getElem?_cons_succ, List.getElem?_cons_zero]; rfl) (fun K hK => ?_) AllReadyH.nil
                have hsz := hB.size
                have za0 := r7.frozen 0
                have za1 := r7.frozen 1
                have za2 := r7.frozen 2
                have ya0 : w8.cell? ⟨g7, 0, none⟩ = some _ := r7.cell (i := 0) (by omega)
                have ya1 : w8.cell? ⟨g7, 1, none⟩ = some _ := r7.cell (i := 1) (by omega)
                have ya2 : w8.cell? ⟨g7, 2, none⟩ = some _ := r7.cell (i := 2) (by omega)
                go_simp
                generalize hw3 : World.setCell _ _ _ = w9
                have hst : RatStored w8 (g7) 32 (rneg (pe)) (Ae) (dl (pe).num.natAbs) (ce) (Be) (dl (pe).den) (de) w9 := by rw [← hw3]; exact rat_stored r7 _ _ _ _ _ _ _
                clear hw3
                replace ra := rowIs_grown ra hst.grown (by omega)
                replace hB := hst.below hB (by omega) (by omega)
                replace r8 := rowIs_grown r8 hst.grown (by omega)
                replace r7 := hst.row
                replace me1 := hst.nat _ _ _ me1
                rw [← hst.size] at me1
                replace me2 := hst.nat _ _ _ me2
                rw [← hst.size] at me2
                replace mf1 := hst.nat _ _ _ mf1
                rw [← hst.size] at mf1
                replace mf2 := hst.nat _ _ _ mf2
                rw [← hst.size] at mf2
                clear hst
                clear hsz za0 za1 za2 ya0 ya1 ya2
                refine hK.out _ _ (HS.out _ ra) (fun hHeld => ?_)
                clear hK K
                try simp only [Act.put, List.setIfInBounds_toArray, List.set_cons_zero, List.set_cons_succ]
                refine wpAnyH_ready (rs := [9]) (by kernel_rfl) (by simp) ?_
                refine AllReadyH.cons (by simp only [List.getElem?_toArray, List.getElem?_cons_succ, List.getElem?_cons_zero]; rfl) (fun K hK => ?_) AllReadyH.nil
                have hsz := hB.size
                have za0 := r8.frozen 0
                have za1 := r8.frozen 1
                have za2 := r8.frozen 2
                have ya0 : w9.cell? ⟨g8, 0, none⟩ = some _ := r8.cell (i := 0) (by omega)
                have ya1 : w9.cell? ⟨g8, 1, none⟩ = some _ := r8.cell (i := 1) (by omega)
                have ya2 : w9.cell? ⟨g8, 2, none⟩ = some _ := r8.cell (i := 2) (by omega)
                go_simp
                generalize hw3 : World.setCell _ _ _ = w10
                have hst : RatStored w9 (g8) 32 (rneg (pf)) (Af) (dl (pf).num.natAbs) (cf) (Bf) (dl (pf).den) (df) w10 := by rw [← hw3]; exact rat_stored r8 _ _ _ _ _ _ _
                clear hw3
                replace ra := rowIs_grown ra hst.grown (by omega)
                replace hB := hst.below hB (by omega) (by omega)
                replace r8 := hst.row
                replace r7 := rowIs_grown r7 hst.grown (by omega)
                replace me1 := hst.nat _ _ _ me1
                rw [← hst.size] at me1
                replace me2 := hst.nat _ _ _ me2
                rw [← hst.size] at me2
                replace mf1 := hst.nat _ _ _ mf1
                rw [← hst.size] at mf1
                replace mf2 := hst.nat _ _ _ mf2
                rw [← hst.size] at mf2
                clear hst
                clear hsz za0 za1 za2 ya0 ya1 ya2
                refine hK.out _ _ (HS.out _ ra) (fun hHeld => ?_)
                clear hK K
                try simp only [Act.put, List.setIfInBounds_toArray, List.set_cons_zero, List.set_cons_succ]
                refine wpAnyH_done (by kernel_rfl) ?_ _
                clear hHeld
                rw [HPe.out] at me1 me2 me3 me5 r7
                rw [HPf.out] at mf1 mf2 mf3 mf5 r8
                go_wp2
                go_meet
                exact ⟨g7, g8, Ae, ce, Be, de, Af, cf, Bf, df, rfl, rfl, me3, me4, me5, me6, me1, me2, mf3, mf4, mf5, mf6, mf1, mf2, r7, r8, ra, hB⟩
          case rest =>
            clear ra hB
            obtain ⟨g7, g8, Ae, ce, Be, de, Af, cf, Bf, df, rfl, rfl, me3, me4, me5, me6, me1, me2, mf3, mf4, mf5, mf6, mf1, mf2, r7, r8, ra, hB⟩ := hcut
            obtain ⟨w0, hw0⟩ : ∃ W, W = wc := ⟨_, rfl⟩
            rw [← hw0] at me1 me2 mf1 mf2 r7 r8 ra hB ⊢
            clear hw0
            have hse := (hfa.out.low _ (Nat.le_refl _)).1
            obtain ⟨pe, hp⟩ : ∃ p, p = evR a x m := ⟨_, rfl⟩
            rw [← hp] at me1 me2 me3 me5 hse r7
            have HPe := hid hp
            clear hp
            have hsf := (hfb.out.low _ (Nat.le_refl _)).1
            obtain ⟨pf, hp⟩ : ∃ p, p = evR b x m' := ⟨_, rfl⟩
            rw [← hp] at mf1 mf2 mf3 mf5 hsf r8
            have HPf := hid hp
            clear hp
            go_wp2_with fail
            refine (refInt_any 3 _ (by omega) (by omega)).mono ?_
            rintro e w1 ⟨Ai, ci, Bi, di, rfl, mi1, mi2, mi3, mi4, mi5, mi6, kb⟩
            replace me1 := me1.on kb
            replace me2 := me2.on kb
            replace mf1 := mf1.on kb
            replace mf2 := mf2.on kb
            replace r7 := rowIs_on r7 kb
            replace r8 := rowIs_on r8 kb
            replace ra := rowIs_on ra kb
            replace hB := onS hB kb
            clear kb
            obtain ⟨q3, hq⟩ : ∃ q : Rat, q = ((3 : Int) : Rat) := ⟨_, rfl⟩
            rw [← hq] at mi1 mi2 mi3 mi5 ⊢
            have HQ3 := hid hq
            clear hq
            go_wp2_with fail
            refine (refInt_any 2 _ (by omega) (by omega)).mono ?_
            rintro e w2 ⟨Aj, cj, Bj, dj, rfl, mj1, mj2, mj3, mj4, mj5, mj6, kb⟩
            replace me1 := me1.on kb
            replace me2 := me2.on kb
            replace mf1 := mf1.on kb
            replace mf2 := mf2.on kb
            replace r7 := rowIs_on r7 kb
            replace r8 := rowIs_on r8 kb
            replace ra := rowIs_on ra kb
            replace hB := onS hB kb
            replace mi1 := mi1.on kb
            replace mi2 := mi2.on kb
            clear kb
            obtain ⟨q2, hq⟩ : ∃ q : Rat, q = ((2 : Int) : Rat) := ⟨_, rfl⟩
            rw [← hq] at mj1 mj2 mj3 mj5 ⊢
            have HQ2 := hid hq
            clear hq
            have hs3 : rsz q3 4 := by rw [HQ3.out]; exact ⟨by decide +kernel, by decide +kernel⟩
            have hs2 : rsz q2 4 := by rw [HQ2.out]; exact ⟨by decide +kernel, by decide +kernel⟩
            have kb := below_one w2 (.cells #[.bool (rneg (q3)), .slice (Ai) (dl (q3).num.natAbs) (ci), .slice (Bi) (dl (q3).den) (di), .bool (rneg (q2)), .slice (Aj) (dl (q2).num.natAbs) (cj), .slice (Bj) (dl (q2).den) (dj)] 32)
            have tb := ratTab_pair 32 (N := 4000) (ratPost_raw mi1 mi2 mi3 mi4 mi5 mi6 (hs3.mono (by omega))) (ratPost_raw mj1 mj2 mj3 mj4 mj5 mj6 (hs2.mono (by omega)))
            replace me1 := me1.on kb
            replace me2 := me2.on kb
            replace mf1 := mf1.on kb
            replace mf2 := mf2.on kb
            replace r7 := rowIs_on r7 kb
            replace r8 := rowIs_on r8 kb
            replace ra := rowIs_on ra kb
            replace hB := onS hB kb
            replace mi1 := mi1.on kb
            replace mi2 := mi2.on kb
            replace mj1 := mj1.on kb
            replace mj2 := mj2.on kb
            clear kb
            go_wp2_with fail
            obtain ⟨w3, hww⟩ : ∃ W, W = World.alloc w2 (.cells #[.bool (rneg (q3)), .slice (Ai) (dl (q3).num.natAbs) (ci), .slice (Bi) (dl (q3).den) (di), .bool (rneg (q2)), .slice (Aj) (dl (q2).num.natAbs) (cj), .slice (Bj) (dl (q2).den) (dj)] 32) := ⟨_, rfl⟩
            rw [← hww] at me1 me2 mf1 mf2 r7 r8 ra hB mi1 mi2 mj1 mj2 tb ⊢
            obtain ⟨gt, hgg⟩ : ∃ g, g = w2.heap.size := ⟨_, rfl⟩
            rw [← hgg] at tb ⊢
            clear hww hgg
            refine (refInt_any 5 _ (by omega) (by omega)).mono ?_
            rintro e w4 ⟨Ak, ck, Bk, dk, rfl, mk1, mk2, mk3, mk4, mk5, mk6, kb⟩
            replace me1 := me1.on kb
            replace me2 := me2.on kb
            replace mf1 := mf1.on kb
            replace mf2 := mf2.on kb
            replace r7 := rowIs_on r7 kb
            replace r8 := rowIs_on r8 kb
            replace ra := rowIs_on ra kb
            replace hB := onS hB kb
            replace mi1 := mi1.on kb
            replace mi2 := mi2.on kb
            replace mj1 := mj1.on kb
            replace mj2 := mj2.on kb
            replace tb := tb.on kb
            clear kb
            obtain ⟨q5, hq⟩ : ∃ q : Rat, q = ((5 : Int) : Rat) := ⟨_, rfl⟩
            rw [← hq] at mk1 mk2 mk3 mk5 ⊢
            have HQ5 := hid hq
            clear hq
            have hs5 : rsz q5 4 := by rw [HQ5.out]; exact ⟨by decide +kernel, by decide +kernel⟩
            have hf5 : EvalFits (pairR q3 q2) 2 q5 4000 := evalFits (E := 4) (N := 4) (fun i hi => by unfold pairR; split; exact hs3; exact hs2) hs5 (by omega) (by omega)
            have h13 : evR (pairR q3 q2) q5 2 = ((13 : Int) : Rat) := by rw [HQ3.out, HQ2.out, HQ5.out]; decide +kernel
            go_wp2_with fail
            refine (chEval_fit tb (ratPost_raw mk1 mk2 mk3 mk4 mk5 mk6 (hs5.mono (by omega))) (by omega) (by omega) hf5).mono ?_
            rintro e w5 ⟨Ag, cg, Bg, dg_, rfl, mg1, mg2, mg3, mg4, mg5, mg6, kb⟩
            replace me1 := me1.on kb
            replace me2 := me2.on kb
            replace mf1 := mf1.on kb
            replace mf2 := mf2.on kb
            replace r7 := rowIs_on r7 kb
            replace r8 := rowIs_on r8 kb
            replace ra := rowIs_on ra kb
            replace hB := onS hB kb
            replace mi1 := mi1.on kb
            replace mi2 := mi2.on kb
            replace mj1 := mj1.on kb
            replace mj2 := mj2.on kb
            replace tb := tb.on kb
            replace mk1 := mk1.on kb
            replace mk2 := mk2.on kb
            clear kb
            clear mi1 mi2 mi3 mi4 mi5 mi6
            clear mj1 mj2 mj3 mj4 mj5 mj6
            clear mk1 mk2 mk3 mk4 mk5 mk6
            clear tb hf5 hs3 hs2 hs5
            rw [h13] at mg1 mg2 mg3 mg5 ⊢
            clear h13 HQ3 HQ2 HQ5
            obtain ⟨q13, hq⟩ : ∃ q : Rat, q = ((13 : Int) : Rat) := ⟨_, rfl⟩
            rw [← hq] at mg1 mg2 mg3 mg5 ⊢
            have HQ13 := hid hq
            clear hq
            have hs13 : rsz q13 4 := by rw [HQ13.out]; exact ⟨by decide +kernel, by decide +kernel⟩
            have kb := below_one w5 (.cells #[.bool (rneg (q13)), .slice (Ag) (dl (q13).num.natAbs) (cg), .slice (Bg) (dl (q13).den) (dg_)] 32)
            have r9 := box_row (w := w5) (a := .bool (rneg (q13))) (b := .slice (Ag) (dl (q13).num.natAbs) (cg)) (c := .slice (Bg) (dl (q13).den) (dg_)) (T := 32)
            replace me1 := me1.on kb
            replace me2 := me2.on kb
            replace mf1 := mf1.on kb
            replace mf2 := mf2.on kb
            replace r7 := rowIs_on r7 kb
            replace r8 := rowIs_on r8 kb
            replace ra := rowIs_on ra kb
            replace hB := onS hB kb
            replace mg1 := mg1.on kb
            replace mg2 := mg2.on kb
            clear kb
            go_upto_region 5 with fail
            obtain ⟨w6, hww⟩ : ∃ W, W = World.alloc w5 (.cells #[.bool (rneg (q13)), .slice (Ag) (dl (q13).num.natAbs) (cg), .slice (Bg) (dl (q13).den) (dg_)] 32) := ⟨_, rfl⟩
            rw [← hww] at me1 me2 mf1 mf2 r7 r8 ra hB mg1 mg2 r9 ⊢
            obtain ⟨g9, hgg⟩ : ∃ g, g = w5.heap.size := ⟨_, rfl⟩
            rw [← hgg] at r9 ⊢
            clear hww hgg
            have HS : Hid (∀ w' : World, w'.rowIs (w.heap.size) 32 3 (ratCell (.bool (s)) (.slice (A) (n) (cx1)) (.slice (A2) (n2) (cx2))) → w'.rowIs (g7) 32 3 (ratCell (.bool (rneg (pe))) (.slice (Ae) (dl (pe).num.natAbs) (ce)) (.slice (Be) (dl (pe).den) (de))) → w'.rowIs (g8) 32 3 (ratCell (.bool (rneg (pf))) (.slice (Af) (dl (pf).num.natAbs) (cf)) (.slice (Bf) (dl (pf).den) (df))) → w'.rowIs (g9) 32 3 (ratCell (.bool (rneg (q13))) (.slice (Ag) (dl (q13).num.natAbs) (cg)) (.slice (Bg) (dl (q13).den) (dg_))) → w'.cell? ⟨w.heap.size, 0, none⟩ = some (.bool (s)) ∧ w'.cell? ⟨w.heap.size, 1, none⟩ = some (.slice (A) (n) (cx1)) ∧ w'.cell? ⟨w.heap.size, 2, none⟩ = some (.slice (A2) (n2) (cx2)) ∧ w'.cell? ⟨g7, 0, none⟩ = some (.bool (rneg (pe))) ∧ w'.cell? ⟨g7, 1, none⟩ = some (.slice (Ae) (dl (pe).num.natAbs) (ce)) ∧ w'.cell? ⟨g7, 2, none⟩ = some (.slice (Be) (dl (pe).den) (de)) ∧ w'.cell? ⟨g8, 0, none⟩ = some (.bool (rneg (pf))) ∧ w'.cell? ⟨g8, 1, none⟩ = some (.slice (Af) (dl (pf).num.natAbs) (cf)) ∧ w'.cell? ⟨g8, 2, none⟩ = some (.slice (Bf) (dl (pf).den) (df)) ∧ w'.cell? ⟨g9, 0, none⟩ = some (.bool (rneg (q13))) ∧ w'.cell? ⟨g9, 1, none⟩ = some (.slice (Ag) (dl (q13).num.natAbs) (cg)) ∧ w'.cell? ⟨g9, 2, none⟩ = some (.slice (Bg) (dl (q13).den) (dg_))) := fun w' h0 h1 h2 h3 => ⟨h0.cell (i := 0) (by omega), h0.cell (i := 1) (by omega), h0.cell (i := 2) (by omega), h1.cell (i := 0) (by omega), h1.cell (i := 1) (by omega), h1.cell (i := 2) (by omega), h2.cell (i := 0) (by omega), h2.cell (i := 1) (by omega), h2.cell (i := 2) (by omega), h3.cell (i := 0) (by omega), h3.cell (i := 1) (by omega), h3.cell (i := 2) (by omega)⟩
            refine wp_region_held_drew (S := fun w' => w'.cell? ⟨w.heap.size, 0, none⟩ = some (.bool (s)) ∧ w'.cell? ⟨w.heap.size, 1, none⟩ = some (.slice (A) (n) (cx1)) ∧ w'.cell? ⟨w.heap.size, 2, none⟩ = some (.slice (A2) (n2) (cx2)) ∧ w'.cell? ⟨g7, 0, none⟩ = some (.bool (rneg (pe))) ∧ w'.cell? ⟨g7, 1, none⟩ = some (.slice (Ae) (dl (pe).num.natAbs) (ce)) ∧ w'.cell? ⟨g7, 2, none⟩ = some (.slice (Be) (dl (pe).den) (de)) ∧ w'.cell? ⟨g8, 0, none⟩ = some (.bool (rneg (pf))) ∧ w'.cell? ⟨g8, 1, none⟩ = some (.slice (Af) (dl (pf).num.natAbs) (cf)) ∧ w'.cell? ⟨g8, 2, none⟩ = some (.slice (Bf) (dl (pf).den) (df)) ∧ w'.cell? ⟨g9, 0, none⟩ = some (.bool (rneg (q13))) ∧ w'.cell? ⟨g9, 1, none⟩ = some (.slice (Ag) (dl (q13).num.natAbs) (cg)) ∧ w'.cell? ⟨g9, 2, none⟩ = some (.slice (Bg) (dl (q13).den) (dg_))) (by kernel_rfl) (HS.out _ (show World.rowIs (World.drew _) _ _ _ _ from ra) (show World.rowIs (World.drew _) _ _ _ _ from r7) (show World.rowIs (World.drew _) _ _ _ _ from r8) (show World.rowIs (World.drew _) _ _ _ _ from r9)) (fun hHeld => ?_)
            obtain ⟨w7, hw⟩ : ∃ W, W = World.drew w6 := ⟨_, rfl⟩
            have kb : Below w6.heap.size w6 w7 := by rw [hw]; exact (Below.refl _ _).drew
            rw [← hw] at hHeld ⊢
            clear hw
            replace me1 := me1.on kb
            replace me2 := me2.on kb
            replace mf1 := mf1.on kb
            replace mf2 := mf2.on kb
            replace r7 := rowIs_on r7 kb
            replace r8 := rowIs_on r8 kb
            replace ra := rowIs_on ra kb
            replace hB := onS hB kb
            replace mg1 := mg1.on kb
            replace mg2 := mg2.on kb
            replace r9 := rowIs_on r9 kb
            clear kb
            refine wpAnyH_take (i := 0) (v := ?_) (by simp only [List.getElem?_toArray, List.getElem?_cons_zero]; rfl) (by kernel_rfl) (by kernel_rfl) (by kernel_rfl) (by exact fun _ _ _ h => h) (Or.inl ⟨by rfl, ?_⟩) (by assumption) ?_
            rotate_left
            · (intro w hSw; (try dsimp only at hSw); go_simp); first | done | with_reducible rfl
            try simp only [Act.put, List.setIfInBounds_toArray, List.set_cons_zero, List.set_cons_succ]
            refine wpAnyH_ready (rs := [1]) (by kernel_rfl) (by simp) ?_
            refine AllReadyH.cons (by simp only [List.getElem?_toArray, List.getElem?_cons_succ, List.getElem?_cons_zero]; rfl) (fun K hK => ?_) AllReadyH.nil
            go_simp
            go_wp2_with fail
            refine (refInt_any 13 _ (by omega) (by omega)).mono ?_
            rintro e w8 ⟨Ah, ch, Bh, dh, rfl, mh1, mh2, mh3, mh4, mh5, mh6, kb⟩
            replace me1 := me1.on kb
            replace me2 := me2.on kb
            replace mf1 := mf1.on kb
            replace mf2 := mf2.on kb
            replace r7 := rowIs_on r7 kb
            replace r8 := rowIs_on r8 kb
            replace ra := rowIs_on ra kb
            replace hB := onS hB kb
            replace mg1 := mg1.on kb
            replace mg2 := mg2.on kb
            replace r9 := rowIs_on r9 kb
            clear kb
            rw [← HQ13.out] at mh1 mh2 mh3 mh5 ⊢
            refine hK.out _ _ (HS.out _ ra r7 r8 r9) (fun hHeld => ?_)
            clear hK K
            try simp only [Act.put, List.setIfInBounds_toArray, List.set_cons_zero, List.set_cons_succ]
            refine wpAnyH_ready (rs := [2]) (by kernel_rfl) (by simp) ?_
            refine AllReadyH.cons (by simp only [List.getElem?_toArray, List.getElem?_cons_succ, List.getElem?_cons_zero]; rfl) (fun K hK => ?_) AllReadyH.nil
            go_simp
            go_wp2_with fail
            refine (refSame02_any _ _ _ _ _ _ _ _ q13 4 _ mg1 mg2 mh1 mh2 (by omega) hs13).mono ?_
            rintro e w9 ⟨rfl, kb⟩
            replace me1 := me1.on kb
            replace me2 := me2.on kb
            replace mf1 := mf1.on kb
            replace mf2 := mf2.on kb
            replace r7 := rowIs_on r7 kb
            replace r8 := rowIs_on r8 kb
            replace ra := rowIs_on ra kb
            replace hB := onS hB kb
            replace mg1 := mg1.on kb
            replace mg2 := mg2.on kb
            replace r9 := rowIs_on r9 kb
            replace mh1 := mh1.on kb
            replace mh2 := mh2.on kb
            clear kb
            clear mh1 mh2 mh3 mh4 mh5 mh6
            refine hK.out _ _ (HS.out _ ra r7 r8 r9) (fun hHeld => ?_)
            clear hK K
            try simp only [Act.put, List.setIfInBounds_toArray, List.set_cons_zero, List.set_cons_succ]
            refine wpAnyH_take (i := 3) (v := ?_) (by simp only [List.getElem?_toArray, List.getElem?_cons_succ, List.getElem?_cons_zero]; rfl) (by kernel_rfl) (by kernel_rfl) (by kernel_rfl) (by exact fun _ _ _ h => h) (Or.inl ⟨by rfl, ?_⟩) (by assumption) ?_
            rotate_left
            · (intro w hSw; (try dsimp only at hSw); go_simp); first | done | with_reducible rfl
            try simp only [Act.put, List.setIfInBounds_toArray, List.set_cons_zero, List.set_cons_succ]
            refine wpAnyH_take (i := 4) (v := ?_) (by simp only [List.getElem?_toArray, List.getElem?_cons_succ, List.getElem?_cons_zero]; rfl) (by kernel_rfl) (by kernel_rfl) (by kernel_rfl) (by exact fun _ _ _ h => h) (Or.inl ⟨by rfl, ?_⟩) (by assumption) ?_
            rotate_left
            · (intro w hSw; (try dsimp only at hSw); go_simp); first | done | with_reducible rfl
            try simp only [Act.put, List.setIfInBounds_toArray, List.set_cons_zero, List.set_cons_succ]
            refine wpAnyH_take (i := 5) (v := ?_) (by simp only [List.getElem?_toArray, List.getElem?_cons_succ, List.getElem?_cons_zero]; rfl) (by kernel_rfl) (by kernel_rfl) (by kernel_rfl) (by exact fun _ _ _ h => h) (Or.inl ⟨by rfl, ?_⟩) (by assumption) ?_
            rotate_left
            · (intro w hSw; (try dsimp only at hSw); go_simp); first | done | with_reducible rfl
            try simp only [Act.put, List.setIfInBounds_toArray, List.set_cons_zero, List.set_cons_succ]
            refine wpAnyH_take (i := 7) (v := ?_) (by simp only [List.getElem?_toArray, List.getElem?_cons_succ, List.getElem?_cons_zero]; rfl) (by kernel_rfl) (by kernel_rfl) (by kernel_rfl) (by exact fun _ _ _ h => h) (Or.inl ⟨by rfl, ?_⟩) (by assumption) ?_
            rotate_left
            · (intro w hSw; (try dsimp only at hSw); go_simp); first | done | with_reducible rfl
            try simp only [Act.put, List.setIfInBounds_toArray, List.set_cons_zero, List.set_cons_succ]
            refine wpAnyH_take (i := 9) (v := ?_) (by simp only [List.getElem?_toArray, List.getElem?_cons_succ, List.getElem?_cons_zero]; rfl) (by kernel_rfl) (by kernel_rfl) (by kernel_rfl) (by exact fun _ _ _ h => h) (Or.inl ⟨by rfl, ?_⟩) (by assumption) ?_
            rotate_left
            · (intro w hSw; (try dsimp only at hSw); go_simp); first | done | with_reducible rfl
            try simp only [Act.put, List.setIfInBounds_toArray, List.set_cons_zero, List.set_cons_succ]
            refine wpAnyH_take (i := 10) (v := ?_) (by simp only [List.getElem?_toArray, List.getElem?_cons_succ, List.getElem?_cons_zero]; rfl) (by kernel_rfl) (by kernel_rfl) (by kernel_rfl) (by exact fun _ _ _ h => h) (Or.inl ⟨by rfl, ?_⟩) (by assumption) ?_
            rotate_left
            · (intro w hSw; (try dsimp only at hSw); go_simp); first | done | with_reducible rfl
            try simp only [Act.put, List.setIfInBounds_toArray, List.set_cons_zero, List.set_cons_succ]
            refine wpAnyH_ready (rs := [6]) (by kernel_rfl) (by simp) ?_
            refine AllReadyH.cons (by simp only [List.getElem?_toArray, List.getElem?_cons_succ, List.getElem?_cons_zero]; rfl) (fun K hK => ?_) AllReadyH.nil
            go_simp
            go_wp2_with fail
            refine ((chPAdd_any T T' m c m' c' 4 a b _ (ht.on hB) (ht'.on hB) (by omega) (by omega) (by omega) hra hrb).mono (fun e W' => HAD.out _ e W')).mono ?_
            rintro e w10 ⟨Ta, ca, rfl, la1, la2, la3, kb⟩
            replace me1 := me1.on kb
            replace me2 := me2.on kb
            replace mf1 := mf1.on kb
            replace mf2 := mf2.on kb
            replace r7 := rowIs_on r7 kb
            replace r8 := rowIs_on r8 kb
            replace ra := rowIs_on ra kb
            replace hB := onS hB kb
            replace mg1 := mg1.on kb
            replace mg2 := mg2.on kb
            replace r9 := rowIs_on r9 kb
            clear kb
            refine hK.out _ _ (HS.out _ ra r7 r8 r9) (fun hHeld => ?_)
            clear hK K
            try simp only [Act.put, List.setIfInBounds_toArray, List.set_cons_zero, List.set_cons_succ]
            refine wpAnyH_ready (rs := [8]) (by kernel_rfl) (by simp) ?_
            refine AllReadyH.cons (by simp only [List.getElem?_toArray, List.getElem?_cons_succ, List.getElem?_cons_zero]; rfl) (fun K hK => ?_) AllReadyH.nil
            go_simp
            go_wp2_with fail
            refine (chEval_fit (RatList.tab la3 (fun i hi => (hSS.out i hi).mono (by omega))) ((hx.mono (by omega)).on hB) (by omega) (by omega) hfS.out).mono ?_
            rintro e w11 ⟨Au, cu, Bu, du, rfl, mu1, mu2, mu3, mu4, mu5, mu6, kb⟩
            replace me1 := me1.on kb
            replace me2 := me2.on kb
            replace mf1 := mf1.on kb
            replace mf2 := mf2.on kb
            replace r7 := rowIs_on r7 kb
            replace r8 := rowIs_on r8 kb
            replace ra := rowIs_on ra kb
            replace hB := onS hB kb
            replace mg1 := mg1.on kb
            replace mg2 := mg2.on kb
            replace r9 := rowIs_on r9 kb
            replace la3 := la3.on kb
            clear kb
            have hsu := (hfS.out.low _ (Nat.le_refl _)).1
            obtain ⟨u, hu⟩ : ∃ u, u = evR S x ns := ⟨_, rfl⟩
            rw [← hu] at mu1 mu2 mu3 mu5 hsu ⊢
            have HU := hid hu
            clear hu
            clear la1 la2 la3
            refine hK.out _ _ (HS.out _ ra r7 r8 r9) (fun hHeld => ?_)
            clear hK K
            try simp only [Act.put, List.setIfInBounds_toArray, List.set_cons_zero, List.set_cons_succ]
            refine wpAnyH_ready (rs := [11]) (by kernel_rfl) (by simp) ?_
            refine AllReadyH.cons (by simp only [List.getElem?_toArray, List.getElem?_cons_succ, List.getElem?_cons_zero]; rfl) (fun K hK => ?_) AllReadyH.nil
            go_simp
            go_wp2_with fail
            refine (refAdd02_any _ _ pe pf 4000 _ (ratPost_raw me1 me2 me3 me4 me5 me6 hse) (ratPost_raw mf1 mf2 mf3 mf4 mf5 mf6 hsf) (by omega) hse hsf).mono ?_
            rintro e w12 ⟨Av, cv, Bv, dv, rfl, mv1, mv2, mv3, mv4, mv5, mv6, kb⟩
            replace me1 := me1.on kb
            replace me2 := me2.on kb
            replace mf1 := mf1.on kb
            replace mf2 := mf2.on kb
            replace r7 := rowIs_on r7 kb
            replace r8 := rowIs_on r8 kb
            replace ra := rowIs_on ra kb
            replace hB := onS hB kb
            replace mg1 := mg1.on kb
            replace mg2 := mg2.on kb
            replace r9 := rowIs_on r9 kb
            replace mu1 := mu1.on kb
            replace mu2 := mu2.on kb
            clear kb
            have huv : pe + pf = u := by rw [HU.out, HVS.out, HPe.out, HPf.out]
            rw [huv] at mv1 mv2 mv3 mv5 ⊢
            clear huv HU
            refine hK.out _ _ (HS.out _ ra r7 r8 r9) (fun hHeld => ?_)
            clear hK K
            try simp only [Act.put, List.setIfInBounds_toArray, List.set_cons_zero, List.set_cons_succ]
            refine wpAnyH_ready (rs := [12]) (by kernel_rfl) (by simp) ?_
            refine AllReadyH.cons (by simp only [List.getElem?_toArray, List.getElem?_cons_succ, List.getElem?_cons_zero]; rfl) (fun K hK => ?_) AllReadyH.nil
            go_simp
            go_wp2_with fail
            refine (refSame02_any _ _ _ _ _ _ _ _ u 4000 _ mu1 mu2 mv1 mv2 (by omega) hsu).mono ?_
            rintro e w13 ⟨rfl, kb⟩
            replace me1 := me1.on kb
            replace me2 := me2.on kb
            replace mf1 := mf1.on kb
            replace mf2 := mf2.on kb
            replace r7 := rowIs_on r7 kb
            replace r8 := rowIs_on r8 kb
            replace ra := rowIs_on ra kb
            replace hB := onS hB kb
            replace mg1 := mg1.on kb
            replace mg2 := mg2.on kb
            replace r9 := rowIs_on r9 kb
            replace mu1 := mu1.on kb
            replace mu2 := mu2.on kb
            replace mv1 := mv1.on kb
            replace mv2 := mv2.on kb
            clear kb
            clear mu1 mu2 mu3 mu4 mu5 mu6
            clear mv1 mv2 mv3 mv4 mv5 mv6
            clear hsu
            refine hK.out _ _ (HS.out _ ra r7 r8 r9) (fun hHeld => ?_)
            clear hK K
            try simp only [Act.put, List.setIfInBounds_toArray, List.set_cons_zero, List.set_cons_succ]
            refine wpAnyH_take (i := 13) (v := ?_) (by simp only [List.getElem?_toArray, List.getElem?_cons_succ, List.getElem?_cons_zero]; rfl) (by kernel_rfl) (by kernel_rfl) (by kernel_rfl) (by exact fun _ _ _ h => h) (Or.inl ⟨by rfl, ?_⟩) (by assumption) ?_
            rotate_left
            · (intro w hSw; (try dsimp only at hSw); go_simp); first | done | with_reducible rfl
            try simp only [Act.put, List.setIfInBounds_toArray, List.set_cons_zero, List.set_cons_succ]
            refine wpAnyH_take (i := 14) (v := ?_) (by simp only [List.getElem?_toArray, List.getElem?_cons_succ, List.getElem?_cons_zero]; rfl) (by kernel_rfl) (by kernel_rfl) (by kernel_rfl) (by exact fun _ _ _ h => h) (Or.inl ⟨by rfl, ?_⟩) (by assumption) ?_
            rotate_left
            · (intro w hSw; (try dsimp only at hSw); go_simp); first | done | with_reducible rfl
            try simp only [Act.put, List.setIfInBounds_toArray, List.set_cons_zero, List.set_cons_succ]
            refine wpAnyH_take (i := 15) (v := ?_) (by simp only [List.getElem?_toArray, List.getElem?_cons_succ, List.getElem?_cons_zero]; rfl) (by kernel_rfl) (by kernel_rfl) (by kernel_rfl) (by exact fun _ _ _ h => h) (Or.inl ⟨by rfl, ?_⟩) (by assumption) ?_
            rotate_left
            · (intro w hSw; (try dsimp only at hSw); go_simp); first | done | with_reducible rfl
            try simp only [Act.put, List.setIfInBounds_toArray, List.set_cons_zero, List.set_cons_succ]
            refine wpAnyH_take (i := 16) (v := ?_) (by simp only [List.getElem?_toArray, List.getElem?_cons_succ, List.getElem?_cons_zero]; rfl) (by kernel_rfl) (by kernel_rfl) (by kernel_rfl) (by exact fun _ _ _ h => h) (Or.inl ⟨by rfl, ?_⟩) (by assumption) ?_
            rotate_left
            · (intro w hSw; (try dsimp only at hSw); go_simp); first | done | with_reducible rfl
            try simp only [Act.put, List.setIfInBounds_toArray, List.set_cons_zero, List.set_cons_succ]
            refine wpAnyH_take (i := 18) (v := ?_) (by simp only [List.getElem?_toArray, List.getElem?_cons_succ, List.getElem?_cons_zero]; rfl) (by kernel_rfl) (by kernel_rfl) (by kernel_rfl) (by exact fun _ _ _ h => h) (Or.inl ⟨by rfl, ?_⟩) (by assumption) ?_
            rotate_left
            · (intro w hSw; (try dsimp only at hSw); go_simp); first | done | with_reducible rfl
            try simp only [Act.put, List.setIfInBounds_toArray, List.set_cons_zero, List.set_cons_succ]
            refine wpAnyH_take (i := 20) (v := ?_) (by simp only [List.getElem?_toArray, List.getElem?_cons_succ, List.getElem?_cons_zero]; rfl) (by kernel_rfl) (by kernel_rfl) (by kernel_rfl) (by exact fun _ _ _ h => h) (Or.inl ⟨by rfl, ?_⟩) (by assumption) ?_
            rotate_left
            · (intro w hSw; (try dsimp only at hSw); go_simp); first | done | with_reducible rfl
            try simp only [Act.put, List.setIfInBounds_toArray, List.set_cons_zero, List.set_cons_succ]
            refine wpAnyH_take (i := 21) (v := ?_) (by simp only [List.getElem?_toArray, List.getElem?_cons_succ, List.getElem?_cons_zero]; rfl) (by kernel_rfl) (by kernel_rfl) (by kernel_rfl) (by exact fun _ _ _ h => h) (Or.inl ⟨by rfl, ?_⟩) (by assumption) ?_
            rotate_left
            · (intro w hSw; (try dsimp only at hSw); go_simp); first | done | with_reducible rfl
            try simp only [Act.put, List.setIfInBounds_toArray, List.set_cons_zero, List.set_cons_succ]
            refine wpAnyH_ready (rs := [17]) (by kernel_rfl) (by simp) ?_
            refine AllReadyH.cons (by simp only [List.getElem?_toArray, List.getElem?_cons_succ, List.getElem?_cons_zero]; rfl) (fun K hK => ?_) AllReadyH.nil
            go_simp
            go_wp2_with fail
            refine ((chPMul_any T T' m c m' c' 4 216 a b _ (ht.on hB) (ht'.on hB) (by omega) (by omega) hmul9 (by omega) hra hrb).mono (fun e W' => HMD.out _ e W')).mono ?_
            rintro e w14 ⟨Ta, ca, rfl, la1, la2, la3, kb⟩
            replace me1 := me1.on kb
            replace me2 := me2.on kb
            replace mf1 := mf1.on kb
            replace mf2 := mf2.on kb
            replace r7 := rowIs_on r7 kb
            replace r8 := rowIs_on r8 kb
            replace ra := rowIs_on ra kb
            replace hB := onS hB kb
            replace mg1 := mg1.on kb
            replace mg2 := mg2.on kb
            replace r9 := rowIs_on r9 kb
            clear kb
            refine hK.out _ _ (HS.out _ ra r7 r8 r9) (fun hHeld => ?_)
            clear hK K
            try simp only [Act.put, List.setIfInBounds_toArray, List.set_cons_zero, List.set_cons_succ]
            refine wpAnyH_ready (rs := [19]) (by kernel_rfl) (by simp) ?_
            refine AllReadyH.cons (by simp only [List.getElem?_toArray, List.getElem?_cons_succ, List.getElem?_cons_zero]; rfl) (fun K hK => ?_) AllReadyH.nil
            go_simp
            go_wp2_with fail
            refine (chEval_fit (RatList.tab la3 (fun i hi => (hSP.out i hi).mono (by omega))) ((hx.mono (by omega)).on hB) (by omega) (by omega) hfP.out).mono ?_
            rintro e w15 ⟨Au, cu, Bu, du, rfl, mu1, mu2, mu3, mu4, mu5, mu6, kb⟩
            replace me1 := me1.on kb
            replace me2 := me2.on kb
            replace mf1 := mf1.on kb
            replace mf2 := mf2.on kb
            replace r7 := rowIs_on r7 kb
            replace r8 := rowIs_on r8 kb
            replace ra := rowIs_on ra kb
            replace hB := onS hB kb
            replace mg1 := mg1.on kb
            replace mg2 := mg2.on kb
            replace r9 := rowIs_on r9 kb
            replace la3 := la3.on kb
            clear kb
            have hsu := (hfP.out.low _ (Nat.le_refl _)).1
            obtain ⟨u, hu⟩ : ∃ u, u = evR P x np := ⟨_, rfl⟩
            rw [← hu] at mu1 mu2 mu3 mu5 hsu ⊢
            have HU := hid hu
            clear hu
            clear la1 la2 la3
            refine hK.out _ _ (HS.out _ ra r7 r8 r9) (fun hHeld => ?_)
            clear hK K
            try simp only [Act.put, List.setIfInBounds_toArray, List.set_cons_zero, List.set_cons_succ]
            refine wpAnyH_ready (rs := [22]) (by kernel_rfl) (by simp) ?_
            refine AllReadyH.cons (by simp only [List.getElem?_toArray, List.getElem?_cons_succ, List.getElem?_cons_zero]; rfl) (fun K hK => ?_) AllReadyH.nil
            go_simp
            go_wp2_with fail
            refine (refMul02_any _ _ pe pf 4000 _ (ratPost_raw me1 me2 me3 me4 me5 me6 hse) (ratPost_raw mf1 mf2 mf3 mf4 mf5 mf6 hsf) (by omega) hse hsf).mono ?_
            rintro e w16 ⟨Av, cv, Bv, dv, rfl, mv1, mv2, mv3, mv4, mv5, mv6, kb⟩
            replace me1 := me1.on kb
            replace me2 := me2.on kb
            replace mf1 := mf1.on kb
            replace mf2 := mf2.on kb
            replace r7 := rowIs_on r7 kb
            replace r8 := rowIs_on r8 kb
            replace ra := rowIs_on ra kb
            replace hB := onS hB kb
            replace mg1 := mg1.on kb
            replace mg2 := mg2.on kb
            replace r9 := rowIs_on r9 kb
            replace mu1 := mu1.on kb
            replace mu2 := mu2.on kb
            clear kb
            have huv : pe * pf = u := by rw [HU.out, HVP.out, HPe.out, HPf.out]
            rw [huv] at mv1 mv2 mv3 mv5 ⊢
            clear huv HU
            refine hK.out _ _ (HS.out _ ra r7 r8 r9) (fun hHeld => ?_)
            clear hK K
            try simp only [Act.put, List.setIfInBounds_toArray, List.set_cons_zero, List.set_cons_succ]
            refine wpAnyH_ready (rs := [23]) (by kernel_rfl) (by simp) ?_
            refine AllReadyH.cons (by simp only [List.getElem?_toArray, List.getElem?_cons_succ, List.getElem?_cons_zero]; rfl) (fun K hK => ?_) AllReadyH.nil
            go_simp
            go_wp2_with fail
            refine (refSame02_any _ _ _ _ _ _ _ _ u 8000 _ mu1 mu2 mv1 mv2 (by omega) hsu).mono ?_
            rintro e w17 ⟨rfl, kb⟩
            replace me1 := me1.on kb
            replace me2 := me2.on kb
            replace mf1 := mf1.on kb
            replace mf2 := mf2.on kb
            replace r7 := rowIs_on r7 kb
            replace r8 := rowIs_on r8 kb
            replace ra := rowIs_on ra kb
            replace hB := onS hB kb
            replace mg1 := mg1.on kb
            replace mg2 := mg2.on kb
            replace r9 := rowIs_on r9 kb
            replace mu1 := mu1.on kb
            replace mu2 := mu2.on kb
            replace mv1 := mv1.on kb
            replace mv2 := mv2.on kb
            clear kb
            clear mu1 mu2 mu3 mu4 mu5 mu6
            clear mv1 mv2 mv3 mv4 mv5 mv6
            clear hsu
            refine hK.out _ _ (HS.out _ ra r7 r8 r9) (fun hHeld => ?_)
            clear hK K
            try simp only [Act.put, List.setIfInBounds_toArray, List.set_cons_zero, List.set_cons_succ]
            refine wpAnyH_take (i := 24) (v := ?_) (by simp only [List.getElem?_toArray, List.getElem?_cons_succ, List.getElem?_cons_zero]; rfl) (by kernel_rfl) (by kernel_rfl) (by kernel_rfl) (by exact fun _ _ _ h => h) (Or.inl ⟨by rfl, ?_⟩) (by assumption) ?_
            rotate_left
            · (intro w hSw; (try dsimp only at hSw); go_simp); first | done | with_reducible rfl
            try simp only [Act.put, List.setIfInBounds_toArray, List.set_cons_zero, List.set_cons_succ]
            refine wpAnyH_take (i := 25) (v := ?_) (by simp only [List.getElem?_toArray, List.getElem?_cons_succ, List.getElem?_cons_zero]; rfl) (by kernel_rfl) (by kernel_rfl) (by kernel_rfl) (by exact fun _ _ _ h => h) (Or.inl ⟨by rfl, ?_⟩) (by assumption) ?_
            rotate_left
            · (intro w hSw; (try dsimp only at hSw); go_simp); first | done | with_reducible rfl
            try simp only [Act.put, List.setIfInBounds_toArray, List.set_cons_zero, List.set_cons_succ]
            refine wpAnyH_take (i := 26) (v := ?_) (by simp only [List.getElem?_toArray, List.getElem?_cons_succ, List.getElem?_cons_zero]; rfl) (by kernel_rfl) (by kernel_rfl) (by kernel_rfl) (by exact fun _ _ _ h => h) (Or.inl ⟨by rfl, ?_⟩) (by assumption) ?_
            rotate_left
            · (intro w hSw; (try dsimp only at hSw); go_simp); first | done | with_reducible rfl
            try simp only [Act.put, List.setIfInBounds_toArray, List.set_cons_zero, List.set_cons_succ]
            refine wpAnyH_take (i := 27) (v := ?_) (by simp only [List.getElem?_toArray, List.getElem?_cons_succ, List.getElem?_cons_zero]; rfl) (by kernel_rfl) (by kernel_rfl) (by kernel_rfl) (by exact fun _ _ _ h => h) (Or.inl ⟨by rfl, ?_⟩) (by assumption) ?_
            rotate_left
            · (intro w hSw; (try dsimp only at hSw); go_simp); first | done | with_reducible rfl
            try simp only [Act.put, List.setIfInBounds_toArray, List.set_cons_zero, List.set_cons_succ]
            refine wpAnyH_take (i := 28) (v := ?_) (by simp only [List.getElem?_toArray, List.getElem?_cons_succ, List.getElem?_cons_zero]; rfl) (by kernel_rfl) (by kernel_rfl) (by kernel_rfl) (by exact fun _ _ _ h => h) (Or.inl ⟨by rfl, ?_⟩) (by assumption) ?_
            rotate_left
            · (intro w hSw; (try dsimp only at hSw); go_simp); first | done | with_reducible rfl
            try simp only [Act.put, List.setIfInBounds_toArray, List.set_cons_zero, List.set_cons_succ]
            refine wpAnyH_take (i := 30) (v := ?_) (by simp only [List.getElem?_toArray, List.getElem?_cons_succ, List.getElem?_cons_zero]; rfl) (by kernel_rfl) (by kernel_rfl) (by kernel_rfl) (by exact fun _ _ _ h => h) (Or.inl ⟨by rfl, ?_⟩) (by assumption) ?_
            rotate_left
            · (intro w hSw; (try dsimp only at hSw); go_simp); first | done | with_reducible rfl
            try simp only [Act.put, List.setIfInBounds_toArray, List.set_cons_zero, List.set_cons_succ]
            refine wpAnyH_take (i := 31) (v := ?_) (by simp only [List.getElem?_toArray, List.getElem?_cons_succ, List.getElem?_cons_zero]; rfl) (by kernel_rfl) (by kernel_rfl) (by kernel_rfl) (by exact fun _ _ _ h => h) (Or.inl ⟨by rfl, ?_⟩) (by assumption) ?_
            rotate_left
            · (intro w hSw; (try dsimp only at hSw); go_simp); first | done | with_reducible rfl
            try simp only [Act.put, List.setIfInBounds_toArray, List.set_cons_zero, List.set_cons_succ]
            refine wpAnyH_ready (rs := [29]) (by kernel_rfl) (by simp) ?_
            refine AllReadyH.cons (by simp only [List.getElem?_toArray, List.getElem?_cons_succ, List.getElem?_cons_zero]; rfl) (fun K hK => ?_) AllReadyH.nil
            go_simp
            go_wp2_with fail
            refine (chCompare_fit ((ht.mono (show 4 ≤ 4000 by omega)).on hB) ((ht'.mono (show 4 ≤ 4000 by omega)).on hB) ((hx.mono (by omega)).on hB) (by omega) (by omega) (by omega) hfa.out hfb.out).mono ?_
            rintro e w18 ⟨rfl, kb⟩
            replace me1 := me1.on kb
            replace me2 := me2.on kb
            replace mf1 := mf1.on kb
            replace mf2 := mf2.on kb
            replace r7 := rowIs_on r7 kb
            replace r8 := rowIs_on r8 kb
            replace ra := rowIs_on ra kb
            replace hB := onS hB kb
            replace mg1 := mg1.on kb
            replace mg2 := mg2.on kb
            replace r9 := rowIs_on r9 kb
            clear kb
            rw [← HPe.out, ← HPf.out]
            obtain ⟨sg, hsg⟩ : ∃ z, z = rsign (pe - pf) := ⟨_, rfl⟩
            rw [← hsg]
            have HSG := hid hsg
            clear hsg
            refine hK.out _ _ (HS.out _ ra r7 r8 r9) (fun hHeld => ?_)
            clear hK K
            try simp only [Act.put, List.setIfInBounds_toArray, List.set_cons_zero, List.set_cons_succ]
            refine wpAnyH_ready (rs := [32]) (by kernel_rfl) (by simp) ?_
            refine AllReadyH.cons (by simp only [List.getElem?_toArray, List.getElem?_cons_succ, List.getElem?_cons_zero]; rfl) (fun K hK => ?_) AllReadyH.nil
            go_simp
            go_wp2_with fail
            refine (refCmp02_any _ _ pe pf 4000 _ (ratPost_raw me1 me2 me3 me4 me5 me6 hse) (ratPost_raw mf1 mf2 mf3 mf4 mf5 mf6 hsf) (by omega) hse hsf).mono ?_
            rintro e w19 ⟨rfl, kb⟩
            replace me1 := me1.on kb
            replace me2 := me2.on kb
            replace mf1 := mf1.on kb
            replace mf2 := mf2.on kb
            replace r7 := rowIs_on r7 kb
            replace r8 := rowIs_on r8 kb
            replace ra := rowIs_on ra kb
            replace hB := onS hB kb
            replace mg1 := mg1.on kb
            replace mg2 := mg2.on kb
            replace r9 := rowIs_on r9 kb
            clear kb
            rw [← HSG.out]
            refine hK.out _ _ (HS.out _ ra r7 r8 r9) (fun hHeld => ?_)
            clear hK K
            try simp only [Act.put, List.setIfInBounds_toArray, List.set_cons_zero, List.set_cons_succ]
            refine wpAnyH_take (i := 33) (v := ?_) (by simp only [List.getElem?_toArray, List.getElem?_cons_succ, List.getElem?_cons_zero]; rfl) (by kernel_rfl) (by kernel_rfl) (by kernel_rfl) (by exact fun _ _ _ h => h) (Or.inl ⟨by rfl, ?_⟩) (by assumption) ?_
            rotate_left
            · (intro w hSw; (try dsimp only at hSw); go_simp); first | done | with_reducible rfl
            try simp only [Act.put, List.setIfInBounds_toArray, List.set_cons_zero, List.set_cons_succ]
            refine wpAnyH_take (i := 34) (v := ?_) (by simp only [List.getElem?_toArray, List.getElem?_cons_succ, List.getElem?_cons_zero]; rfl) (by kernel_rfl) (by kernel_rfl) (by kernel_rfl) (by exact fun _ _ _ h => h) (Or.inl ⟨by rfl, ?_⟩) (by assumption) ?_
            rotate_left
            · (intro w hSw; (try dsimp only at hSw); go_simp); first | done | with_reducible rfl
            try simp only [Act.put, List.setIfInBounds_toArray, List.set_cons_zero, List.set_cons_succ]
            refine wpAnyH_take (i := 35) (v := ?_) (by simp only [List.getElem?_toArray, List.getElem?_cons_succ, List.getElem?_cons_zero]; rfl) (by kernel_rfl) (by kernel_rfl) (by kernel_rfl) (by exact fun _ _ _ h => h) (Or.inl ⟨by rfl, ?_⟩) (by assumption) ?_
            rotate_left
            · (intro w hSw; (try dsimp only at hSw); go_simp); first | done | with_reducible rfl
            try simp only [Act.put, List.setIfInBounds_toArray, List.set_cons_zero, List.set_cons_succ]
            refine wpAnyH_done (by kernel_rfl) ?_ _
            clear hHeld
            go_wp2
            go_ret
            exact ⟨rfl, hB⟩
theorem channelValues_law {H : Type} {enc : TypeId × Value → H} {w : World} {T T' : Option Addr} {m c m' c' : Nat} {cs : Array Value}
    (h : Sees enc Try.prog w 0 (fun _ => true) true 22 [.slice T m c]) (h' : Sees enc Try.prog w 0 (fun _ => true) true 22 [.slice T' m' c']) (hx : Sees enc Try.prog w 0 (fun _ => true) true 32 cs.toList) (z0 : c * 56 ≤ 140737488351232) (z1 : c' * 56 ≤ 140737488351232) :
    Calls Try.prog 5 #[.slice T m c, .slice T' m' c', .agg cs] w fun e w' => e = .returned (.bool true) ∧ Below w.heap.size w w' := by
  obtain ⟨cs⟩ := cs
  obtain ⟨S, n, d, ln, ld, rs, e, h1, h2, h3⟩ := sees_rats h
  simp only [List.cons.injEq, Value.slice.injEq, and_true] at e
  obtain ⟨rfl, rfl, rfl⟩ := e
  obtain ⟨S', n', d', ln', ld', rs', e, h1', h2', h3'⟩ := sees_rats h'
  simp only [List.cons.injEq, Value.slice.injEq, and_true] at e
  obtain ⟨rfl, rfl, rfl⟩ := e
  obtain ⟨s, A, k, cx, A2, k2, cx2, r, rfl, h4⟩ := sees_rat hx
  exact channelValues_any T T' m c m' c' ln ld ln' ld' rs rs' s A A2 k cx k2 cx2 r w h3 h3' h4 (by omega) (by omega)

end Go.Proofs.Ytlfmnaepcndhiaa
