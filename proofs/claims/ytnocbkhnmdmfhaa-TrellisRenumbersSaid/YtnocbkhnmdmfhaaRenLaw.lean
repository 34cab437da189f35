/- The law TrellisRenumbers. -/
import Derived.Test.YtnocbkhnmdmfhaaIsoLaw
import Derived.Test.YtnocbkhnmdmfhaaTurned
namespace Go.Proofs.Ytnocbkhnmdmfhaa
open Go.RowKit

theorem SameT.of_ren {T : Trel} {y z : Nat → Nat → Int × Int × Int} (h1 : IsRen T y) (h2 : IsRen T z) : SameT (T.re y) (T.re z) :=
  ⟨⟨rfl, fun _ _ => rfl⟩, rfl, fun i hi => ⟨rfl, fun _ hj => (h1 i hi).unique (h2 i hi) hj⟩⟩
theorem Trel.Proper.err {T : Trel} (h : T.Proper) : T.properE = 0 := by
  have hs := h.shape
  have hnw := hs.nw
  have h0 : T.shapeE = 0 := by
    unfold Trel.shapeE
    have h1 := hs.n64
    have h2 := hs.sW
    have h3 := hs.sE
    rw [← hnw] at h2
    rw [if_neg (by omega), if_neg (fun hn => hn fun i hi => hs.w1 i (by omega)), if_neg (by omega), if_neg (by omega), if_neg (fun hn => hn fun i hi j hj => hs.ins i hi j hj)]
  exact Trel.properE_ok h0 h.w0 h.wn h.sec
set_option maxRecDepth 100000 in
set_option maxHeartbeats 8000000 in
theorem trellisRen_any (T : Trel) (A B V : Option Addr) (c d m vc : Nat) (b : Nat → Int) (w : World) (hT : T.Reads w A B) (hc : T.nw ≤ c) (hv : IntsR w w.heap.size V m b) (hbb : ∀ k, k < m → InI64 (b k)) :
    Calls Try.prog 8 #[.agg #[.slice A T.nw c, .slice B T.n d], .slice V m vc] w fun e w' => e = .returned (.bool true) ∧ Below w.heap.size w w' := by
  obtain ⟨RB, hRB⟩ : ∃ o, o = (Obj.cells #[.slice A T.nw c, .slice B T.n d] 25) := ⟨_, rfl⟩
  have hB : Below (w.heap.size + 1) (w.alloc RB) (w.alloc RB) := Below.refl _ _
  have HS : Hid (∀ w', Below (w.heap.size + 1) (w.alloc RB) w' → (w'.cell? ⟨w.heap.size, 0, none⟩ = some (.slice A T.nw c) ∧ w'.cell? ⟨w.heap.size, 1, none⟩ = some (.slice B T.n d)) ∧ Below w.heap.size w w') := fun w' hB => by
    have hB' := tbox_below hB
    subst hRB
    exact ⟨⟨tbox hB rfl, tbox hB rfl⟩, hB'⟩
  have HT := hid hT
  have HV := hid hv
  have HBB := hid hbb
  clear hT hv hbb
  go_enter Try.func8, Try.ntmps8
  go_upto_region 1 with fail
  rw [← hRB]
  clear hRB
  obtain ⟨w1, hw1⟩ : ∃ W, W = w.alloc RB := ⟨_, rfl⟩
  replace hB : Below (w.heap.size + 1) (w.alloc RB) w1 := by rw [hw1]; exact hB
  rw [← hw1]
  clear hw1
  obtain ⟨⟨p0, p1⟩, hW⟩ := HS.out _ hB
  go_wp2_with fail
  refine (fewT_any T A B c d 3000 (by omega) w1 (HT.out.on hW)).mono ?_
  rintro e w2 ⟨⟨f1, rfl⟩, kb⟩
  replace hB := tbox_on hB kb
  clear kb p0 p1 hW
  obtain ⟨⟨p0, p1⟩, hW⟩ := HS.out _ hB
  cases f1
  · go_wp2_with fail
    refine (alive47_any _).mono ?_
    rintro e w3 ⟨rfl, kb⟩
    have hWf := onS hW kb
    clear kb
    go_wp2
    go_ret
    exact ⟨rfl, hWf⟩
  go_wp2_with fail
  refine (renum_any T A B c d w2 (HT.out.on hW) hc).mono ?_
  rintro e w3 hpost
  have kb := hpost.1
  replace hB := tbox_on hB kb
  clear kb p0 p1 hW
  obtain ⟨⟨p0, p1⟩, hW⟩ := HS.out _ hB
  rcases hpost.2 with ⟨hn, rfl⟩ | ⟨hs, y, A1, B1, c1, d1, rfl, hy, ho⟩
  · obtain ⟨pe, hpe⟩ : ∃ x, x = T.properE := ⟨_, rfl⟩
    have HPE := hid hpe
    rw [← hpe] at hn ⊢
    have hn' : (pe != 0) = true := by simp [hn]
    have hee : (pe != pe) = false := by simp
    clear hpe hpost
    go_upto_region 4 with fail
    have kb4 : Below w3.heap.size w3 (w3.alloc (Obj.cells #[.slice none 0 0, .slice none 0 0] 25)) := (Below.refl _ _).alloc (Nat.le_refl _) _
    have b5 : (w3.alloc (Obj.cells #[.slice none 0 0, .slice none 0 0] 25)).cell? ⟨w3.heap.size, 0, none⟩ = some (.slice none 0 0) := tbox (Below.refl _ _) rfl
    have b6 : (w3.alloc (Obj.cells #[.slice none 0 0, .slice none 0 0] 25)).cell? ⟨w3.heap.size, 1, none⟩ = some (.slice none 0 0) := tbox (Below.refl _ _) rfl
    obtain ⟨w4, hw4⟩ : ∃ W, W = w3.alloc (Obj.cells #[.slice none 0 0, .slice none 0 0] 25) := ⟨_, rfl⟩
    rw [← hw4] at kb4 b5 b6 ⊢
    obtain ⟨q5, hq5⟩ : ∃ b, b = w3.heap.size := ⟨_, rfl⟩
    rw [← hq5] at b5 b6 ⊢
    replace hB := tbox_on hB kb4
    clear kb4 hw4 hq5 p0 p1 hW
    obtain ⟨⟨p0, p1⟩, hW⟩ := HS.out _ hB
    go_wp2_with fail
    refine (refProper_any T A B c d w4 (HT.out.on hW)).mono ?_
    rintro e w5 ⟨rfl, kb⟩
    replace hB := tbox_on hB kb
    replace b5 := cellS kb b5
    replace b6 := cellS kb b6
    rw [← HPE.out]
    clear kb p0 p1 hW
    go_wp2_with fail
    refine (alive47_any _).mono ?_
    rintro e w6 ⟨rfl, kb⟩
    replace hB := tbox_on hB kb
    replace b5 := cellS kb b5
    replace b6 := cellS kb b6
    clear kb
    have hWf := (HS.out _ hB).2
    go_wp2
    go_ret
    exact ⟨rfl, hWf⟩
  · have HP := hid (Trel.proper_of hs)
    have HS0 := hid hs
    have hee : ((0 : Int) != 0) = false := by simp
    clear hs hpost
    go_upto_region 4 with fail
    have kb4 : Below w3.heap.size w3 (w3.alloc (Obj.cells #[.slice A1 T.nw c1, .slice B1 T.n d1] 25)) := (Below.refl _ _).alloc (Nat.le_refl _) _
    have b5 : (w3.alloc (Obj.cells #[.slice A1 T.nw c1, .slice B1 T.n d1] 25)).cell? ⟨w3.heap.size, 0, none⟩ = some (.slice A1 T.nw c1) := tbox (Below.refl _ _) rfl
    have b6 : (w3.alloc (Obj.cells #[.slice A1 T.nw c1, .slice B1 T.n d1] 25)).cell? ⟨w3.heap.size, 1, none⟩ = some (.slice B1 T.n d1) := tbox (Below.refl _ _) rfl
    obtain ⟨w4, hw4⟩ : ∃ W, W = w3.alloc (Obj.cells #[.slice A1 T.nw c1, .slice B1 T.n d1] 25) := ⟨_, rfl⟩
    rw [← hw4] at kb4 b5 b6 ⊢
    obtain ⟨q5, hq5⟩ : ∃ b, b = w3.heap.size := ⟨_, rfl⟩
    rw [← hq5] at b5 b6 ⊢
    replace hB := tbox_on hB kb4
    replace ho := ho.on kb4
    clear kb4 hw4 hq5 p0 p1 hW
    obtain ⟨⟨p0, p1⟩, hW⟩ := HS.out _ hB
    go_wp2_with fail
    refine (refProper_any T A B c d w4 (HT.out.on hW)).mono ?_
    rintro e w5 ⟨rfl, kb⟩
    replace hB := tbox_on hB kb
    replace b5 := cellS kb b5
    replace b6 := cellS kb b6
    replace ho := ho.on kb
    rw [HS0.out]
    clear kb p0 p1 hW
    go_wp2_with fail
    refine (alive47_any _).mono ?_
    rintro e w6 ⟨rfl, kb⟩
    replace hB := tbox_on hB kb
    replace b5 := cellS kb b5
    replace b6 := cellS kb b6
    replace ho := ho.on kb
    clear kb
    go_upto_region 9 with fail
    refine wp_region_held_drew (S := fun w' => w'.cell? ⟨w.heap.size, 0, none⟩ = some (.slice A T.nw c) ∧ w'.cell? ⟨w.heap.size, 1, none⟩ = some (.slice B T.n d) ∧ w'.cell? ⟨q5, 0, none⟩ = some (.slice A1 T.nw c1) ∧ w'.cell? ⟨q5, 1, none⟩ = some (.slice B1 T.n d1)) (by kernel_rfl) ⟨(HS.out _ hB.drew).1.1, (HS.out _ hB.drew).1.2, cellS (Below.refl _ _).drew b5, cellS (Below.refl _ _).drew b6⟩ (fun hHeld => ?_)
    obtain ⟨w7, hw⟩ : ∃ W, W = World.drew w6 := ⟨_, rfl⟩
    have kb : Below w6.heap.size w6 w7 := by rw [hw]; exact (Below.refl _ _).drew
    replace hB := tbox_on hB kb
    replace b5 := cellS kb b5
    replace b6 := cellS kb b6
    replace ho := ho.on kb
    rw [← hw] at hHeld ⊢
    clear hw kb
    refine wpAnyH_take (i := 0) (v := ?_) (by simp only [List.getElem?_toArray, List.getElem?_cons_zero]; rfl) (by kernel_rfl) (by kernel_rfl) (by kernel_rfl) (by exact fun _ _ _ h => h) (Or.inl ⟨by rfl, ?_⟩) (by assumption) ?_
    rotate_left
    · (intro w hSw; (try dsimp only at hSw); go_simp); first | done | with_reducible rfl
    try simp only [Act.put, List.setIfInBounds_toArray, List.set_cons_zero, List.set_cons_succ]
    refine wpAnyH_take (i := 1) (v := ?_) (by simp only [List.getElem?_toArray, List.getElem?_cons_succ, List.getElem?_cons_zero]; rfl) (by kernel_rfl) (by kernel_rfl) (by kernel_rfl) (by exact fun _ _ _ h => h) (Or.inl ⟨by rfl, ?_⟩) (by assumption) ?_
    rotate_left
    · (intro w hSw; (try dsimp only at hSw); go_simp); first | done | with_reducible rfl
    try simp only [Act.put, List.setIfInBounds_toArray, List.set_cons_zero, List.set_cons_succ]
    refine wpAnyH_ready (rs := [2]) (by kernel_rfl) (by simp) ?_
    refine AllReadyH.cons (by simp only [List.getElem?_toArray, List.getElem?_cons_succ, List.getElem?_cons_zero]; rfl) (fun K hK => ?_) AllReadyH.nil
    go_simp
    go_wp2_with fail
    refine (refRen_any T A B c d w7 (HT.out.on (HS.out _ hB).2) HP.out).mono ?_
    rintro e w8 ⟨kb, y', A2, B2, c2, d2, rfl, hy', ho2⟩
    replace hB := tbox_on hB kb
    replace b5 := cellS kb b5
    replace b6 := cellS kb b6
    replace ho := ho.on kb
    clear kb
    refine hK.out _ _ ⟨(HS.out _ hB).1.1, (HS.out _ hB).1.2, b5, b6⟩ (fun hHeld => ?_)
    clear hK K
    try simp only [Act.put, List.setIfInBounds_toArray, List.set_cons_zero, List.set_cons_succ]
    refine wpAnyH_ready (rs := [3]) (by kernel_rfl) (by simp) ?_
    refine AllReadyH.cons (by simp only [List.getElem?_toArray, List.getElem?_cons_succ, List.getElem?_cons_zero]; rfl) (fun K hK => ?_) AllReadyH.nil
    go_simp
    go_wp2_with fail
    refine (refSame47_any (T.re y) (T.re y') A1 B1 A2 B2 c1 d1 c2 d2 w8 ((ho.reads HP.out hy).1) ((ho2.reads HP.out hy').1)).mono ?_
    rintro e w9 ⟨r, rfl, hr, kb⟩
    replace hB := tbox_on hB kb
    replace b5 := cellS kb b5
    replace b6 := cellS kb b6
    replace ho := ho.on kb
    obtain rfl : r = true := hr.2 (SameT.of_ren hy hy')
    clear hr ho2 hy'
    clear kb
    refine hK.out _ _ ⟨(HS.out _ hB).1.1, (HS.out _ hB).1.2, b5, b6⟩ (fun hHeld => ?_)
    clear hK K
    try simp only [Act.put, List.setIfInBounds_toArray, List.set_cons_zero, List.set_cons_succ]
    refine wpAnyH_take (i := 4) (v := ?_) (by simp only [List.getElem?_toArray, List.getElem?_cons_succ, List.getElem?_cons_zero]; rfl) (by kernel_rfl) (by kernel_rfl) (by kernel_rfl) (by exact fun _ _ _ h => h) (Or.inl ⟨by rfl, ?_⟩) (by assumption) ?_
    rotate_left
    · (intro w hSw; (try dsimp only at hSw); go_simp); first | done | with_reducible rfl
    try simp only [Act.put, List.setIfInBounds_toArray, List.set_cons_zero, List.set_cons_succ]
    refine wpAnyH_done (by kernel_rfl) ?_ _
    clear hHeld
    obtain ⟨⟨p0, p1⟩, hW⟩ := HS.out _ hB
    go_wp2_with fail
    refine (turned_any T A B V c d m vc b w9 (HT.out.on hW) HP.out (HV.out.on hW) HBB.out).mono ?_
    rintro e w10 ⟨kb, A3, B3, c3, d3, rfl, ho3⟩
    replace hB := tbox_on hB kb
    replace b5 := cellS kb b5
    replace b6 := cellS kb b6
    replace ho := ho.on kb
    clear kb p0 p1 hW
    obtain ⟨Z, hZ⟩ : ∃ Z, Z = T.turn (T.tv m b) := ⟨_, rfl⟩
    have hZP : Z.Proper := by rw [hZ]; exact HP.out.turn _
    have hZnw : Z.nw = T.nw := by rw [hZ]; rfl
    have hZn : Z.n = T.n := by rw [hZ]; rfl
    have HZR := hid fun y (h : IsRen Z y) => HP.out.turn_ren (T.tv m b) (by rw [← hZ]; exact h)
    have HRD : Hid (∀ W, RenOut T (fun i p => T.trn (T.tv m b) i ((T.tl (T.tv m b) i).getD p 0)) W A3 B3 c3 d3 → Z.Reads W A3 B3 ∧ T.nw ≤ c3) := fun W h => by
      obtain ⟨A', B', c', d', e1, e2, hR, k1, _⟩ := ETab.reads (T := Z) (w := W) (base := 0) (by rw [hZ]; exact h.1) (by rw [hZ]; exact h.2) (fun i hi => by
        have := hZP.shape.wid (i := i) (by have := hZP.shape.nw; omega)
        exact ⟨by omega, by omega⟩) (fun i hi j hj => by
        have h1 := hZP.frL hi hj
        have h2 := hZP.toL hi hj
        have h3 := hZP.lbL hi hj
        have h4 := hZP.shape.wid (i := i) (by omega)
        have h5 := hZP.shape.wid (i := i + 1) (by omega)
        exact ⟨⟨by omega, by omega⟩, ⟨by omega, by omega⟩, ⟨by omega, by omega⟩⟩) (by have := hZP.shape.nw; have := hZP.shape.n64; omega) (by have := hZP.shape.n64; omega) (fun i hi => by have := hZP.shape.elb hi; omega)
      rw [hZnw] at e1
      rw [hZn] at e2
      injection e1 with e1 _ e1'
      subst e1 e1'
      injection e2 with e2 _ e2'
      subst e2 e2'
      exact ⟨hR, by rw [← hZnw]; exact k1⟩
    have HZP := hid hZP
    have hZre : ∀ z, Z.re z = T.re z := fun z => by rw [hZ]; rfl
    have HZRE := hid hZre
    have HZNW := hid hZnw
    have HZN := hid hZn
    have HZE := hid hZP.err
    clear hZ hZP hZnw hZn hZre
    obtain ⟨⟨p0, p1⟩, hW⟩ := HS.out _ hB
    go_upto_region 12 with fail
    have kb4 : Below w10.heap.size w10 (w10.alloc (Obj.cells #[.slice A3 T.nw c3, .slice B3 T.n d3] 25)) := (Below.refl _ _).alloc (Nat.le_refl _) _
    have b7 : (w10.alloc (Obj.cells #[.slice A3 T.nw c3, .slice B3 T.n d3] 25)).cell? ⟨w10.heap.size, 0, none⟩ = some (.slice A3 T.nw c3) := tbox (Below.refl _ _) rfl
    have b8 : (w10.alloc (Obj.cells #[.slice A3 T.nw c3, .slice B3 T.n d3] 25)).cell? ⟨w10.heap.size, 1, none⟩ = some (.slice B3 T.n d3) := tbox (Below.refl _ _) rfl
    obtain ⟨w11, hw11⟩ : ∃ W, W = w10.alloc (Obj.cells #[.slice A3 T.nw c3, .slice B3 T.n d3] 25) := ⟨_, rfl⟩
    rw [← hw11] at kb4 b7 b8 ⊢
    obtain ⟨q8, hq8⟩ : ∃ b, b = w10.heap.size := ⟨_, rfl⟩
    rw [← hq8] at b7 b8 ⊢
    replace hB := tbox_on hB kb4
    replace ho := ho.on kb4
    replace ho3 := ho3.on kb4
    replace b5 := cellS kb4 b5
    replace b6 := cellS kb4 b6
    clear kb4 hw11 hq8 p0 p1 hW
    have hcon : Calls Try.prog 35 #[.agg #[.slice A3 T.nw c3, .slice B3 T.n d3]] w11 (RenumPost Z w11) := by
      have h := renum_any Z A3 B3 c3 d3 w11 (HRD.out _ ho3).1 (by rw [HZNW.out]; exact (HRD.out _ ho3).2)
      rw [HZNW.out, HZN.out] at h
      exact h
    go_wp2_with fail
    refine hcon.mono ?_
    rintro e w12 hpost
    have kb := hpost.1
    replace hB := tbox_on hB kb
    replace ho := ho.on kb
    replace ho3 := ho3.on kb
    replace b5 := cellS kb b5
    replace b6 := cellS kb b6
    replace b7 := cellS kb b7
    replace b8 := cellS kb b8
    rcases hpost.2 with ⟨hn, _⟩ | ⟨_, z, A4, B4, c4, d4, rfl, hz, ho4⟩
    · exact absurd HZE.out hn
    rw [HZNW.out, HZN.out]
    clear hpost kb hcon
    go_upto_region 13 with fail
    have kb4 : Below w12.heap.size w12 (w12.alloc (Obj.cells #[.slice A4 T.nw c4, .slice B4 T.n d4] 25)) := (Below.refl _ _).alloc (Nat.le_refl _) _
    have b9 : (w12.alloc (Obj.cells #[.slice A4 T.nw c4, .slice B4 T.n d4] 25)).cell? ⟨w12.heap.size, 0, none⟩ = some (.slice A4 T.nw c4) := tbox (Below.refl _ _) rfl
    have b10 : (w12.alloc (Obj.cells #[.slice A4 T.nw c4, .slice B4 T.n d4] 25)).cell? ⟨w12.heap.size, 1, none⟩ = some (.slice B4 T.n d4) := tbox (Below.refl _ _) rfl
    obtain ⟨w13, hw13⟩ : ∃ W, W = w12.alloc (Obj.cells #[.slice A4 T.nw c4, .slice B4 T.n d4] 25) := ⟨_, rfl⟩
    rw [← hw13] at kb4 b9 b10 ⊢
    obtain ⟨q9, hq9⟩ : ∃ b, b = w12.heap.size := ⟨_, rfl⟩
    rw [← hq9] at b9 b10 ⊢
    replace hB := tbox_on hB kb4
    replace ho := ho.on kb4
    replace ho3 := ho3.on kb4
    replace ho4 := ho4.on kb4
    replace b5 := cellS kb4 b5
    replace b6 := cellS kb4 b6
    replace b7 := cellS kb4 b7
    replace b8 := cellS kb4 b8
    have hzT : IsRen T z := HZR.out z hz
    have hsame : SameT (T.re y) (Z.re z) := by rw [HZRE.out]; exact SameT.of_ren hy hzT
    have hcon : Calls Try.prog 36 #[.agg #[.slice A1 T.nw c1, .slice B1 T.n d1], .agg #[.slice A4 T.nw c4, .slice B4 T.n d4]] w13 (Says (SameT (T.re y) (Z.re z)) w13) := by
      have h := refSame47_any (T.re y) (Z.re z) A1 B1 A4 B4 c1 d1 c4 d4 w13 (ho.reads HP.out hy).1 (ho4.reads HZP.out hz).1
      have e1 : (Z.re z).nw = T.nw := HZNW.out
      have e2 : (Z.re z).n = T.n := HZN.out
      rw [e1, e2] at h
      exact h
    have HISO : Hid (IsoT T Z) := ⟨HS0.out, HZE.out, y, z, hy, hz, hsame⟩
    have HSAME := hid hsame
    have HO3 := hid ho3
    obtain ⟨⟨p0, p1⟩, hW⟩ := HS.out _ hB
    clear kb4 hw13 hq9 hzT hz ho4 ho ho3 hsame
    go_wp2_with fail
    refine hcon.mono ?_
    rintro e w14 ⟨r, rfl, hr, kb⟩
    obtain rfl : r = true := hr.2 HSAME.out
    replace hB := tbox_on hB kb
    have ho3 := HO3.out.on kb
    replace b7 := cellS kb b7
    replace b8 := cellS kb b8
    clear p0 p1 hW kb hr hcon HO3
    obtain ⟨⟨p0, p1⟩, hW⟩ := HS.out _ hB
    have hcon : Calls Try.prog 39 #[.agg #[.slice A T.nw c, .slice B T.n d], .agg #[.slice A3 T.nw c3, .slice B3 T.n d3]] w14 (Says (IsoT T Z) w14) := by
      have h := iso_any T Z A B A3 B3 c d c3 d3 w14 (HT.out.on hW) (HRD.out _ ho3).1 hc (by rw [HZNW.out]; exact (HRD.out _ ho3).2)
      rw [HZNW.out, HZN.out] at h
      exact h
    clear ho3
    go_wp2_with fail
    refine hcon.mono ?_
    rintro e w15 ⟨r, rfl, hr, kb⟩
    obtain rfl : r = true := hr.2 HISO.out
    have hWf := onS hW kb
    clear kb hr hcon
    go_wp2
    go_ret
    exact ⟨rfl, hWf⟩
theorem trellisRen_law {H : Type} {enc : TypeId × Value → H} {w : World} {cs : Array Value} {V : Option Addr} {m vc : Nat} (h : SeesW enc Try.prog w 0 (fun _ => true) true 25 cs.toList)
    (h2 : Sees enc Try.prog w 0 (fun _ => true) true 22 [.slice V m vc]) :
    Calls Try.prog 8 #[.agg cs, .slice V m vc] w fun e w' => e = .returned (.bool true) ∧ Below w.heap.size w w' := by
  obtain ⟨cs⟩ := cs
  obtain ⟨T, A, B, c, d, rfl, hT, hc, _⟩ := sees_trel h
  obtain ⟨V', m', vc', a, e0, _, _, hx, hwf⟩ := sees_ints Try.underlying22 Try.underlying3 (by kernel_rfl) h2
  simp only [List.cons.injEq, Value.slice.injEq, and_true] at e0
  obtain ⟨rfl, rfl, rfl⟩ := e0
  exact trellisRen_any T A B V c d m vc a w hT hc hx fun k hk => wf_i64 (hwf k hk)
end Go.Proofs.Ytnocbkhnmdmfhaa
