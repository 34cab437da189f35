/- semiring.Backward over the costs. -/
import Derived.Test.YtnocbkhnmdmfhaaIValued
namespace Go.Proofs.Ytnocbkhnmdmfhaa
open Go.RowKit

def BwdPost (T : Trel) (x : Nat → Nat → Int) (w : World) (e : Ending) (w' : World) : Prop :=
  ∃ g F, e = .returned (.tuple #[.slice (some ⟨g, 0, none⟩) T.nw T.nw, .int .i64 0]) ∧ w.heap.size ≤ g ∧ IntTab w' g (g + 1) T.nw F (fun v => (T.W v).toNat) x ∧ Below w.heap.size w w'
set_option maxRecDepth 100000 in
set_option maxHeartbeats 16000000 in
theorem backI_any (T : Trel) (A B V : Option Addr) (c d vc : Nat) (y : Nat → Nat → Int) (w : World) (h : T.Reads w A B) (hs : T.shapeE = 0) (hv : IntRows w V T.n T.el y) (hy : Costs T y) :
    Calls Try.prog 79 #[.agg #[], .agg #[.slice A T.nw c, .slice B T.n d], .slice V T.n vc] w (BwdPost T (fun u v => T.bw y (T.n - u) v) w) := by
  obtain ⟨O1, hO1⟩ : ∃ o, o = (Obj.cells #[] 115) := ⟨_, rfl⟩
  obtain ⟨O2, hO2⟩ : ∃ o, o = (Obj.cells #[.slice A T.nw c, .slice B T.n d] 25) := ⟨_, rfl⟩
  have hB0 : Below (w.heap.size + 2) ((w.alloc O1).alloc O2) ((w.alloc O1).alloc O2) := Below.refl _ _
  have HS : Hid (∀ w', Below (w.heap.size + 2) ((w.alloc O1).alloc O2) w' → (w'.cell? ⟨w.heap.size + 1, 0, none⟩ = some (.slice A T.nw c) ∧ w'.cell? ⟨w.heap.size + 1, 1, none⟩ = some (.slice B T.n d)) ∧ Below w.heap.size w w') := fun w' hB => by
    have hB' := two_below hB
    subst hO2
    have hr := box2_two hB
    exact ⟨⟨hr.cell (i := 0) (by simp), hr.cell (i := 1) (by simp)⟩, hB'⟩
  obtain ⟨⟨p0, p1⟩, hW⟩ := HS.out _ hB0
  have HSH := hid (Trel.shape_of hs)
  have HSE := hid hs
  have HR := hid h
  have HV := hid hv
  have HY := hid hy
  clear h hs hv hy
  go_enter Try.func79, Try.ntmps79
  go_wp2_with fail
  rw [← hO1, ← hO2]
  refine (valuedI_any T A B V c d vc y _ (HR.out.on hW) HSE.out (HV.out.on hW)).mono ?_
  rintro e w1 ⟨rfl, kb⟩
  have hB1 := two_on hB0 kb
  clear p0 p1 hW kb hB0 hO1 hO2
  obtain ⟨⟨p0, p1⟩, hW⟩ := HS.out _ hB1
  go_wp2_with fail
  refine (rowsI_any T A B c d _ (HR.out.on hW) HSH.out).mono ?_
  rintro e w2 ⟨g, F, rfl, hg, hT, kb⟩
  have hB2 := two_on hB1 kb
  have hl1 := two_lt hB1
  have hg2 : w.heap.size + 2 ≤ g := by omega
  have hl2 : w.heap.size + 2 < w2.heap.size := by have := hT.row.lt; omega
  obtain ⟨W2, hW2⟩ : ∃ W, W = (w.alloc O1).alloc O2 := ⟨_, rfl⟩
  have HS2 : Hid (∀ w', Below (w.heap.size + 2) W2 w' → (w'.cell? ⟨w.heap.size + 1, 0, none⟩ = some (.slice A T.nw c) ∧ w'.cell? ⟨w.heap.size + 1, 1, none⟩ = some (.slice B T.n d)) ∧ Below w.heap.size w w') := by rw [hW2]; exact HS
  rw [← hW2] at hB2
  clear p0 p1 hW kb hB1 hl1 hg hW2 HS
  obtain ⟨⟨p0, p1⟩, hW⟩ := HS2.out _ hB2
  have hn64 := HSH.out.n64
  have HNW := hid HSH.out.nw
  have hnw0 : T.n < T.nw := by have := HNW.out; omega
  have hnw0' : (T.n : Int) < (T.nw : Int) := by omega
  have hn00 : (0 : Int) ≤ (T.n : Int) := by omega
  have hw0 := HSH.out.w1 T.n (Nat.le_refl _)
  have hw0n : 0 < (T.W T.n).toNat := by omega
  obtain ⟨b0, o0, d0, hF0, hb0, hbl0, q0, z0⟩ := hT.at (v := T.n) hnw0 (k := 0) hw0n
  obtain ⟨n0, hn0⟩ : ∃ n, n = (T.W T.n).toNat := ⟨_, rfl⟩
  have HN0 := hid hn0
  have r0 := hT.row.cell hnw0
  rw [hF0] at r0
  change w2.cell? ⟨g, T.n, none⟩ = some (.slice (some ⟨b0, o0, none⟩) (T.W T.n).toNat d0) at r0
  rw [← hn0] at hw0n r0
  have hw0n' : (0 : Int) < (n0 : Int) := by omega
  clear hn0
  go_upto_region 5 with fail
  have hl := hl2
  refine wp_region_held_drew (S := fun w' => w'.cell? ⟨g, T.n, none⟩ = some (.slice (some ⟨b0, o0, none⟩) n0 d0) ∧ w'.cell? ⟨w.heap.size + 1, 1, none⟩ = some (.slice B T.n d)) (by kernel_rfl) ⟨cellS (Below.refl _ _).drew r0, cellS (Below.refl _ _).drew p1⟩ (fun hHeld => ?_)
  obtain ⟨w3, hw⟩ : ∃ W, W = World.drew w2 := ⟨_, rfl⟩
  have kb : Below w2.heap.size w2 w3 := by rw [hw]; exact (Below.refl _ _).drew
  rw [← hw] at hHeld ⊢
  clear hw
  replace hB2 := two_on_ hB2 (Nat.le_of_lt hl) kb
  replace hl := Nat.lt_of_lt_of_le hl kb.size
  replace hT := hT.on kb
  replace r0 := cellS kb r0
  replace q0 := cellS kb q0
  replace p1 := cellS kb p1
  clear kb
  refine wpAnyH_take (i := 0) (v := ?_) (by simp only [List.getElem?_toArray, List.getElem?_cons_zero]; rfl) (by kernel_rfl) (by kernel_rfl) (by kernel_rfl) (by exact fun _ _ _ h => h) (Or.inl ⟨by rfl, ?_⟩) (by assumption) ?_
  rotate_left
  · (intro w hSw; (try dsimp only at hSw); go_simp); first | done | with_reducible rfl
  try simp only [Act.put, List.setIfInBounds_toArray, List.set_cons_zero, List.set_cons_succ]
  refine wpAnyH_take (i := 1) (v := ?_) (by simp only [List.getElem?_toArray, List.getElem?_cons_succ, List.getElem?_cons_zero]; rfl) (by kernel_rfl) (by kernel_rfl) (by kernel_rfl) (by exact fun _ _ _ h => h) (Or.inl ⟨by rfl, ?_⟩) (by assumption) ?_
  rotate_left
  · (intro w hSw; (try dsimp only at hSw); go_simp); first | done | with_reducible rfl
  try simp only [Act.put, List.setIfInBounds_toArray, List.set_cons_zero, List.set_cons_succ]
  refine wpAnyH_take (i := 2) (v := ?_) (by simp only [List.getElem?_toArray, List.getElem?_cons_succ, List.getElem?_cons_zero]; rfl) (by kernel_rfl) (by kernel_rfl) (by kernel_rfl) (by exact fun _ _ _ h => h) (Or.inl ⟨by rfl, ?_⟩) (by assumption) ?_
  rotate_left
  · (intro w hSw; (try dsimp only at hSw); go_simp); first | done | with_reducible rfl
  try simp only [Act.put, List.setIfInBounds_toArray, List.set_cons_zero, List.set_cons_succ]
  refine wpAnyH_take (i := 3) (v := ?_) (by simp only [List.getElem?_toArray, List.getElem?_cons_succ, List.getElem?_cons_zero]; rfl) (by kernel_rfl) (by kernel_rfl) (by kernel_rfl) (by exact fun _ _ _ h => h) (Or.inl ⟨by rfl, ?_⟩) (by assumption) ?_
  rotate_left
  · (intro w hSw; (try dsimp only at hSw); go_simp); first | done | with_reducible rfl
  try simp only [Act.put, List.setIfInBounds_toArray, List.set_cons_zero, List.set_cons_succ]
  refine wpAnyH_take (i := 4) (v := ?_) (by simp only [List.getElem?_toArray, List.getElem?_cons_succ, List.getElem?_cons_zero]; rfl) (by kernel_rfl) (by kernel_rfl) (by kernel_rfl) (by exact fun _ _ _ h => h) (Or.inl ⟨by rfl, ?_⟩) (by assumption) ?_
  rotate_left
  · (intro w hSw; (try dsimp only at hSw); go_simp); first | done | with_reducible rfl
  try simp only [Act.put, List.setIfInBounds_toArray, List.set_cons_zero, List.set_cons_succ]
  refine wpAnyH_take (i := 5) (v := ?_) (by simp only [List.getElem?_toArray, List.getElem?_cons_succ, List.getElem?_cons_zero]; rfl) (by kernel_rfl) (by kernel_rfl) (by kernel_rfl) (by exact fun _ _ _ h => h) (Or.inl ⟨by rfl, ?_⟩) (by assumption) ?_
  rotate_left
  · (intro w hSw; (try dsimp only at hSw); go_simp); first | done | with_reducible rfl
  try simp only [Act.put, List.setIfInBounds_toArray, List.set_cons_zero, List.set_cons_succ]
  refine wpAnyH_take (i := 6) (v := ?_) (by simp only [List.getElem?_toArray, List.getElem?_cons_succ, List.getElem?_cons_zero]; rfl) (by kernel_rfl) (by kernel_rfl) (by kernel_rfl) (by exact fun _ _ _ h => h) (Or.inl ⟨by rfl, ?_⟩) (by assumption) ?_
  rotate_left
  · (intro w hSw; (try dsimp only at hSw); go_simp); first | done | with_reducible rfl
  try simp only [Act.put, List.setIfInBounds_toArray, List.set_cons_zero, List.set_cons_succ]
  refine wpAnyH_take (i := 7) (v := ?_) (by simp only [List.getElem?_toArray, List.getElem?_cons_succ, List.getElem?_cons_zero]; rfl) (by kernel_rfl) (by kernel_rfl) (by kernel_rfl) (by exact fun _ _ _ h => h) (Or.inl ⟨by rfl, ?_⟩) (by assumption) ?_
  rotate_left
  · (intro w hSw; (try dsimp only at hSw); go_simp); first | done | with_reducible rfl
  try simp only [Act.put, List.setIfInBounds_toArray, List.set_cons_zero, List.set_cons_succ]
  refine wpAnyH_ready (rs := [8]) (by kernel_rfl) (by simp) ?_
  refine AllReadyH.cons (by simp only [List.getElem?_toArray, List.getElem?_cons_succ, List.getElem?_cons_zero]; rfl) (fun K hK => ?_) AllReadyH.nil
  go_simp
  go_wp2_with fail
  refine (mpOne_any w3).mono ?_
  rintro e w4 ⟨rfl, kb⟩
  replace hB2 := two_on_ hB2 (Nat.le_of_lt hl) kb
  replace hl := Nat.lt_of_lt_of_le hl kb.size
  replace hT := hT.on kb
  replace r0 := cellS kb r0
  replace q0 := cellS kb q0
  replace p1 := cellS kb p1
  clear kb
  refine hK.out _ _ ⟨r0, p1⟩ (fun hHeld => ?_)
  clear hK K
  try simp only [Act.put, List.setIfInBounds_toArray, List.set_cons_zero, List.set_cons_succ]
  refine wpAnyH_take (i := 9) (v := ?_) (by simp only [List.getElem?_toArray, List.getElem?_cons_succ, List.getElem?_cons_zero]; rfl) (by kernel_rfl) (by kernel_rfl) (by kernel_rfl) (by exact fun _ _ _ h => h) (Or.inl ⟨by rfl, ?_⟩) (by assumption) ?_
  rotate_left
  · (intro w hSw; (try dsimp only at hSw); go_simp); first | done | with_reducible rfl
  try simp only [Act.put, List.setIfInBounds_toArray, List.set_cons_zero, List.set_cons_succ]
  refine wpAnyH_ready (rs := [10]) (by kernel_rfl) (by simp) ?_
  refine AllReadyH.cons (by simp only [List.getElem?_toArray, List.getElem?_cons_succ, List.getElem?_cons_zero]; rfl) (fun K hK => ?_) AllReadyH.nil
  have zf : w4.frozen? ⟨b0, o0, none⟩ = false := by
    obtain ⟨b9, o9, d9, hF9, _, _, _, z9⟩ := hT.at (v := T.n) hnw0 (k := 0) (by rw [← HN0.out]; exact hw0n)
    rw [hF0] at hF9
    injection hF9 with e1 _ _
    injection e1 with e1
    injection e1 with e1 e2
    subst e1 e2
    exact z9
  rw [Nat.add_zero] at q0
  go_simp
  replace r0 := cell_setCell_far (p := ⟨b0, o0, none⟩) (u := .int .i64 0) r0 (by show g ≠ b0; omega)
  replace p1 := cell_setCell_far (p := ⟨b0, o0, none⟩) (u := .int .i64 0) p1 (by show w.heap.size + 1 ≠ b0; omega)
  have hT9 := hT.set (y := 0) (by omega) hnw0 (k := 0) (by rw [← HN0.out]; exact hw0n) hF0
  rw [Nat.add_zero] at hT9
  have hB9 := hB2.setCell (p := ⟨b0, o0, none⟩) (by show w.heap.size + 2 ≤ b0; omega) (.int .i64 0)
  have hl9 : w.heap.size + 2 < (World.setCell w4 ⟨b0, o0, none⟩ (.int .i64 0)).heap.size := by simp; exact hl
  refine hK.out _ _ ⟨r0, p1⟩ (fun hHeld => ?_)
  clear hK K
  try simp only [Act.put, List.setIfInBounds_toArray, List.set_cons_zero, List.set_cons_succ]
  refine wpAnyH_done (by kernel_rfl) ?_ _
  clear hHeld
  obtain ⟨w9, hw9⟩ : ∃ W, W = World.setCell w4 ⟨b0, o0, none⟩ (.int .i64 0) := ⟨_, rfl⟩
  rw [← hw9] at hT9 hB9 hl9 ⊢
  clear hw9 hT hB2 hl r0 q0
  have hT0 : IntTab w9 g (g + 1) T.nw F (fun v => (T.W v).toNat) (fun u v => if T.n ≤ u then T.bw y (T.n - u) v else 4611686018427387904) := hT9.congr (fun v _ => rfl) (fun u hu v hv => by
    show updI _ T.n 0 0 u v = if T.n ≤ u then T.bw y (T.n - u) v else 4611686018427387904
    unfold updI
    by_cases e : u = T.n
    · subst e
      rw [if_pos (Nat.le_refl _), Nat.sub_self]
      show _ = if v = 0 then 0 else 4611686018427387904
      by_cases e2 : v = 0
      · rw [if_pos ⟨rfl, e2⟩, if_pos e2]
      · rw [if_neg (fun h => e2 h.2), if_neg e2]
    · have := HNW.out
      rw [if_neg (fun h => e h.1), if_neg (by omega)])
  clear hT9 hw0n hw0n' z0 hbl0 HN0 hw0 p0 p1 hW
  obtain ⟨⟨p0, p1⟩, hW⟩ := HS2.out _ hB9
  go_wp2
  go_loopg [10] T.n (fun gg iv wx => ∃ i : Nat, iv = .int .i64 ((i : Int) - 1) ∧ i ≤ T.n ∧ i ≤ gg ∧ IntTab wx g (g + 1) T.nw F (fun v => (T.W v).toNat) (fun u v => if i ≤ u then T.bw y (T.n - u) v else 4611686018427387904) ∧ Below (w.heap.size + 2) W2 wx ∧ w.heap.size + 2 < wx.heap.size)
  case atStart => exact ⟨T.n, by go_num, by omega, by omega, hT0, hB9, hl9⟩
  case round =>
    clear hW p0 p1 hT0 hB9 hl9
    obtain ⟨gK, hgK⟩ : ∃ g, g = gk := ⟨_, rfl⟩
    subst hgK
    obtain ⟨i, rfl, hk, hkg, hT, hB, hl⟩ := hrel
    obtain ⟨wk, hwk⟩ : ∃ W, W = wr := ⟨_, rfl⟩
    subst hwk
    obtain ⟨⟨p0, p1⟩, hW⟩ := HS2.out _ hB
    by_cases hlt0 : 0 < i
    · obtain ⟨k, rfl⟩ : ∃ k, i = k + 1 := ⟨i - 1, by omega⟩
      have eiv : (((k + 1 : Nat) : Int) - 1) = (k : Int) := by omega
      rw [eiv]
      have hlt : k < T.n := by omega
      have hk0 : (0 : Int) ≤ (k : Int) := by omega
      have hlt' : (k : Int) < (T.n : Int) := by omega
      have hk1 : k + 1 < T.nw := by have := HNW.out; omega
      have hkw : k < T.nw := by omega
      have hk1' : (k : Int) + 1 < (T.nw : Int) := by omega
      have hkw' : (k : Int) < (T.nw : Int) := by omega
      have hk01 : (0 : Int) ≤ (k : Int) + 1 := by omega
      have hwk1 : IntKind.i64.wrap ((k : Int) + 1) = (k : Int) + 1 := IntWalk.i64_in _ (by omega)
      obtain ⟨eb, eo, E, ec, rfl, heb, x0w, he1, he2, he3, he4⟩ := HR.out.sec hlt
      obtain ⟨vb, vo, R, rc, rfl, hvb, y0w, hv1, hv2, hvt, hvr⟩ := HV.out k hlt
      have hel := HSH.out.elb hlt
      have HE3 := hid he3
      have HVT := hid hvt
      have HX0 := hid x0w
      have HY0 := hid y0w
      have x0 := cellS hW x0w
      have hT1 : IntTab wk g (g + 1) T.nw F (fun v => (T.W v).toNat) (T.bwX y k 0) := hT.congr (fun v _ => rfl) (fun u _ v _ => (Trel.bwX_first u v).symm)
      clear he3 he4 he2 hvt x0w y0w eiv hT hv1 hv2 hvr
      go_wp2
      go_loopg [46] (T.el k) (fun gg jv wx => ∃ j : Nat, jv = .int .i64 (j : Nat) ∧ j ≤ T.el k ∧ T.el k ≤ j + gg ∧ IntTab wx g (g + 1) T.nw F (fun v => (T.W v).toNat) (T.bwX y k j) ∧ Below (w.heap.size + 2) W2 wx ∧ w.heap.size + 2 < wx.heap.size)
      case atStart => exact ⟨0, rfl, by omega, by omega, hT1, hB, hl⟩
      case round =>
        clear p0 p1 hT1 hB hl x0 hW
        obtain ⟨j, rfl, hj, hjg, hT, hB, hl⟩ := hrel
        have hj0 : (0 : Int) ≤ (j : Int) := by omega
        by_cases hltj : j < T.el k
        · have hltj' : (j : Int) < (T.el k : Int) := by omega
          have hW := (HS2.out _ hB).2
          obtain ⟨fb, fo, rfl, hfb, e0, e1, e2⟩ := edge_at ((Rd.below HE3.out hW (Nat.le_refl _)).mono hW.size) hltj
          obtain ⟨i1, i2, i3, i4⟩ := HSH.out.ins k hlt j hltj
          obtain ⟨fn, hfn⟩ : ∃ n : Nat, (n : Int) = T.fr k j := ⟨(T.fr k j).toNat, by omega⟩
          obtain ⟨tn, htn⟩ : ∃ n : Nat, (n : Int) = T.to k j := ⟨(T.to k j).toNat, by omega⟩
          obtain ⟨lb, hlb⟩ : ∃ z, z = T.lb k j := ⟨_, rfl⟩
          obtain ⟨n1, hn1⟩ : ∃ n, n = (T.W k).toNat := ⟨_, rfl⟩
          obtain ⟨n2, hn2⟩ : ∃ n, n = (T.W (k + 1)).toNat := ⟨_, rfl⟩
          have hfl : fn < n1 := by omega
          have htl : tn < n2 := by omega
          have hfl' : (fn : Int) < (n1 : Int) := by omega
          have htl' : (tn : Int) < (n2 : Int) := by omega
          have hf0 : (0 : Int) ≤ (fn : Int) := by omega
          have ht0 : (0 : Int) ≤ (tn : Int) := by omega
          obtain ⟨ab, ao, ad, hFa, hab, habl, aq, zq⟩ := hT.at (v := k) hkw (k := fn) (by omega)
          obtain ⟨bb, bo, bd, hFb, hbb, hbbl, bq, _⟩ := hT.at (v := k + 1) hk1 (k := tn) (by omega)
          obtain ⟨rb, ro, rfl, hrb, vq⟩ := (HVT.out.on hW).at hltj
          have hrow1 := hT.row.cell hkw
          have hrow2 := hT.row.cell hk1
          have y0 := cellS hW HY0.out
          have hapart := hT.apart k (k + 1) hkw hk1 (by omega)
          rw [hFa] at hrow1
          rw [hFb] at hrow2
          have hne : bb ≠ ab := fun e => by
            rw [hFa, hFb, e] at hapart
            simp [Value.ownBlock] at hapart
          have d1 := Trel.bwX_cost HY.out hlt hj k fn
          have d2 := Trel.bwX_cost HY.out hlt hj (k + 1) tn
          have d3 := HY.out.cost hlt hltj
          have HPUT : Hid (∀ u v, updI (T.bwX y k j) k fn (min (T.bwX y k j k fn) (capI (y k j) (T.bwX y k j (k + 1) tn))) u v = T.bwX y k (j + 1) u v) := fun u v => Trel.bwX_put (T := T) (y := y) k j u v (by omega) (by omega)
          obtain ⟨av, hav⟩ : ∃ z, z = T.bwX y k j k fn := ⟨_, rfl⟩
          obtain ⟨bv, hbv⟩ : ∃ z, z = T.bwX y k j (k + 1) tn := ⟨_, rfl⟩
          obtain ⟨yv, hyv2⟩ : ∃ z, z = y k j := ⟨_, rfl⟩
          rw [← hav] at aq d1 HPUT
          rw [← hbv] at bq d2 HPUT
          rw [← hyv2] at vq d3 HPUT
          have HD1 := hid d1
          have HD2 := hid d2
          have HD3 := hid d3
          have HD4 := hid (capI_cost d3 d2)
          change wr.cell? ⟨g, k, none⟩ = some (.slice (some ⟨ab, ao, none⟩) (T.W k).toNat ad) at hrow1
          change wr.cell? ⟨g, k + 1, none⟩ = some (.slice (some ⟨bb, bo, none⟩) (T.W (k + 1)).toNat bd) at hrow2
          have x0 := cellS hW HX0.out
          rw [← hn1] at hrow1
          rw [← hn2] at hrow2
          rw [← hfn] at e0
          rw [← hlb] at e1
          rw [← htn] at e2
          have hgab : g ≠ ab := by omega
          have hbx : wr.heap.size ≠ ab := by omega
          have hvab : vb ≠ ab := by omega
          have hWs := hW.size
          have HSET : Hid (F k = .slice (some ⟨ab, ao, none⟩) (T.W k).toNat ad) := hFa
          have HTL : Hid (fn < (T.W k).toNat) := by rw [← hn1]; exact hfl
          have hrab : rb ≠ ab := by
            obtain ⟨_, _, e8, h8, _⟩ := HVT.out.at hltj
            injection e8 with e8
            injection e8 with e8
            omega
          clear hapart hFa hFb hav hbv hyv2 hfn htn hlb i1 i2 i3 i4 hn1 hn2 hW d1 d2 d3
          go_upto_region 12 with fail
          obtain ⟨OB, hOB⟩ : ∃ o, o = (Obj.cells #[.int .i64 (fn : Int), .int .i64 lb, .int .i64 (tn : Int)] 72) := ⟨_, rfl⟩
          have hq : ∀ i v, (#[Value.int .i64 (fn : Int), .int .i64 lb, .int .i64 (tn : Int)] : Array Value)[i]? = some v → (wr.alloc OB).cell? ⟨wr.heap.size, i, none⟩ = some v := fun i v hv => by subst hOB; exact tbox (Below.refl _ _) hv
          have s0 := hq 0 _ rfl
          have s2 := hq 2 _ rfl
          have kb : Below wr.heap.size wr (wr.alloc OB) := (Below.refl _ _).alloc (Nat.le_refl _) _
          rw [← hOB]
          obtain ⟨w50, hw50⟩ : ∃ W, W = wr.alloc OB := ⟨_, rfl⟩
          rw [← hw50] at s0 s2 kb ⊢
          replace hT := hT.on kb
          replace hB := two_on_ hB (Nat.le_of_lt hl) kb
          replace hl := Nat.lt_of_lt_of_le hl kb.size
          replace aq := cellS kb aq
          replace bq := cellS kb bq
          replace vq := cellS kb vq
          replace y0 := cellS kb y0
          replace hrow1 := cellS kb hrow1
          replace hrow2 := cellS kb hrow2
          obtain ⟨bx, hbx2⟩ : ∃ b, b = wr.heap.size := ⟨_, rfl⟩
          rw [← hbx2] at s0 s2 hbx ⊢
          clear hq hw50 hOB kb x0 e0 e1 e2 hbx2 zq
          refine wp_region_held_drew (S := fun w' => w'.cell? ⟨g, k, none⟩ = some (.slice (some ⟨ab, ao, none⟩) n1 ad) ∧ w'.cell? ⟨g, k + 1, none⟩ = some (.slice (some ⟨bb, bo, none⟩) n2 bd) ∧ w'.cell? ⟨bx, 0, none⟩ = some (.int .i64 (fn : Int)) ∧ w'.cell? ⟨bx, 2, none⟩ = some (.int .i64 (tn : Int)) ∧ w'.cell? ⟨vb, vo + k, none⟩ = some (.slice (some ⟨rb, ro, none⟩) (T.el k) rc) ∧ w'.cell? ⟨rb, ro + j, none⟩ = some (.int .i64 yv) ∧ w'.cell? ⟨bb, bo + tn, none⟩ = some (.int .i64 bv)) (by kernel_rfl) ⟨cellS (Below.refl _ _).drew hrow1, cellS (Below.refl _ _).drew hrow2, cellS (Below.refl _ _).drew s0, cellS (Below.refl _ _).drew s2, cellS (Below.refl _ _).drew y0, cellS (Below.refl _ _).drew vq, cellS (Below.refl _ _).drew bq⟩ (fun hHeld => ?_)
          obtain ⟨w51, hw⟩ : ∃ W, W = World.drew w50 := ⟨_, rfl⟩
          have kb : Below w50.heap.size w50 w51 := by rw [hw]; exact (Below.refl _ _).drew
          rw [← hw] at hHeld ⊢
          clear hw
          replace hB := two_on_ hB (Nat.le_of_lt hl) kb
          replace hl := Nat.lt_of_lt_of_le hl kb.size
          replace hT := hT.on kb
          replace aq := cellS kb aq
          replace bq := cellS kb bq
          replace vq := cellS kb vq
          replace y0 := cellS kb y0
          replace hrow1 := cellS kb hrow1
          replace hrow2 := cellS kb hrow2
          replace s0 := cellS kb s0
          replace s2 := cellS kb s2
          clear kb
          refine wpAnyH_take (i := 0) (v := ?_) (by simp only [List.getElem?_toArray, List.getElem?_cons_zero]; rfl) (by kernel_rfl) (by kernel_rfl) (by kernel_rfl) (by exact fun _ _ _ h => h) (Or.inl ⟨by rfl, ?_⟩) (by assumption) ?_
          rotate_left
          · (intro w hSw; (try dsimp only at hSw); go_simp); first | done | with_reducible rfl
          try simp only [Act.put, List.setIfInBounds_toArray, List.set_cons_zero, List.set_cons_succ]
          refine wpAnyH_take (i := 1) (v := ?_) (by simp only [List.getElem?_toArray, List.getElem?_cons_succ, List.getElem?_cons_zero]; rfl) (by kernel_rfl) (by kernel_rfl) (by kernel_rfl) (by exact fun _ _ _ h => h) (Or.inl ⟨by rfl, ?_⟩) (by assumption) ?_
          rotate_left
          · (intro w hSw; (try dsimp only at hSw); go_simp); first | done | with_reducible rfl
          try simp only [Act.put, List.setIfInBounds_toArray, List.set_cons_zero, List.set_cons_succ]
          refine wpAnyH_take (i := 2) (v := ?_) (by simp only [List.getElem?_toArray, List.getElem?_cons_succ, List.getElem?_cons_zero]; rfl) (by kernel_rfl) (by kernel_rfl) (by kernel_rfl) (by exact fun _ _ _ h => h) (Or.inl ⟨by rfl, ?_⟩) (by assumption) ?_
          rotate_left
          · (intro w hSw; (try dsimp only at hSw); go_simp); first | done | with_reducible rfl
          try simp only [Act.put, List.setIfInBounds_toArray, List.set_cons_zero, List.set_cons_succ]
          refine wpAnyH_take (i := 3) (v := ?_) (by simp only [List.getElem?_toArray, List.getElem?_cons_succ, List.getElem?_cons_zero]; rfl) (by kernel_rfl) (by kernel_rfl) (by kernel_rfl) (by exact fun _ _ _ h => h) (Or.inl ⟨by rfl, ?_⟩) (by assumption) ?_
          rotate_left
          · (intro w hSw; (try dsimp only at hSw); go_simp); first | done | with_reducible rfl
          try simp only [Act.put, List.setIfInBounds_toArray, List.set_cons_zero, List.set_cons_succ]
          refine wpAnyH_take (i := 4) (v := ?_) (by simp only [List.getElem?_toArray, List.getElem?_cons_succ, List.getElem?_cons_zero]; rfl) (by kernel_rfl) (by kernel_rfl) (by kernel_rfl) (by exact fun _ _ _ h => h) (Or.inl ⟨by rfl, ?_⟩) (by assumption) ?_
          rotate_left
          · (intro w hSw; (try dsimp only at hSw); go_simp); first | done | with_reducible rfl
          try simp only [Act.put, List.setIfInBounds_toArray, List.set_cons_zero, List.set_cons_succ]
          refine wpAnyH_take (i := 5) (v := ?_) (by simp only [List.getElem?_toArray, List.getElem?_cons_succ, List.getElem?_cons_zero]; rfl) (by kernel_rfl) (by kernel_rfl) (by kernel_rfl) (by exact fun _ _ _ h => h) (Or.inl ⟨by rfl, ?_⟩) (by assumption) ?_
          rotate_left
          · (intro w hSw; (try dsimp only at hSw); go_simp); first | done | with_reducible rfl
          try simp only [Act.put, List.setIfInBounds_toArray, List.set_cons_zero, List.set_cons_succ]
          refine wpAnyH_take (i := 6) (v := ?_) (by simp only [List.getElem?_toArray, List.getElem?_cons_succ, List.getElem?_cons_zero]; rfl) (by kernel_rfl) (by kernel_rfl) (by kernel_rfl) (by exact fun _ _ _ h => h) (Or.inl ⟨by rfl, ?_⟩) (by assumption) ?_
          rotate_left
          · (intro w hSw; (try dsimp only at hSw); go_simp); first | done | with_reducible rfl
          try simp only [Act.put, List.setIfInBounds_toArray, List.set_cons_zero, List.set_cons_succ]
          refine wpAnyH_take (i := 7) (v := ?_) (by simp only [List.getElem?_toArray, List.getElem?_cons_succ, List.getElem?_cons_zero]; rfl) (by kernel_rfl) (by kernel_rfl) (by kernel_rfl) (by exact fun _ _ _ h => h) (Or.inl ⟨by rfl, ?_⟩) (by assumption) ?_
          rotate_left
          · (intro w hSw; (try dsimp only at hSw); go_simp); first | done | with_reducible rfl
          try simp only [Act.put, List.setIfInBounds_toArray, List.set_cons_zero, List.set_cons_succ]
          refine wpAnyH_take (i := 8) (v := ?_) (by simp only [List.getElem?_toArray, List.getElem?_cons_succ, List.getElem?_cons_zero]; rfl) (by kernel_rfl) (by kernel_rfl) (by kernel_rfl) (by exact fun _ _ _ h => h) (Or.inl ⟨by rfl, ?_⟩) (by assumption) ?_
          rotate_left
          · (intro w hSw; (try dsimp only at hSw); go_simp); first | done | with_reducible rfl
          try simp only [Act.put, List.setIfInBounds_toArray, List.set_cons_zero, List.set_cons_succ]
          refine wpAnyH_take (i := 9) (v := ?_) (by simp only [List.getElem?_toArray, List.getElem?_cons_succ, List.getElem?_cons_zero]; rfl) (by kernel_rfl) (by kernel_rfl) (by kernel_rfl) (by exact fun _ _ _ h => h) (Or.inl ⟨by rfl, ?_⟩) (by assumption) ?_
          rotate_left
          · (intro w hSw; (try dsimp only at hSw); go_simp); first | done | with_reducible rfl
          try simp only [Act.put, List.setIfInBounds_toArray, List.set_cons_zero, List.set_cons_succ]
          refine wpAnyH_take (i := 10) (v := ?_) (by simp only [List.getElem?_toArray, List.getElem?_cons_succ, List.getElem?_cons_zero]; rfl) (by kernel_rfl) (by kernel_rfl) (by kernel_rfl) (by exact fun _ _ _ h => h) (Or.inl ⟨by rfl, ?_⟩) (by assumption) ?_
          rotate_left
          · (intro w hSw; (try dsimp only at hSw); go_simp); first | done | with_reducible rfl
          try simp only [Act.put, List.setIfInBounds_toArray, List.set_cons_zero, List.set_cons_succ]
          refine wpAnyH_take (i := 11) (v := ?_) (by simp only [List.getElem?_toArray, List.getElem?_cons_succ, List.getElem?_cons_zero]; rfl) (by kernel_rfl) (by kernel_rfl) (by kernel_rfl) (by exact fun _ _ _ h => h) (Or.inl ⟨by rfl, ?_⟩) (by assumption) ?_
          rotate_left
          · (intro w hSw; (try dsimp only at hSw); go_simp); first | done | with_reducible rfl
          try simp only [Act.put, List.setIfInBounds_toArray, List.set_cons_zero, List.set_cons_succ]
          refine wpAnyH_take (i := 12) (v := ?_) (by simp only [List.getElem?_toArray, List.getElem?_cons_succ, List.getElem?_cons_zero]; rfl) (by kernel_rfl) (by kernel_rfl) (by kernel_rfl) (by exact fun _ _ _ h => h) (Or.inl ⟨by rfl, ?_⟩) (by assumption) ?_
          rotate_left
          · (intro w hSw; (try dsimp only at hSw); go_simp); first | done | with_reducible rfl
          try simp only [Act.put, List.setIfInBounds_toArray, List.set_cons_zero, List.set_cons_succ]
          refine wpAnyH_take (i := 13) (v := ?_) (by simp only [List.getElem?_toArray, List.getElem?_cons_succ, List.getElem?_cons_zero]; rfl) (by kernel_rfl) (by kernel_rfl) (by kernel_rfl) (by exact fun _ _ _ h => h) (Or.inl ⟨by rfl, ?_⟩) (by assumption) ?_
          rotate_left
          · (intro w hSw; (try dsimp only at hSw); go_simp); first | done | with_reducible rfl
          try simp only [Act.put, List.setIfInBounds_toArray, List.set_cons_zero, List.set_cons_succ]
          refine wpAnyH_take (i := 14) (v := ?_) (by simp only [List.getElem?_toArray, List.getElem?_cons_succ, List.getElem?_cons_zero]; rfl) (by kernel_rfl) (by kernel_rfl) (by kernel_rfl) (by exact fun _ _ _ h => h) (Or.inl ⟨by rfl, ?_⟩) (by assumption) ?_
          rotate_left
          · (intro w hSw; (try dsimp only at hSw); go_simp); first | done | with_reducible rfl
          try simp only [Act.put, List.setIfInBounds_toArray, List.set_cons_zero, List.set_cons_succ]
          refine wpAnyH_take (i := 16) (v := ?_) (by simp only [List.getElem?_toArray, List.getElem?_cons_succ, List.getElem?_cons_zero]; rfl) (by kernel_rfl) (by kernel_rfl) (by kernel_rfl) (by exact fun _ _ _ h => h) (Or.inl ⟨by rfl, ?_⟩) (by assumption) ?_
          rotate_left
          · (intro w hSw; (try dsimp only at hSw); go_simp); first | done | with_reducible rfl
          try simp only [Act.put, List.setIfInBounds_toArray, List.set_cons_zero, List.set_cons_succ]
          refine wpAnyH_take (i := 17) (v := ?_) (by simp only [List.getElem?_toArray, List.getElem?_cons_succ, List.getElem?_cons_zero]; rfl) (by kernel_rfl) (by kernel_rfl) (by kernel_rfl) (by exact fun _ _ _ h => h) (Or.inl ⟨by rfl, ?_⟩) (by assumption) ?_
          rotate_left
          · (intro w hSw; (try dsimp only at hSw); go_simp); first | done | with_reducible rfl
          try simp only [Act.put, List.setIfInBounds_toArray, List.set_cons_zero, List.set_cons_succ]
          refine wpAnyH_take (i := 18) (v := ?_) (by simp only [List.getElem?_toArray, List.getElem?_cons_succ, List.getElem?_cons_zero]; rfl) (by kernel_rfl) (by kernel_rfl) (by kernel_rfl) (by exact fun _ _ _ h => h) (Or.inl ⟨by rfl, ?_⟩) (by assumption) ?_
          rotate_left
          · (intro w hSw; (try dsimp only at hSw); go_simp); first | done | with_reducible rfl
          try simp only [Act.put, List.setIfInBounds_toArray, List.set_cons_zero, List.set_cons_succ]
          refine wpAnyH_take (i := 19) (v := ?_) (by simp only [List.getElem?_toArray, List.getElem?_cons_succ, List.getElem?_cons_zero]; rfl) (by kernel_rfl) (by kernel_rfl) (by kernel_rfl) (by exact fun _ _ _ h => h) (Or.inl ⟨by rfl, ?_⟩) (by assumption) ?_
          rotate_left
          · (intro w hSw; (try dsimp only at hSw); go_simp); first | done | with_reducible rfl
          try simp only [Act.put, List.setIfInBounds_toArray, List.set_cons_zero, List.set_cons_succ]
          refine wpAnyH_take (i := 20) (v := ?_) (by simp only [List.getElem?_toArray, List.getElem?_cons_succ, List.getElem?_cons_zero]; rfl) (by kernel_rfl) (by kernel_rfl) (by kernel_rfl) (by exact fun _ _ _ h => h) (Or.inl ⟨by rfl, ?_⟩) (by assumption) ?_
          rotate_left
          · (intro w hSw; (try dsimp only at hSw); go_simp); first | done | with_reducible rfl
          try simp only [Act.put, List.setIfInBounds_toArray, List.set_cons_zero, List.set_cons_succ]
          refine wpAnyH_take (i := 21) (v := ?_) (by simp only [List.getElem?_toArray, List.getElem?_cons_succ, List.getElem?_cons_zero]; rfl) (by kernel_rfl) (by kernel_rfl) (by kernel_rfl) (by exact fun _ _ _ h => h) (Or.inl ⟨by rfl, ?_⟩) (by assumption) ?_
          rotate_left
          · (intro w hSw; (try dsimp only at hSw); go_simp); first | done | with_reducible rfl
          try simp only [Act.put, List.setIfInBounds_toArray, List.set_cons_zero, List.set_cons_succ]
          refine wpAnyH_take (i := 22) (v := ?_) (by simp only [List.getElem?_toArray, List.getElem?_cons_succ, List.getElem?_cons_zero]; rfl) (by kernel_rfl) (by kernel_rfl) (by kernel_rfl) (by exact fun _ _ _ h => h) (Or.inl ⟨by rfl, ?_⟩) (by assumption) ?_
          rotate_left
          · (intro w hSw; (try dsimp only at hSw); go_simp); first | done | with_reducible rfl
          try simp only [Act.put, List.setIfInBounds_toArray, List.set_cons_zero, List.set_cons_succ]
          refine wpAnyH_take (i := 23) (v := ?_) (by simp only [List.getElem?_toArray, List.getElem?_cons_succ, List.getElem?_cons_zero]; rfl) (by kernel_rfl) (by kernel_rfl) (by kernel_rfl) (by exact fun _ _ _ h => h) (Or.inl ⟨by rfl, ?_⟩) (by assumption) ?_
          rotate_left
          · (intro w hSw; (try dsimp only at hSw); go_simp); first | done | with_reducible rfl
          try simp only [Act.put, List.setIfInBounds_toArray, List.set_cons_zero, List.set_cons_succ]
          refine wpAnyH_take (i := 24) (v := ?_) (by simp only [List.getElem?_toArray, List.getElem?_cons_succ, List.getElem?_cons_zero]; rfl) (by kernel_rfl) (by kernel_rfl) (by kernel_rfl) (by exact fun _ _ _ h => h) (Or.inl ⟨by rfl, ?_⟩) (by assumption) ?_
          rotate_left
          · (intro w hSw; (try dsimp only at hSw); go_simp); first | done | with_reducible rfl
          try simp only [Act.put, List.setIfInBounds_toArray, List.set_cons_zero, List.set_cons_succ]
          refine wpAnyH_take (i := 25) (v := ?_) (by simp only [List.getElem?_toArray, List.getElem?_cons_succ, List.getElem?_cons_zero]; rfl) (by kernel_rfl) (by kernel_rfl) (by kernel_rfl) (by exact fun _ _ _ h => h) (Or.inl ⟨by rfl, ?_⟩) (by assumption) ?_
          rotate_left
          · (intro w hSw; (try dsimp only at hSw); go_simp); first | done | with_reducible rfl
          try simp only [Act.put, List.setIfInBounds_toArray, List.set_cons_zero, List.set_cons_succ]
          refine wpAnyH_take (i := 26) (v := ?_) (by simp only [List.getElem?_toArray, List.getElem?_cons_succ, List.getElem?_cons_zero]; rfl) (by kernel_rfl) (by kernel_rfl) (by kernel_rfl) (by exact fun _ _ _ h => h) (Or.inl ⟨by rfl, ?_⟩) (by assumption) ?_
          rotate_left
          · (intro w hSw; (try dsimp only at hSw); go_simp); first | done | with_reducible rfl
          try simp only [Act.put, List.setIfInBounds_toArray, List.set_cons_zero, List.set_cons_succ]
          refine wpAnyH_take (i := 27) (v := ?_) (by simp only [List.getElem?_toArray, List.getElem?_cons_succ, List.getElem?_cons_zero]; rfl) (by kernel_rfl) (by kernel_rfl) (by kernel_rfl) (by exact fun _ _ _ h => h) (Or.inl ⟨by rfl, ?_⟩) (by assumption) ?_
          rotate_left
          · (intro w hSw; (try dsimp only at hSw); go_simp); first | done | with_reducible rfl
          try simp only [Act.put, List.setIfInBounds_toArray, List.set_cons_zero, List.set_cons_succ]
          refine wpAnyH_take (i := 28) (v := ?_) (by simp only [List.getElem?_toArray, List.getElem?_cons_succ, List.getElem?_cons_zero]; rfl) (by kernel_rfl) (by kernel_rfl) (by kernel_rfl) (by exact fun _ _ _ h => h) (Or.inl ⟨by rfl, ?_⟩) (by assumption) ?_
          rotate_left
          · (intro w hSw; (try dsimp only at hSw); go_simp); first | done | with_reducible rfl
          try simp only [Act.put, List.setIfInBounds_toArray, List.set_cons_zero, List.set_cons_succ]
          refine wpAnyH_take (i := 29) (v := ?_) (by simp only [List.getElem?_toArray, List.getElem?_cons_succ, List.getElem?_cons_zero]; rfl) (by kernel_rfl) (by kernel_rfl) (by kernel_rfl) (by exact fun _ _ _ h => h) (Or.inl ⟨by rfl, ?_⟩) (by assumption) ?_
          rotate_left
          · (intro w hSw; (try dsimp only at hSw); go_simp); first | done | with_reducible rfl
          try simp only [Act.put, List.setIfInBounds_toArray, List.set_cons_zero, List.set_cons_succ]
          refine wpAnyH_take (i := 30) (v := ?_) (by simp only [List.getElem?_toArray, List.getElem?_cons_succ, List.getElem?_cons_zero]; rfl) (by kernel_rfl) (by kernel_rfl) (by kernel_rfl) (by exact fun _ _ _ h => h) (Or.inl ⟨by rfl, ?_⟩) (by assumption) ?_
          rotate_left
          · (intro w hSw; (try dsimp only at hSw); go_simp); first | done | with_reducible rfl
          try simp only [Act.put, List.setIfInBounds_toArray, List.set_cons_zero, List.set_cons_succ]
          refine wpAnyH_take (i := 31) (v := ?_) (by simp only [List.getElem?_toArray, List.getElem?_cons_succ, List.getElem?_cons_zero]; rfl) (by kernel_rfl) (by kernel_rfl) (by kernel_rfl) (by exact fun _ _ _ h => h) (Or.inl ⟨by rfl, ?_⟩) (by assumption) ?_
          rotate_left
          · (intro w hSw; (try dsimp only at hSw); go_simp); first | done | with_reducible rfl
          try simp only [Act.put, List.setIfInBounds_toArray, List.set_cons_zero, List.set_cons_succ]
          refine wpAnyH_take (i := 32) (v := ?_) (by simp only [List.getElem?_toArray, List.getElem?_cons_succ, List.getElem?_cons_zero]; rfl) (by kernel_rfl) (by kernel_rfl) (by kernel_rfl) (by exact fun _ _ _ h => h) (Or.inl ⟨by rfl, ?_⟩) (by assumption) ?_
          rotate_left
          · (intro w hSw; (try dsimp only at hSw); go_simp); first | done | with_reducible rfl
          try simp only [Act.put, List.setIfInBounds_toArray, List.set_cons_zero, List.set_cons_succ]
          refine wpAnyH_take (i := 33) (v := ?_) (by simp only [List.getElem?_toArray, List.getElem?_cons_succ, List.getElem?_cons_zero]; rfl) (by kernel_rfl) (by kernel_rfl) (by kernel_rfl) (by exact fun _ _ _ h => h) (Or.inl ⟨by rfl, ?_⟩) (by assumption) ?_
          rotate_left
          · (intro w hSw; (try dsimp only at hSw); go_simp); first | done | with_reducible rfl
          try simp only [Act.put, List.setIfInBounds_toArray, List.set_cons_zero, List.set_cons_succ]
          refine wpAnyH_ready (rs := [15, 34]) (by kernel_rfl) (by simp) ?_
          refine AllReadyH.cons (by simp only [List.getElem?_toArray, List.getElem?_cons_succ, List.getElem?_cons_zero]; rfl) (fun K hK => ?_) (AllReadyH.cons (by simp only [List.getElem?_toArray, List.getElem?_cons_succ, List.getElem?_cons_zero]; rfl) (fun K hK => ?_) AllReadyH.nil)
          · go_simp
            refine hK.out _ _ ⟨hrow1, hrow2, s0, s2, y0, vq, bq⟩ (fun hHeld => ?_)
            clear hK K
            try simp only [Act.put, List.setIfInBounds_toArray, List.set_cons_zero, List.set_cons_succ]
            refine wpAnyH_ready (rs := [34]) (by kernel_rfl) (by simp) ?_
            refine AllReadyH.cons (by simp only [List.getElem?_toArray, List.getElem?_cons_succ, List.getElem?_cons_zero]; rfl) (fun K hK => ?_) AllReadyH.nil
            go_simp
            go_wp2_with fail
            refine (mpMul_any yv bv w51 HD3.out HD2.out).mono ?_
            rintro e w52 ⟨rfl, kb⟩
            replace hB := two_on_ hB (Nat.le_of_lt hl) kb
            replace hl := Nat.lt_of_lt_of_le hl kb.size
            replace hT := hT.on kb
            replace aq := cellS kb aq
            replace bq := cellS kb bq
            replace vq := cellS kb vq
            replace y0 := cellS kb y0
            replace hrow1 := cellS kb hrow1
            replace hrow2 := cellS kb hrow2
            replace s0 := cellS kb s0
            replace s2 := cellS kb s2
            clear kb
            refine hK.out _ _ ⟨hrow1, hrow2, s0, s2, y0, vq, bq⟩ (fun hHeld => ?_)
            clear hK K
            try simp only [Act.put, List.setIfInBounds_toArray, List.set_cons_zero, List.set_cons_succ]
            refine wpAnyH_ready (rs := [35]) (by kernel_rfl) (by simp) ?_
            refine AllReadyH.cons (by simp only [List.getElem?_toArray, List.getElem?_cons_succ, List.getElem?_cons_zero]; rfl) (fun K hK => ?_) AllReadyH.nil
            go_simp
            go_wp2_with fail
            refine (mpAdd_any av (capI yv bv) w52 HD1.out HD4.out).mono ?_
            rintro e w53 ⟨rfl, kb⟩
            replace hB := two_on_ hB (Nat.le_of_lt hl) kb
            replace hl := Nat.lt_of_lt_of_le hl kb.size
            replace hT := hT.on kb
            replace aq := cellS kb aq
            replace bq := cellS kb bq
            replace vq := cellS kb vq
            replace y0 := cellS kb y0
            replace hrow1 := cellS kb hrow1
            replace hrow2 := cellS kb hrow2
            replace s0 := cellS kb s0
            replace s2 := cellS kb s2
            clear kb
            refine hK.out _ _ ⟨hrow1, hrow2, s0, s2, y0, vq, bq⟩ (fun hHeld => ?_)
            clear hK K
            try simp only [Act.put, List.setIfInBounds_toArray, List.set_cons_zero, List.set_cons_succ]
            refine wpAnyH_take (i := 36) (v := ?_) (by simp only [List.getElem?_toArray, List.getElem?_cons_succ, List.getElem?_cons_zero]; rfl) (by kernel_rfl) (by kernel_rfl) (by kernel_rfl) (by exact fun _ _ _ h => h) (Or.inl ⟨by rfl, ?_⟩) (by assumption) ?_
            rotate_left
            · (intro w hSw; (try dsimp only at hSw); go_simp); first | done | with_reducible rfl
            try simp only [Act.put, List.setIfInBounds_toArray, List.set_cons_zero, List.set_cons_succ]
            refine wpAnyH_ready (rs := [37]) (by kernel_rfl) (by simp) ?_
            refine AllReadyH.cons (by simp only [List.getElem?_toArray, List.getElem?_cons_succ, List.getElem?_cons_zero]; rfl) (fun K hK => ?_) AllReadyH.nil
            have zf : w53.frozen? ⟨ab, ao + fn, none⟩ = false := by
              obtain ⟨b9, o9, d9, hF9, _, _, _, z9⟩ := hT.at (v := k) hkw (k := fn) HTL.out
              rw [HSET.out] at hF9
              injection hF9 with e1 _ _
              injection e1 with e1
              injection e1 with e1 e2
              subst e1 e2
              exact z9
            obtain ⟨nv, hnv⟩ : ∃ z, z = min av (capI yv bv) := ⟨_, rfl⟩
            rw [← hnv] at HPUT ⊢
            clear hnv
            go_simp
            replace hrow1 := cell_setCell_far (p := ⟨ab, ao + fn, none⟩) (u := .int .i64 nv) hrow1 (by simpa using hgab)
            replace hrow2 := cell_setCell_far (p := ⟨ab, ao + fn, none⟩) (u := .int .i64 nv) hrow2 (by simpa using hgab)
            replace s0 := cell_setCell_far (p := ⟨ab, ao + fn, none⟩) (u := .int .i64 nv) s0 (by simpa using hbx)
            replace s2 := cell_setCell_far (p := ⟨ab, ao + fn, none⟩) (u := .int .i64 nv) s2 (by simpa using hbx)
            replace y0 := cell_setCell_far (p := ⟨ab, ao + fn, none⟩) (u := .int .i64 nv) y0 (by simpa using hvab)
            replace vq := cell_setCell_far (p := ⟨ab, ao + fn, none⟩) (u := .int .i64 nv) vq (by simpa using hrab)
            replace bq := cell_setCell_far (p := ⟨ab, ao + fn, none⟩) (u := .int .i64 nv) bq (by simpa using hne)
            have hT9 := hT.set (y := nv) (by omega) hkw (k := fn) HTL.out HSET.out
            have hB9 := hB.setCell (p := ⟨ab, ao + fn, none⟩) (by show w.heap.size + 2 ≤ ab; omega) (.int .i64 nv)
            have hl9 : w.heap.size + 2 < (World.setCell w53 ⟨ab, ao + fn, none⟩ (.int .i64 nv)).heap.size := by simp; exact hl
            refine hK.out _ _ ⟨hrow1, hrow2, s0, s2, y0, vq, bq⟩ (fun hHeld => ?_)
            clear hK K
            try simp only [Act.put, List.setIfInBounds_toArray, List.set_cons_zero, List.set_cons_succ]
            refine wpAnyH_done (by kernel_rfl) ?_ _
            clear hHeld
            have hN := hid (hT9.congr (x' := T.bwX y k (j + 1)) (fun v _ => rfl) (fun u _ v _ => HPUT.out u v))
            have HB9 := hid hB9
            clear hT9 hT hB9 hB aq
            go_wp2
            go_roundg (gk - 1)
            case measure => omega
            case rel => exact ⟨j + 1, by go_num, by omega, by omega, hN.out, HB9.out, hl9⟩
          · go_simp
            go_wp2_with fail
            refine (mpMul_any yv bv w51 HD3.out HD2.out).mono ?_
            rintro e w52 ⟨rfl, kb⟩
            replace hB := two_on_ hB (Nat.le_of_lt hl) kb
            replace hl := Nat.lt_of_lt_of_le hl kb.size
            replace hT := hT.on kb
            replace aq := cellS kb aq
            replace bq := cellS kb bq
            replace vq := cellS kb vq
            replace y0 := cellS kb y0
            replace hrow1 := cellS kb hrow1
            replace hrow2 := cellS kb hrow2
            replace s0 := cellS kb s0
            replace s2 := cellS kb s2
            clear kb
            refine hK.out _ _ ⟨hrow1, hrow2, s0, s2, y0, vq, bq⟩ (fun hHeld => ?_)
            clear hK K
            try simp only [Act.put, List.setIfInBounds_toArray, List.set_cons_zero, List.set_cons_succ]
            refine wpAnyH_ready (rs := [15]) (by kernel_rfl) (by simp) ?_
            refine AllReadyH.cons (by simp only [List.getElem?_toArray, List.getElem?_cons_succ, List.getElem?_cons_zero]; rfl) (fun K hK => ?_) AllReadyH.nil
            go_simp
            refine hK.out _ _ ⟨hrow1, hrow2, s0, s2, y0, vq, bq⟩ (fun hHeld => ?_)
            clear hK K
            try simp only [Act.put, List.setIfInBounds_toArray, List.set_cons_zero, List.set_cons_succ]
            refine wpAnyH_ready (rs := [35]) (by kernel_rfl) (by simp) ?_
            refine AllReadyH.cons (by simp only [List.getElem?_toArray, List.getElem?_cons_succ, List.getElem?_cons_zero]; rfl) (fun K hK => ?_) AllReadyH.nil
            go_simp
            go_wp2_with fail
            refine (mpAdd_any av (capI yv bv) w52 HD1.out HD4.out).mono ?_
            rintro e w53 ⟨rfl, kb⟩
            replace hB := two_on_ hB (Nat.le_of_lt hl) kb
            replace hl := Nat.lt_of_lt_of_le hl kb.size
            replace hT := hT.on kb
            replace aq := cellS kb aq
            replace bq := cellS kb bq
            replace vq := cellS kb vq
            replace y0 := cellS kb y0
            replace hrow1 := cellS kb hrow1
            replace hrow2 := cellS kb hrow2
            replace s0 := cellS kb s0
            replace s2 := cellS kb s2
            clear kb
            refine hK.out _ _ ⟨hrow1, hrow2, s0, s2, y0, vq, bq⟩ (fun hHeld => ?_)
            clear hK K
            try simp only [Act.put, List.setIfInBounds_toArray, List.set_cons_zero, List.set_cons_succ]
            refine wpAnyH_take (i := 36) (v := ?_) (by simp only [List.getElem?_toArray, List.getElem?_cons_succ, List.getElem?_cons_zero]; rfl) (by kernel_rfl) (by kernel_rfl) (by kernel_rfl) (by exact fun _ _ _ h => h) (Or.inl ⟨by rfl, ?_⟩) (by assumption) ?_
            rotate_left
            · (intro w hSw; (try dsimp only at hSw); go_simp); first | done | with_reducible rfl
            try simp only [Act.put, List.setIfInBounds_toArray, List.set_cons_zero, List.set_cons_succ]
            refine wpAnyH_ready (rs := [37]) (by kernel_rfl) (by simp) ?_
            refine AllReadyH.cons (by simp only [List.getElem?_toArray, List.getElem?_cons_succ, List.getElem?_cons_zero]; rfl) (fun K hK => ?_) AllReadyH.nil
            have zf : w53.frozen? ⟨ab, ao + fn, none⟩ = false := by
              obtain ⟨b9, o9, d9, hF9, _, _, _, z9⟩ := hT.at (v := k) hkw (k := fn) HTL.out
              rw [HSET.out] at hF9
              injection hF9 with e1 _ _
              injection e1 with e1
              injection e1 with e1 e2
              subst e1 e2
              exact z9
            obtain ⟨nv, hnv⟩ : ∃ z, z = min av (capI yv bv) := ⟨_, rfl⟩
            rw [← hnv] at HPUT ⊢
            clear hnv
            go_simp
            replace hrow1 := cell_setCell_far (p := ⟨ab, ao + fn, none⟩) (u := .int .i64 nv) hrow1 (by simpa using hgab)
            replace hrow2 := cell_setCell_far (p := ⟨ab, ao + fn, none⟩) (u := .int .i64 nv) hrow2 (by simpa using hgab)
            replace s0 := cell_setCell_far (p := ⟨ab, ao + fn, none⟩) (u := .int .i64 nv) s0 (by simpa using hbx)
            replace s2 := cell_setCell_far (p := ⟨ab, ao + fn, none⟩) (u := .int .i64 nv) s2 (by simpa using hbx)
            replace y0 := cell_setCell_far (p := ⟨ab, ao + fn, none⟩) (u := .int .i64 nv) y0 (by simpa using hvab)
            replace vq := cell_setCell_far (p := ⟨ab, ao + fn, none⟩) (u := .int .i64 nv) vq (by simpa using hrab)
            replace bq := cell_setCell_far (p := ⟨ab, ao + fn, none⟩) (u := .int .i64 nv) bq (by simpa using hne)
            have hT9 := hT.set (y := nv) (by omega) hkw (k := fn) HTL.out HSET.out
            have hB9 := hB.setCell (p := ⟨ab, ao + fn, none⟩) (by show w.heap.size + 2 ≤ ab; omega) (.int .i64 nv)
            have hl9 : w.heap.size + 2 < (World.setCell w53 ⟨ab, ao + fn, none⟩ (.int .i64 nv)).heap.size := by simp; exact hl
            refine hK.out _ _ ⟨hrow1, hrow2, s0, s2, y0, vq, bq⟩ (fun hHeld => ?_)
            clear hK K
            try simp only [Act.put, List.setIfInBounds_toArray, List.set_cons_zero, List.set_cons_succ]
            refine wpAnyH_done (by kernel_rfl) ?_ _
            clear hHeld
            have hN := hid (hT9.congr (x' := T.bwX y k (j + 1)) (fun v _ => rfl) (fun u _ v _ => HPUT.out u v))
            have HB9 := hid hB9
            clear hT9 hT hB9 hB aq
            go_wp2
            go_roundg (gk - 1)
            case measure => omega
            case rel => exact ⟨j + 1, by go_num, by omega, by omega, hN.out, HB9.out, hl9⟩
        · have hltj' : ¬ (j : Int) < (T.el k : Int) := by omega
          have hje : j = T.el k := by omega
          rw [hje] at hT
          have hT1 := hid (hT.congr (x' := fun u v => if k ≤ u then T.bw y (T.n - u) v else 4611686018427387904) (fun v _ => rfl) (fun u _ v _ => Trel.bwX_next hlt u v))
          have HB := hid hB
          clear hT hB hje
          go_wp2
          go_roundg (gK - 1)
          case measure => omega
          case rel => exact ⟨k, by go_num, by omega, by omega, hT1.out, HB.out, hl⟩
    · obtain rfl : i = 0 := by omega
      have eiv : (((0 : Nat) : Int) - 1) = -1 := by omega
      rw [eiv]
      have hTf := hid (hT.congr (x' := fun u v => T.bw y (T.n - u) v) (fun v _ => rfl) (fun u hu v _ => if_pos (Nat.zero_le _)))
      clear hT eiv
      go_wp2
      go_ret2
      exact ⟨g, F, rfl, by omega, hTf.out, hW⟩
end Go.Proofs.Ytnocbkhnmdmfhaa
