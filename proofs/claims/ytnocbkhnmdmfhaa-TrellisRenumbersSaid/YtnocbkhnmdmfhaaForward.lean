/- semiring.Forward over the natural numbers. -/
import Derived.Test.YtnocbkhnmdmfhaaValued
namespace Go.Proofs.Ytnocbkhnmdmfhaa
open Go.RowKit

/-- What the table holds when the sections ahead of i are done and j edges of section i. -/
def Trel.fwdX (T : Trel) (y : Nat → Nat → Nat) (i j : Nat) : Nat → Nat → Nat := fun u v => if u ≤ i then T.fwd y u v else if u = i + 1 then T.fwdE y (T.fwd y i) i j v else 0
theorem Trel.fwdX_next (T : Trel) (y : Nat → Nat → Nat) (i u v : Nat) : T.fwdX y i (T.el i) u v = T.fwdX y (i + 1) 0 u v := by
  simp only [Trel.fwdX]
  by_cases h : u ≤ i
  · rw [if_pos h, if_pos (by omega)]
  · rw [if_neg h]
    by_cases h2 : u = i + 1
    · subst h2
      rw [if_pos rfl, if_pos (Nat.le_refl _)]
      rfl
    · rw [if_neg h2, if_neg (by omega)]
      split
      · rfl
      · rfl
theorem Trel.fwdX_put (T : Trel) (y : Nat → Nat → Nat) (i j u v : Nat) : upd2 (T.fwdX y i j) (i + 1) (T.to i j).toNat (T.fwdE y (T.fwd y i) i j (T.to i j).toNat + T.fwd y i (T.fr i j).toNat * y i j) u v = T.fwdX y i (j + 1) u v := by
  simp only [Trel.fwdX, upd2]
  by_cases h : u ≤ i
  · rw [if_pos h, if_pos h, if_neg (by omega)]
  · rw [if_neg h, if_neg h]
    by_cases h2 : u = i + 1
    · rw [if_pos h2, if_pos h2]
      show _ = T.fwdE y (T.fwd y i) i j v + if (T.to i j).toNat = v then _ else 0
      by_cases h3 : v = (T.to i j).toNat
      · rw [if_pos ⟨h2, h3⟩, if_pos h3.symm, h3]
      · rw [if_neg (fun hh => h3 hh.2), if_neg (fun e => h3 e.symm)]
        rfl
    · rw [if_neg h2, if_neg h2, if_neg (by omega)]
def FwdPost (T : Trel) (x : Nat → Nat → Nat) (w : World) (e : Ending) (w' : World) : Prop :=
  ∃ g F, e = .returned (.tuple #[.slice (some ⟨g, 0, none⟩) T.nw T.nw, .int .i64 0]) ∧ w.heap.size ≤ g ∧ NumTab w' g (g + 1) T.nw F (fun v => (T.W v).toNat) x ∧ Below w.heap.size w w'
set_option maxRecDepth 100000 in
set_option maxHeartbeats 16000000 in
theorem forwardN_any (T : Trel) (A B V : Option Addr) (c d vc : Nat) (y : Nat → Nat → Nat) (w : World) (h : T.Reads w A B) (hs : T.shapeE = 0) (hv : VTab w V T.n T.el y) (hy : ∀ i, i < T.n → ∀ j, j < T.el i → y i j ≤ 1) :
    Calls Try.prog 63 #[.agg #[], .agg #[.slice A T.nw c, .slice B T.n d], .slice V T.n vc] w (FwdPost T (T.fwd y) w) := by
  obtain ⟨O1, hO1⟩ : ∃ o, o = (Obj.cells #[] 101) := ⟨_, rfl⟩
  obtain ⟨O2, hO2⟩ : ∃ o, o = (Obj.cells #[.slice A T.nw c, .slice B T.n d] 25) := ⟨_, rfl⟩
  have hB0 : Below (w.heap.size + 2) ((w.alloc O1).alloc O2) ((w.alloc O1).alloc O2) := Below.refl _ _
  have HS : Hid (∀ w', Below (w.heap.size + 2) ((w.alloc O1).alloc O2) w' → (w'.cell? ⟨w.heap.size + 1, 0, none⟩ = some (.slice A T.nw c) ∧ w'.cell? ⟨w.heap.size + 1, 1, none⟩ = some (.slice B T.n d)) ∧ Below w.heap.size w w') := fun w' hB => by
    have hB' := two_below hB
    subst hO2
    have hr := box2_two hB
    exact ⟨⟨hr.cell (i := 0) (by simp), hr.cell (i := 1) (by simp)⟩, hB'⟩
  obtain ⟨⟨p0, p1⟩, hW⟩ := HS.out _ hB0
  have HSH := hid (Trel.shape_of hs)
  have HSE := hid hs
  have HR := hid h
  have HV := hid hv
  have HY := hid hy
  clear h hs hv hy
  go_enter Try.func63, Try.ntmps63
  go_wp2_with fail
  rw [← hO1, ← hO2]
  refine (valuedN_any T A B V c d vc y _ (HR.out.on hW) HSE.out (HV.out.on hW)).mono ?_
  rintro e w1 ⟨rfl, kb⟩
  have hB1 := two_on hB0 kb
  clear p0 p1 hW kb hB0 hO1 hO2
  obtain ⟨⟨p0, p1⟩, hW⟩ := HS.out _ hB1
  go_wp2_with fail
  refine (rowsN_any T A B c d _ (HR.out.on hW) HSH.out).mono ?_
  rintro e w2 ⟨g, F, rfl, hg, hT, kb⟩
  have hB2 := two_on hB1 kb
  have hl1 := two_lt hB1
  have hg2 : w.heap.size + 2 ≤ g := by omega
  have hl2 : w.heap.size + 2 < w2.heap.size := by have := hT.row.lt; omega
  obtain ⟨W2, hW2⟩ : ∃ W, W = (w.alloc O1).alloc O2 := ⟨_, rfl⟩
  have HS2 : Hid (∀ w', Below (w.heap.size + 2) W2 w' → (w'.cell? ⟨w.heap.size + 1, 0, none⟩ = some (.slice A T.nw c) ∧ w'.cell? ⟨w.heap.size + 1, 1, none⟩ = some (.slice B T.n d)) ∧ Below w.heap.size w w') := by rw [hW2]; exact HS
  rw [← hW2] at hB2
  clear p0 p1 hW kb hB1 hl1 hg hW2 HS
  have hn64 := HSH.out.n64
  have HNW := hid HSH.out.nw
  have hnw0 : 0 < T.nw := by have := HNW.out; omega
  have hnw0' : (0 : Int) < (T.nw : Int) := by omega
  have hw0 := HSH.out.wid (i := 0) (by omega)
  have hw0n : 0 < (T.W 0).toNat := by omega
  obtain ⟨b0, o0, d0, A0, c0, hF0, hb0, hbl0, q0, _, _, _, z0, hni0⟩ := hT.at (v := 0) hnw0 (k := 0) hw0n
  obtain ⟨n0, hn0⟩ : ∃ n, n = (T.W 0).toNat := ⟨_, rfl⟩
  have HN0 := hid hn0
  have r0 := hT.row.cell hnw0
  rw [hF0] at r0
  change w2.cell? ⟨g, 0, none⟩ = some (.slice (some ⟨b0, o0, none⟩) (T.W 0).toNat d0) at r0
  rw [← hn0] at hw0n r0
  have hw0n' : (0 : Int) < (n0 : Int) := by omega
  clear hn0
  go_upto_region 5 with fail
  have hl := hl2
  refine wp_region_held_drew (S := fun w' => w'.cell? ⟨g, 0, none⟩ = some (.slice (some ⟨b0, o0, none⟩) n0 d0)) (by kernel_rfl) (cellS (Below.refl _ _).drew r0) (fun hHeld => ?_)
  obtain ⟨w3, hw⟩ : ∃ W, W = World.drew w2 := ⟨_, rfl⟩
  have kb : Below w2.heap.size w2 w3 := by rw [hw]; exact (Below.refl _ _).drew
  rw [← hw] at hHeld ⊢
  clear hw
  replace hB2 := two_on_ hB2 (Nat.le_of_lt hl) kb
  replace hl := Nat.lt_of_lt_of_le hl kb.size
  replace hT := hT.on kb
  replace r0 := cellS kb r0
  replace q0 := cellS kb q0
  clear kb
  refine wpAnyH_take (i := 0) (v := ?_) (by simp only [List.getElem?_toArray, List.getElem?_cons_zero]; rfl) (by kernel_rfl) (by kernel_rfl) (by kernel_rfl) (by exact fun _ _ _ h => h) (Or.inl ⟨by rfl, ?_⟩) (by assumption) ?_
  rotate_left
  · (intro w hSw; (try dsimp only at hSw); go_simp); first | done | with_reducible rfl
  try simp only [Act.put, List.setIfInBounds_toArray, List.set_cons_zero, List.set_cons_succ]
  refine wpAnyH_take (i := 1) (v := ?_) (by simp only [List.getElem?_toArray, List.getElem?_cons_succ, List.getElem?_cons_zero]; rfl) (by kernel_rfl) (by kernel_rfl) (by kernel_rfl) (by exact fun _ _ _ h => h) (Or.inl ⟨by rfl, ?_⟩) (by assumption) ?_
  rotate_left
  · (intro w hSw; (try dsimp only at hSw); go_simp); first | done | with_reducible rfl
  try simp only [Act.put, List.setIfInBounds_toArray, List.set_cons_zero, List.set_cons_succ]
  refine wpAnyH_take (i := 2) (v := ?_) (by simp only [List.getElem?_toArray, List.getElem?_cons_succ, List.getElem?_cons_zero]; rfl) (by kernel_rfl) (by kernel_rfl) (by kernel_rfl) (by exact fun _ _ _ h => h) (Or.inl ⟨by rfl, ?_⟩) (by assumption) ?_
  rotate_left
  · (intro w hSw; (try dsimp only at hSw); go_simp); first | done | with_reducible rfl
  try simp only [Act.put, List.setIfInBounds_toArray, List.set_cons_zero, List.set_cons_succ]
  refine wpAnyH_take (i := 3) (v := ?_) (by simp only [List.getElem?_toArray, List.getElem?_cons_succ, List.getElem?_cons_zero]; rfl) (by kernel_rfl) (by kernel_rfl) (by kernel_rfl) (by exact fun _ _ _ h => h) (Or.inl ⟨by rfl, ?_⟩) (by assumption) ?_
  rotate_left
  · (intro w hSw; (try dsimp only at hSw); go_simp); first | done | with_reducible rfl
  try simp only [Act.put, List.setIfInBounds_toArray, List.set_cons_zero, List.set_cons_succ]
  refine wpAnyH_take (i := 4) (v := ?_) (by simp only [List.getElem?_toArray, List.getElem?_cons_succ, List.getElem?_cons_zero]; rfl) (by kernel_rfl) (by kernel_rfl) (by kernel_rfl) (by exact fun _ _ _ h => h) (Or.inl ⟨by rfl, ?_⟩) (by assumption) ?_
  rotate_left
  · (intro w hSw; (try dsimp only at hSw); go_simp); first | done | with_reducible rfl
  try simp only [Act.put, List.setIfInBounds_toArray, List.set_cons_zero, List.set_cons_succ]
  refine wpAnyH_ready (rs := [5]) (by kernel_rfl) (by simp) ?_
  refine AllReadyH.cons (by simp only [List.getElem?_toArray, List.getElem?_cons_succ, List.getElem?_cons_zero]; rfl) (fun K hK => ?_) AllReadyH.nil
  go_simp
  go_wp2_with fail
  refine (cOne_any w3).mono ?_
  rintro e w4 ⟨A1, c1, rfl, z1, z2, z3, kb⟩
  replace hB2 := two_on_ hB2 (Nat.le_of_lt hl) kb
  replace hl := Nat.lt_of_lt_of_le hl kb.size
  replace hT := hT.on kb
  replace r0 := cellS kb r0
  replace q0 := cellS kb q0
  clear kb
  refine hK.out _ _ r0 (fun hHeld => ?_)
  clear hK K
  try simp only [Act.put, List.setIfInBounds_toArray, List.set_cons_zero, List.set_cons_succ]
  refine wpAnyH_take (i := 6) (v := ?_) (by simp only [List.getElem?_toArray, List.getElem?_cons_succ, List.getElem?_cons_zero]; rfl) (by kernel_rfl) (by kernel_rfl) (by kernel_rfl) (by exact fun _ _ _ h => h) (Or.inl ⟨by rfl, ?_⟩) (by assumption) ?_
  rotate_left
  · (intro w hSw; (try dsimp only at hSw); go_simp); first | done | with_reducible rfl
  try simp only [Act.put, List.setIfInBounds_toArray, List.set_cons_zero, List.set_cons_succ]
  refine wpAnyH_ready (rs := [7]) (by kernel_rfl) (by simp) ?_
  refine AllReadyH.cons (by simp only [List.getElem?_toArray, List.getElem?_cons_succ, List.getElem?_cons_zero]; rfl) (fun K hK => ?_) AllReadyH.nil
  have zf : w4.frozen? ⟨b0, o0, none⟩ = false := by
    obtain ⟨b9, o9, d9, A9, c9, hF9, _, _, _, _, _, _, z9, _⟩ := hT.at (v := 0) hnw0 (k := 0) (by rw [← HN0.out]; exact hw0n)
    rw [hF0] at hF9
    injection hF9 with e1 _ _
    injection e1 with e1
    injection e1 with e1 e2
    subst e1 e2
    exact z9
  rw [Nat.add_zero] at q0
  go_simp
  replace r0 := cell_setCell_far (p := ⟨b0, o0, none⟩) (u := .slice A1 (dl 1) c1) r0 (by show g ≠ b0; omega)
  have hT9 := hT.set (by omega) hnw0 (k := 0) (by rw [← HN0.out]; exact hw0n) hF0 z3 z1 z2
  rw [Nat.add_zero] at hT9
  have hB9 := hB2.setCell (p := ⟨b0, o0, none⟩) (by show w.heap.size + 2 ≤ b0; omega) (.slice A1 (dl 1) c1)
  have hl9 : w.heap.size + 2 < (World.setCell w4 ⟨b0, o0, none⟩ (.slice A1 (dl 1) c1)).heap.size := by simp; exact hl
  refine hK.out _ _ r0 (fun hHeld => ?_)
  clear hK K
  try simp only [Act.put, List.setIfInBounds_toArray, List.set_cons_zero, List.set_cons_succ]
  refine wpAnyH_done (by kernel_rfl) ?_ _
  clear hHeld
  obtain ⟨w9, hw9⟩ : ∃ W, W = World.setCell w4 ⟨b0, o0, none⟩ (.slice A1 (dl 1) c1) := ⟨_, rfl⟩
  rw [← hw9] at hT9 hB9 hl9 ⊢
  clear hw9 hT hB2 hl r0 q0 z3
  have hT0 : NumTab w9 g (g + 1) T.nw F (fun v => (T.W v).toNat) (T.fwdX y 0 0) := hT9.congr (fun v _ => rfl) (fun u _ v hv => by
    simp only [Trel.fwdX, upd2]
    by_cases e : u = 0
    · subst e
      rw [if_pos (Nat.le_refl _)]
      show _ = if v = 0 then 1 else 0
      by_cases e2 : v = 0
      · rw [if_pos ⟨rfl, e2⟩, if_pos e2]
      · rw [if_neg (fun h => e2 h.2), if_neg e2]
    · rw [if_neg (fun h => e h.1), if_neg (by omega)]
      split <;> rfl)
  clear hT9 hw0n hw0n' z0 hni0 hbl0 z1 z2 HN0 hw0
  obtain ⟨⟨p0, p1⟩, hW⟩ := HS2.out _ hB9
  go_wp2
  go_loopg [33] T.n (fun gg iv wx => ∃ k : Nat, iv = .int .i64 (k : Nat) ∧ k ≤ T.n ∧ T.n ≤ k + gg ∧ NumTab wx g (g + 1) T.nw F (fun v => (T.W v).toNat) (T.fwdX y k 0) ∧ Below (w.heap.size + 2) W2 wx ∧ w.heap.size + 2 < wx.heap.size)
  case atStart => exact ⟨0, rfl, by omega, by omega, hT0, hB9, hl9⟩
  case round =>
    clear hW p0 p1 hT0 hB9 hl9
    obtain ⟨gK, hgK⟩ : ∃ g, g = gk := ⟨_, rfl⟩
    subst hgK
    obtain ⟨k, rfl, hk, hkg, hT, hB, hl⟩ := hrel
    obtain ⟨wk, hwk⟩ : ∃ W, W = wr := ⟨_, rfl⟩
    subst hwk
    have hk0 : (0 : Int) ≤ (k : Int) := by omega
    obtain ⟨⟨p0, p1⟩, hW⟩ := HS2.out _ hB
    by_cases hlt : k < T.n
    · have hlt' : (k : Int) < (T.n : Int) := by omega
      have hk1 : k + 1 < T.nw := by have := HNW.out; omega
      have hkw : k < T.nw := by omega
      have hk1' : (k : Int) + 1 < (T.nw : Int) := by omega
      have hkw' : (k : Int) < (T.nw : Int) := by omega
      have hk01 : (0 : Int) ≤ (k : Int) + 1 := by omega
      have hwk1 : IntKind.i64.wrap ((k : Int) + 1) = (k : Int) + 1 := IntWalk.i64_in _ (by omega)
      obtain ⟨eb, eo, E, ec, rfl, heb, x0w, he1, he2, he3, he4⟩ := HR.out.sec hlt
      obtain ⟨vb, vo, R, rc, rfl, hvb, y0w, hvt⟩ := HV.out k hlt
      have hel := HSH.out.elb hlt
      have HE3 := hid he3
      have HVT := hid hvt
      have HX0 := hid x0w
      have HY0 := hid y0w
      have x0 := cellS hW x0w
      clear he3 he4 he2 hvt x0w y0w
      go_wp2
      go_loopg [40] (T.el k) (fun gg jv wx => ∃ j : Nat, jv = .int .i64 (j : Nat) ∧ j ≤ T.el k ∧ T.el k ≤ j + gg ∧ NumTab wx g (g + 1) T.nw F (fun v => (T.W v).toNat) (T.fwdX y k j) ∧ Below (w.heap.size + 2) W2 wx ∧ w.heap.size + 2 < wx.heap.size)
      case atStart => exact ⟨0, rfl, by omega, by omega, hT, hB, hl⟩
      case round =>
        clear p0 p1 hT hB hl x0 hW
        obtain ⟨j, rfl, hj, hjg, hT, hB, hl⟩ := hrel
        have hj0 : (0 : Int) ≤ (j : Int) := by omega
        by_cases hltj : j < T.el k
        · have hltj' : (j : Int) < (T.el k : Int) := by omega
          have hW := (HS2.out _ hB).2
          obtain ⟨fb, fo, rfl, hfb, e0, e1, e2⟩ := edge_at ((Rd.below HE3.out hW (Nat.le_refl _)).mono hW.size) hltj
          obtain ⟨i1, i2, i3, i4⟩ := HSH.out.ins k hlt j hltj
          obtain ⟨fn, hfn⟩ : ∃ n : Nat, (n : Int) = T.fr k j := ⟨(T.fr k j).toNat, by omega⟩
          obtain ⟨tn, htn⟩ : ∃ n : Nat, (n : Int) = T.to k j := ⟨(T.to k j).toNat, by omega⟩
          obtain ⟨lb, hlb⟩ : ∃ z, z = T.lb k j := ⟨_, rfl⟩
          obtain ⟨n1, hn1⟩ : ∃ n, n = (T.W k).toNat := ⟨_, rfl⟩
          obtain ⟨n2, hn2⟩ : ∃ n, n = (T.W (k + 1)).toNat := ⟨_, rfl⟩
          have hfl : fn < n1 := by omega
          have htl : tn < n2 := by omega
          have hfl' : (fn : Int) < (n1 : Int) := by omega
          have htl' : (tn : Int) < (n2 : Int) := by omega
          have hf0 : (0 : Int) ≤ (fn : Int) := by omega
          have ht0 : (0 : Int) ≤ (tn : Int) := by omega
          obtain ⟨ab, ao, ad, Ap, cp, hFa, hab, habl, aq, ap1, ap2, apn, _, _⟩ := hT.at (v := k) hkw (k := fn) (by omega)
          obtain ⟨bb, bo, bd, Aq, cq, hFb, hbb, hbbl, bq, bq1, bq2, bqn, zq, _⟩ := hT.at (v := k + 1) hk1 (k := tn) (by omega)
          obtain ⟨rb, ro, Av, cv, rfl, hrb, vq, vq1, vq2, vn⟩ := (HVT.out.on hW) j hltj
          have hrow1 := hT.row.cell hkw
          have hrow2 := hT.row.cell hk1
          have y0 := cellS hW HY0.out
          have hapart := hT.apart k (k + 1) hkw hk1 (by omega)
          rw [hFa] at hrow1
          rw [hFb] at hrow2
          have hne : ab ≠ bb := fun e => by
            rw [hFa, hFb, e] at hapart
            simp [Value.ownBlock] at hapart
          have epv : T.fwdX y k j k fn = T.fwd y k fn := if_pos (Nat.le_refl _)
          have eqv : T.fwdX y k j (k + 1) tn = T.fwdE y (T.fwd y k) k j tn := by
            show (if k + 1 ≤ k then _ else if k + 1 = k + 1 then _ else 0) = _
            rw [if_neg (by omega), if_pos rfl]
          have d1 := Trel.fwd_dl HSH.out HY.out (i := k) (by omega) fn
          have d2 := Trel.fwdE_dl HSH.out HY.out (i := k) (j := j) hlt hj tn
          have d3 := Trel.fwdE_dl HSH.out HY.out (i := k) (j := j + 1) hlt hltj tn
          have hyv := HY.out k hlt j hltj
          have hsum : T.fwdE y (T.fwd y k) k (j + 1) tn = T.fwdE y (T.fwd y k) k j tn + T.fwd y k fn * y k j := by
            show _ + (if (T.to k j).toNat = tn then T.fwd y k (T.fr k j).toNat * y k j else 0) = _
            have e1 : (T.fr k j).toNat = fn := by omega
            have e2 : (T.to k j).toNat = tn := by omega
            rw [e1, e2, if_pos rfl]
          rw [epv] at aq ap1 apn
          rw [eqv] at bq bq1 bqn
          rw [hsum] at d3
          obtain ⟨pv, hpv⟩ : ∃ z, z = T.fwd y k fn := ⟨_, rfl⟩
          obtain ⟨qv, hqv⟩ : ∃ z, z = T.fwdE y (T.fwd y k) k j tn := ⟨_, rfl⟩
          obtain ⟨yv, hyv2⟩ : ∃ z, z = y k j := ⟨_, rfl⟩
          rw [← hpv] at aq ap1 apn d1 d3
          rw [← hqv] at bq bq1 bqn d2 d3
          rw [← hyv2] at vq vq1 vn hyv d3
          have d4 : dl yv ≤ 37 := dl_path (i := 0) (by omega) (by simpa using hyv)
          have d5 : dl (pv * yv) ≤ 37 := by
            refine Nat.le_trans (dl_mono (y := pv) ?_) d1
            exact Nat.le_trans (Nat.mul_le_mul_left pv hyv) (by omega)
          have HPUT : Hid (∀ u v, upd2 (T.fwdX y k j) (k + 1) tn (qv + pv * yv) u v = T.fwdX y k (j + 1) u v) := fun u v => by
            have := Trel.fwdX_put T y k j u v
            have e1 : (T.fr k j).toNat = fn := by omega
            have e2 : (T.to k j).toNat = tn := by omega
            rw [e1, e2, ← hpv, ← hqv, ← hyv2] at this
            exact this
          change wr.cell? ⟨g, k, none⟩ = some (.slice (some ⟨ab, ao, none⟩) (T.W k).toNat ad) at hrow1
          change wr.cell? ⟨g, k + 1, none⟩ = some (.slice (some ⟨bb, bo, none⟩) (T.W (k + 1)).toNat bd) at hrow2
          have x0 := cellS hW HX0.out
          rw [← hn1] at hrow1
          rw [← hn2] at hrow2
          rw [← hfn] at e0
          rw [← hlb] at e1
          rw [← htn] at e2
          have hgbb : g ≠ bb := by omega
          have hbx : wr.heap.size ≠ bb := by omega
          have hvbb : vb ≠ bb := by omega
          have hWs := hW.size
          have HSET : Hid (F (k + 1) = .slice (some ⟨bb, bo, none⟩) (T.W (k + 1)).toNat bd) := hFb
          have HTL : Hid (tn < (T.W (k + 1)).toNat) := by rw [← hn2]; exact htl
          have hrbb : rb ≠ bb := by
            obtain ⟨_, _, _, _, e8, h8, _⟩ := HVT.out j hltj
            injection e8 with e8
            injection e8 with e8
            omega
          clear hapart hFa hFb epv eqv hsum hpv hqv hyv2 hyv hfn htn hlb i1 i2 i3 i4 hn1 hn2 hW
          go_upto_region 12 with fail
          obtain ⟨OB, hOB⟩ : ∃ o, o = (Obj.cells #[.int .i64 (fn : Int), .int .i64 lb, .int .i64 (tn : Int)] 72) := ⟨_, rfl⟩
          have hq : ∀ i v, (#[Value.int .i64 (fn : Int), .int .i64 lb, .int .i64 (tn : Int)] : Array Value)[i]? = some v → (wr.alloc OB).cell? ⟨wr.heap.size, i, none⟩ = some v := fun i v hv => by subst hOB; exact tbox (Below.refl _ _) hv
          have s0 := hq 0 _ rfl
          have s2 := hq 2 _ rfl
          have kb : Below wr.heap.size wr (wr.alloc OB) := (Below.refl _ _).alloc (Nat.le_refl _) _
          rw [← hOB]
          obtain ⟨w50, hw50⟩ : ∃ W, W = wr.alloc OB := ⟨_, rfl⟩
          rw [← hw50] at s0 s2 kb ⊢
          replace hT := hT.on kb
          replace hB := two_on_ hB (Nat.le_of_lt hl) kb
          replace hl := Nat.lt_of_lt_of_le hl kb.size
          replace aq := cellS kb aq
          replace bq := cellS kb bq
          replace vq := cellS kb vq
          replace y0 := cellS kb y0
          replace hrow1 := cellS kb hrow1
          replace hrow2 := cellS kb hrow2
          replace apn := apn.on kb
          replace bqn := bqn.on kb
          replace vn := vn.on kb
          obtain ⟨bx, hbx2⟩ : ∃ b, b = wr.heap.size := ⟨_, rfl⟩
          rw [← hbx2] at s0 s2 hbx ⊢
          clear hq hw50 hOB kb x0 e0 e1 e2 hbx2
          refine wp_region_held_drew (S := fun w' => w'.cell? ⟨g, k, none⟩ = some (.slice (some ⟨ab, ao, none⟩) n1 ad) ∧ w'.cell? ⟨g, k + 1, none⟩ = some (.slice (some ⟨bb, bo, none⟩) n2 bd) ∧ w'.cell? ⟨bx, 0, none⟩ = some (.int .i64 (fn : Int)) ∧ w'.cell? ⟨bx, 2, none⟩ = some (.int .i64 (tn : Int)) ∧ w'.cell? ⟨vb, vo + k, none⟩ = some (.slice (some ⟨rb, ro, none⟩) (T.el k) rc) ∧ w'.cell? ⟨rb, ro + j, none⟩ = some (.slice Av (dl yv) cv) ∧ w'.cell? ⟨ab, ao + fn, none⟩ = some (.slice Ap (dl pv) cp)) (by kernel_rfl) ⟨cellS (Below.refl _ _).drew hrow1, cellS (Below.refl _ _).drew hrow2, cellS (Below.refl _ _).drew s0, cellS (Below.refl _ _).drew s2, cellS (Below.refl _ _).drew y0, cellS (Below.refl _ _).drew vq, cellS (Below.refl _ _).drew aq⟩ (fun hHeld => ?_)
          obtain ⟨w51, hw⟩ : ∃ W, W = World.drew w50 := ⟨_, rfl⟩
          have kb : Below w50.heap.size w50 w51 := by rw [hw]; exact (Below.refl _ _).drew
          rw [← hw] at hHeld ⊢
          clear hw
          replace hB := two_on_ hB (Nat.le_of_lt hl) kb
          replace hl := Nat.lt_of_lt_of_le hl kb.size
          replace hT := hT.on kb
          replace aq := cellS kb aq
          replace bq := cellS kb bq
          replace vq := cellS kb vq
          replace y0 := cellS kb y0
          replace hrow1 := cellS kb hrow1
          replace hrow2 := cellS kb hrow2
          replace s0 := cellS kb s0
          replace s2 := cellS kb s2
          replace apn := apn.on kb
          replace bqn := bqn.on kb
          replace vn := vn.on kb
          clear kb
          refine wpAnyH_take (i := 0) (v := ?_) (by simp only [List.getElem?_toArray, List.getElem?_cons_zero]; rfl) (by kernel_rfl) (by kernel_rfl) (by kernel_rfl) (by exact fun _ _ _ h => h) (Or.inl ⟨by rfl, ?_⟩) (by assumption) ?_
          rotate_left
          · (intro w hSw; (try dsimp only at hSw); go_simp); first | done | with_reducible rfl
          try simp only [Act.put, List.setIfInBounds_toArray, List.set_cons_zero, List.set_cons_succ]
          refine wpAnyH_take (i := 1) (v := ?_) (by simp only [List.getElem?_toArray, List.getElem?_cons_succ, List.getElem?_cons_zero]; rfl) (by kernel_rfl) (by kernel_rfl) (by kernel_rfl) (by exact fun _ _ _ h => h) (Or.inl ⟨by rfl, ?_⟩) (by assumption) ?_
          rotate_left
          · (intro w hSw; (try dsimp only at hSw); go_simp); first | done | with_reducible rfl
          try simp only [Act.put, List.setIfInBounds_toArray, List.set_cons_zero, List.set_cons_succ]
          refine wpAnyH_take (i := 2) (v := ?_) (by simp only [List.getElem?_toArray, List.getElem?_cons_succ, List.getElem?_cons_zero]; rfl) (by kernel_rfl) (by kernel_rfl) (by kernel_rfl) (by exact fun _ _ _ h => h) (Or.inl ⟨by rfl, ?_⟩) (by assumption) ?_
          rotate_left
          · (intro w hSw; (try dsimp only at hSw); go_simp); first | done | with_reducible rfl
          try simp only [Act.put, List.setIfInBounds_toArray, List.set_cons_zero, List.set_cons_succ]
          refine wpAnyH_take (i := 3) (v := ?_) (by simp only [List.getElem?_toArray, List.getElem?_cons_succ, List.getElem?_cons_zero]; rfl) (by kernel_rfl) (by kernel_rfl) (by kernel_rfl) (by exact fun _ _ _ h => h) (Or.inl ⟨by rfl, ?_⟩) (by assumption) ?_
          rotate_left
          · (intro w hSw; (try dsimp only at hSw); go_simp); first | done | with_reducible rfl
          try simp only [Act.put, List.setIfInBounds_toArray, List.set_cons_zero, List.set_cons_succ]
          refine wpAnyH_take (i := 4) (v := ?_) (by simp only [List.getElem?_toArray, List.getElem?_cons_succ, List.getElem?_cons_zero]; rfl) (by kernel_rfl) (by kernel_rfl) (by kernel_rfl) (by exact fun _ _ _ h => h) (Or.inl ⟨by rfl, ?_⟩) (by assumption) ?_
          rotate_left
          · (intro w hSw; (try dsimp only at hSw); go_simp); first | done | with_reducible rfl
          try simp only [Act.put, List.setIfInBounds_toArray, List.set_cons_zero, List.set_cons_succ]
          refine wpAnyH_take (i := 5) (v := ?_) (by simp only [List.getElem?_toArray, List.getElem?_cons_succ, List.getElem?_cons_zero]; rfl) (by kernel_rfl) (by kernel_rfl) (by kernel_rfl) (by exact fun _ _ _ h => h) (Or.inl ⟨by rfl, ?_⟩) (by assumption) ?_
          rotate_left
          · (intro w hSw; (try dsimp only at hSw); go_simp); first | done | with_reducible rfl
          try simp only [Act.put, List.setIfInBounds_toArray, List.set_cons_zero, List.set_cons_succ]
          refine wpAnyH_take (i := 6) (v := ?_) (by simp only [List.getElem?_toArray, List.getElem?_cons_succ, List.getElem?_cons_zero]; rfl) (by kernel_rfl) (by kernel_rfl) (by kernel_rfl) (by exact fun _ _ _ h => h) (Or.inl ⟨by rfl, ?_⟩) (by assumption) ?_
          rotate_left
          · (intro w hSw; (try dsimp only at hSw); go_simp); first | done | with_reducible rfl
          try simp only [Act.put, List.setIfInBounds_toArray, List.set_cons_zero, List.set_cons_succ]
          refine wpAnyH_take (i := 7) (v := ?_) (by simp only [List.getElem?_toArray, List.getElem?_cons_succ, List.getElem?_cons_zero]; rfl) (by kernel_rfl) (by kernel_rfl) (by kernel_rfl) (by exact fun _ _ _ h => h) (Or.inl ⟨by rfl, ?_⟩) (by assumption) ?_
          rotate_left
          · (intro w hSw; (try dsimp only at hSw); go_simp); first | done | with_reducible rfl
          try simp only [Act.put, List.setIfInBounds_toArray, List.set_cons_zero, List.set_cons_succ]
          refine wpAnyH_take (i := 8) (v := ?_) (by simp only [List.getElem?_toArray, List.getElem?_cons_succ, List.getElem?_cons_zero]; rfl) (by kernel_rfl) (by kernel_rfl) (by kernel_rfl) (by exact fun _ _ _ h => h) (Or.inl ⟨by rfl, ?_⟩) (by assumption) ?_
          rotate_left
          · (intro w hSw; (try dsimp only at hSw); go_simp); first | done | with_reducible rfl
          try simp only [Act.put, List.setIfInBounds_toArray, List.set_cons_zero, List.set_cons_succ]
          refine wpAnyH_take (i := 9) (v := ?_) (by simp only [List.getElem?_toArray, List.getElem?_cons_succ, List.getElem?_cons_zero]; rfl) (by kernel_rfl) (by kernel_rfl) (by kernel_rfl) (by exact fun _ _ _ h => h) (Or.inl ⟨by rfl, ?_⟩) (by assumption) ?_
          rotate_left
          · (intro w hSw; (try dsimp only at hSw); go_simp); first | done | with_reducible rfl
          try simp only [Act.put, List.setIfInBounds_toArray, List.set_cons_zero, List.set_cons_succ]
          refine wpAnyH_take (i := 10) (v := ?_) (by simp only [List.getElem?_toArray, List.getElem?_cons_succ, List.getElem?_cons_zero]; rfl) (by kernel_rfl) (by kernel_rfl) (by kernel_rfl) (by exact fun _ _ _ h => h) (Or.inl ⟨by rfl, ?_⟩) (by assumption) ?_
          rotate_left
          · (intro w hSw; (try dsimp only at hSw); go_simp); first | done | with_reducible rfl
          try simp only [Act.put, List.setIfInBounds_toArray, List.set_cons_zero, List.set_cons_succ]
          refine wpAnyH_take (i := 11) (v := ?_) (by simp only [List.getElem?_toArray, List.getElem?_cons_succ, List.getElem?_cons_zero]; rfl) (by kernel_rfl) (by kernel_rfl) (by kernel_rfl) (by exact fun _ _ _ h => h) (Or.inl ⟨by rfl, ?_⟩) (by assumption) ?_
          rotate_left
          · (intro w hSw; (try dsimp only at hSw); go_simp); first | done | with_reducible rfl
          try simp only [Act.put, List.setIfInBounds_toArray, List.set_cons_zero, List.set_cons_succ]
          refine wpAnyH_take (i := 12) (v := ?_) (by simp only [List.getElem?_toArray, List.getElem?_cons_succ, List.getElem?_cons_zero]; rfl) (by kernel_rfl) (by kernel_rfl) (by kernel_rfl) (by exact fun _ _ _ h => h) (Or.inl ⟨by rfl, ?_⟩) (by assumption) ?_
          rotate_left
          · (intro w hSw; (try dsimp only at hSw); go_simp); first | done | with_reducible rfl
          try simp only [Act.put, List.setIfInBounds_toArray, List.set_cons_zero, List.set_cons_succ]
          refine wpAnyH_take (i := 13) (v := ?_) (by simp only [List.getElem?_toArray, List.getElem?_cons_succ, List.getElem?_cons_zero]; rfl) (by kernel_rfl) (by kernel_rfl) (by kernel_rfl) (by exact fun _ _ _ h => h) (Or.inl ⟨by rfl, ?_⟩) (by assumption) ?_
          rotate_left
          · (intro w hSw; (try dsimp only at hSw); go_simp); first | done | with_reducible rfl
          try simp only [Act.put, List.setIfInBounds_toArray, List.set_cons_zero, List.set_cons_succ]
          refine wpAnyH_take (i := 14) (v := ?_) (by simp only [List.getElem?_toArray, List.getElem?_cons_succ, List.getElem?_cons_zero]; rfl) (by kernel_rfl) (by kernel_rfl) (by kernel_rfl) (by exact fun _ _ _ h => h) (Or.inl ⟨by rfl, ?_⟩) (by assumption) ?_
          rotate_left
          · (intro w hSw; (try dsimp only at hSw); go_simp); first | done | with_reducible rfl
          try simp only [Act.put, List.setIfInBounds_toArray, List.set_cons_zero, List.set_cons_succ]
          refine wpAnyH_take (i := 15) (v := ?_) (by simp only [List.getElem?_toArray, List.getElem?_cons_succ, List.getElem?_cons_zero]; rfl) (by kernel_rfl) (by kernel_rfl) (by kernel_rfl) (by exact fun _ _ _ h => h) (Or.inl ⟨by rfl, ?_⟩) (by assumption) ?_
          rotate_left
          · (intro w hSw; (try dsimp only at hSw); go_simp); first | done | with_reducible rfl
          try simp only [Act.put, List.setIfInBounds_toArray, List.set_cons_zero, List.set_cons_succ]
          refine wpAnyH_take (i := 16) (v := ?_) (by simp only [List.getElem?_toArray, List.getElem?_cons_succ, List.getElem?_cons_zero]; rfl) (by kernel_rfl) (by kernel_rfl) (by kernel_rfl) (by exact fun _ _ _ h => h) (Or.inl ⟨by rfl, ?_⟩) (by assumption) ?_
          rotate_left
          · (intro w hSw; (try dsimp only at hSw); go_simp); first | done | with_reducible rfl
          try simp only [Act.put, List.setIfInBounds_toArray, List.set_cons_zero, List.set_cons_succ]
          refine wpAnyH_take (i := 18) (v := ?_) (by simp only [List.getElem?_toArray, List.getElem?_cons_succ, List.getElem?_cons_zero]; rfl) (by kernel_rfl) (by kernel_rfl) (by kernel_rfl) (by exact fun _ _ _ h => h) (Or.inl ⟨by rfl, ?_⟩) (by assumption) ?_
          rotate_left
          · (intro w hSw; (try dsimp only at hSw); go_simp); first | done | with_reducible rfl
          try simp only [Act.put, List.setIfInBounds_toArray, List.set_cons_zero, List.set_cons_succ]
          refine wpAnyH_take (i := 19) (v := ?_) (by simp only [List.getElem?_toArray, List.getElem?_cons_succ, List.getElem?_cons_zero]; rfl) (by kernel_rfl) (by kernel_rfl) (by kernel_rfl) (by exact fun _ _ _ h => h) (Or.inl ⟨by rfl, ?_⟩) (by assumption) ?_
          rotate_left
          · (intro w hSw; (try dsimp only at hSw); go_simp); first | done | with_reducible rfl
          try simp only [Act.put, List.setIfInBounds_toArray, List.set_cons_zero, List.set_cons_succ]
          refine wpAnyH_take (i := 20) (v := ?_) (by simp only [List.getElem?_toArray, List.getElem?_cons_succ, List.getElem?_cons_zero]; rfl) (by kernel_rfl) (by kernel_rfl) (by kernel_rfl) (by exact fun _ _ _ h => h) (Or.inl ⟨by rfl, ?_⟩) (by assumption) ?_
          rotate_left
          · (intro w hSw; (try dsimp only at hSw); go_simp); first | done | with_reducible rfl
          try simp only [Act.put, List.setIfInBounds_toArray, List.set_cons_zero, List.set_cons_succ]
          refine wpAnyH_take (i := 21) (v := ?_) (by simp only [List.getElem?_toArray, List.getElem?_cons_succ, List.getElem?_cons_zero]; rfl) (by kernel_rfl) (by kernel_rfl) (by kernel_rfl) (by exact fun _ _ _ h => h) (Or.inl ⟨by rfl, ?_⟩) (by assumption) ?_
          rotate_left
          · (intro w hSw; (try dsimp only at hSw); go_simp); first | done | with_reducible rfl
          try simp only [Act.put, List.setIfInBounds_toArray, List.set_cons_zero, List.set_cons_succ]
          refine wpAnyH_take (i := 22) (v := ?_) (by simp only [List.getElem?_toArray, List.getElem?_cons_succ, List.getElem?_cons_zero]; rfl) (by kernel_rfl) (by kernel_rfl) (by kernel_rfl) (by exact fun _ _ _ h => h) (Or.inl ⟨by rfl, ?_⟩) (by assumption) ?_
          rotate_left
          · (intro w hSw; (try dsimp only at hSw); go_simp); first | done | with_reducible rfl
          try simp only [Act.put, List.setIfInBounds_toArray, List.set_cons_zero, List.set_cons_succ]
          refine wpAnyH_take (i := 23) (v := ?_) (by simp only [List.getElem?_toArray, List.getElem?_cons_succ, List.getElem?_cons_zero]; rfl) (by kernel_rfl) (by kernel_rfl) (by kernel_rfl) (by exact fun _ _ _ h => h) (Or.inl ⟨by rfl, ?_⟩) (by assumption) ?_
          rotate_left
          · (intro w hSw; (try dsimp only at hSw); go_simp); first | done | with_reducible rfl
          try simp only [Act.put, List.setIfInBounds_toArray, List.set_cons_zero, List.set_cons_succ]
          refine wpAnyH_take (i := 24) (v := ?_) (by simp only [List.getElem?_toArray, List.getElem?_cons_succ, List.getElem?_cons_zero]; rfl) (by kernel_rfl) (by kernel_rfl) (by kernel_rfl) (by exact fun _ _ _ h => h) (Or.inl ⟨by rfl, ?_⟩) (by assumption) ?_
          rotate_left
          · (intro w hSw; (try dsimp only at hSw); go_simp); first | done | with_reducible rfl
          try simp only [Act.put, List.setIfInBounds_toArray, List.set_cons_zero, List.set_cons_succ]
          refine wpAnyH_take (i := 25) (v := ?_) (by simp only [List.getElem?_toArray, List.getElem?_cons_succ, List.getElem?_cons_zero]; rfl) (by kernel_rfl) (by kernel_rfl) (by kernel_rfl) (by exact fun _ _ _ h => h) (Or.inl ⟨by rfl, ?_⟩) (by assumption) ?_
          rotate_left
          · (intro w hSw; (try dsimp only at hSw); go_simp); first | done | with_reducible rfl
          try simp only [Act.put, List.setIfInBounds_toArray, List.set_cons_zero, List.set_cons_succ]
          refine wpAnyH_take (i := 26) (v := ?_) (by simp only [List.getElem?_toArray, List.getElem?_cons_succ, List.getElem?_cons_zero]; rfl) (by kernel_rfl) (by kernel_rfl) (by kernel_rfl) (by exact fun _ _ _ h => h) (Or.inl ⟨by rfl, ?_⟩) (by assumption) ?_
          rotate_left
          · (intro w hSw; (try dsimp only at hSw); go_simp); first | done | with_reducible rfl
          try simp only [Act.put, List.setIfInBounds_toArray, List.set_cons_zero, List.set_cons_succ]
          refine wpAnyH_take (i := 27) (v := ?_) (by simp only [List.getElem?_toArray, List.getElem?_cons_succ, List.getElem?_cons_zero]; rfl) (by kernel_rfl) (by kernel_rfl) (by kernel_rfl) (by exact fun _ _ _ h => h) (Or.inl ⟨by rfl, ?_⟩) (by assumption) ?_
          rotate_left
          · (intro w hSw; (try dsimp only at hSw); go_simp); first | done | with_reducible rfl
          try simp only [Act.put, List.setIfInBounds_toArray, List.set_cons_zero, List.set_cons_succ]
          refine wpAnyH_take (i := 28) (v := ?_) (by simp only [List.getElem?_toArray, List.getElem?_cons_succ, List.getElem?_cons_zero]; rfl) (by kernel_rfl) (by kernel_rfl) (by kernel_rfl) (by exact fun _ _ _ h => h) (Or.inl ⟨by rfl, ?_⟩) (by assumption) ?_
          rotate_left
          · (intro w hSw; (try dsimp only at hSw); go_simp); first | done | with_reducible rfl
          try simp only [Act.put, List.setIfInBounds_toArray, List.set_cons_zero, List.set_cons_succ]
          refine wpAnyH_take (i := 29) (v := ?_) (by simp only [List.getElem?_toArray, List.getElem?_cons_succ, List.getElem?_cons_zero]; rfl) (by kernel_rfl) (by kernel_rfl) (by kernel_rfl) (by exact fun _ _ _ h => h) (Or.inl ⟨by rfl, ?_⟩) (by assumption) ?_
          rotate_left
          · (intro w hSw; (try dsimp only at hSw); go_simp); first | done | with_reducible rfl
          try simp only [Act.put, List.setIfInBounds_toArray, List.set_cons_zero, List.set_cons_succ]
          refine wpAnyH_take (i := 30) (v := ?_) (by simp only [List.getElem?_toArray, List.getElem?_cons_succ, List.getElem?_cons_zero]; rfl) (by kernel_rfl) (by kernel_rfl) (by kernel_rfl) (by exact fun _ _ _ h => h) (Or.inl ⟨by rfl, ?_⟩) (by assumption) ?_
          rotate_left
          · (intro w hSw; (try dsimp only at hSw); go_simp); first | done | with_reducible rfl
          try simp only [Act.put, List.setIfInBounds_toArray, List.set_cons_zero, List.set_cons_succ]
          refine wpAnyH_take (i := 31) (v := ?_) (by simp only [List.getElem?_toArray, List.getElem?_cons_succ, List.getElem?_cons_zero]; rfl) (by kernel_rfl) (by kernel_rfl) (by kernel_rfl) (by exact fun _ _ _ h => h) (Or.inl ⟨by rfl, ?_⟩) (by assumption) ?_
          rotate_left
          · (intro w hSw; (try dsimp only at hSw); go_simp); first | done | with_reducible rfl
          try simp only [Act.put, List.setIfInBounds_toArray, List.set_cons_zero, List.set_cons_succ]
          refine wpAnyH_take (i := 32) (v := ?_) (by simp only [List.getElem?_toArray, List.getElem?_cons_succ, List.getElem?_cons_zero]; rfl) (by kernel_rfl) (by kernel_rfl) (by kernel_rfl) (by exact fun _ _ _ h => h) (Or.inl ⟨by rfl, ?_⟩) (by assumption) ?_
          rotate_left
          · (intro w hSw; (try dsimp only at hSw); go_simp); first | done | with_reducible rfl
          try simp only [Act.put, List.setIfInBounds_toArray, List.set_cons_zero, List.set_cons_succ]
          refine wpAnyH_take (i := 33) (v := ?_) (by simp only [List.getElem?_toArray, List.getElem?_cons_succ, List.getElem?_cons_zero]; rfl) (by kernel_rfl) (by kernel_rfl) (by kernel_rfl) (by exact fun _ _ _ h => h) (Or.inl ⟨by rfl, ?_⟩) (by assumption) ?_
          rotate_left
          · (intro w hSw; (try dsimp only at hSw); go_simp); first | done | with_reducible rfl
          try simp only [Act.put, List.setIfInBounds_toArray, List.set_cons_zero, List.set_cons_succ]
          refine wpAnyH_take (i := 34) (v := ?_) (by simp only [List.getElem?_toArray, List.getElem?_cons_succ, List.getElem?_cons_zero]; rfl) (by kernel_rfl) (by kernel_rfl) (by kernel_rfl) (by exact fun _ _ _ h => h) (Or.inl ⟨by rfl, ?_⟩) (by assumption) ?_
          rotate_left
          · (intro w hSw; (try dsimp only at hSw); go_simp); first | done | with_reducible rfl
          try simp only [Act.put, List.setIfInBounds_toArray, List.set_cons_zero, List.set_cons_succ]
          refine wpAnyH_ready (rs := [17, 35]) (by kernel_rfl) (by simp) ?_
          refine AllReadyH.cons (by simp only [List.getElem?_toArray, List.getElem?_cons_succ, List.getElem?_cons_zero]; rfl) (fun K hK => ?_) (AllReadyH.cons (by simp only [List.getElem?_toArray, List.getElem?_cons_succ, List.getElem?_cons_zero]; rfl) (fun K hK => ?_) AllReadyH.nil)
          · go_simp
            refine hK.out _ _ ⟨hrow1, hrow2, s0, s2, y0, vq, aq⟩ (fun hHeld => ?_)
            clear hK K
            try simp only [Act.put, List.setIfInBounds_toArray, List.set_cons_zero, List.set_cons_succ]
            refine wpAnyH_ready (rs := [35]) (by kernel_rfl) (by simp) ?_
            refine AllReadyH.cons (by simp only [List.getElem?_toArray, List.getElem?_cons_succ, List.getElem?_cons_zero]; rfl) (fun K hK => ?_) AllReadyH.nil
            go_simp
            go_wp2_with fail
            refine (cMul_any Ap Av cp cv pv yv w51 apn vn ap1 ap2 vq1 vq2 (by omega) (by omega) (by omega)).mono ?_
            rintro e w52 ⟨Am, cm, rfl, m1, m2, m3, kb⟩
            replace hB := two_on_ hB (Nat.le_of_lt hl) kb
            replace hl := Nat.lt_of_lt_of_le hl kb.size
            replace hT := hT.on kb
            replace aq := cellS kb aq
            replace bq := cellS kb bq
            replace vq := cellS kb vq
            replace y0 := cellS kb y0
            replace hrow1 := cellS kb hrow1
            replace hrow2 := cellS kb hrow2
            replace s0 := cellS kb s0
            replace s2 := cellS kb s2
            replace apn := apn.on kb
            replace bqn := bqn.on kb
            replace vn := vn.on kb
            clear kb
            refine hK.out _ _ ⟨hrow1, hrow2, s0, s2, y0, vq, aq⟩ (fun hHeld => ?_)
            clear hK K
            try simp only [Act.put, List.setIfInBounds_toArray, List.set_cons_zero, List.set_cons_succ]
            refine wpAnyH_ready (rs := [36]) (by kernel_rfl) (by simp) ?_
            refine AllReadyH.cons (by simp only [List.getElem?_toArray, List.getElem?_cons_succ, List.getElem?_cons_zero]; rfl) (fun K hK => ?_) AllReadyH.nil
            go_simp
            go_wp2_with fail
            refine (cAdd_any Aq Am cq cm qv (pv * yv) w52 bqn m3 bq1 bq2 m1 m2 (by omega) (by omega) (by omega)).mono ?_
            rintro e w53 ⟨As, cs, rfl, t1, t2, t3, kb⟩
            replace hB := two_on_ hB (Nat.le_of_lt hl) kb
            replace hl := Nat.lt_of_lt_of_le hl kb.size
            replace hT := hT.on kb
            replace aq := cellS kb aq
            replace bq := cellS kb bq
            replace vq := cellS kb vq
            replace y0 := cellS kb y0
            replace hrow1 := cellS kb hrow1
            replace hrow2 := cellS kb hrow2
            replace s0 := cellS kb s0
            replace s2 := cellS kb s2
            replace apn := apn.on kb
            replace bqn := bqn.on kb
            replace vn := vn.on kb
            replace m3 := m3.on kb
            clear kb
            refine hK.out _ _ ⟨hrow1, hrow2, s0, s2, y0, vq, aq⟩ (fun hHeld => ?_)
            clear hK K
            try simp only [Act.put, List.setIfInBounds_toArray, List.set_cons_zero, List.set_cons_succ]
            refine wpAnyH_take (i := 37) (v := ?_) (by simp only [List.getElem?_toArray, List.getElem?_cons_succ, List.getElem?_cons_zero]; rfl) (by kernel_rfl) (by kernel_rfl) (by kernel_rfl) (by exact fun _ _ _ h => h) (Or.inl ⟨by rfl, ?_⟩) (by assumption) ?_
            rotate_left
            · (intro w hSw; (try dsimp only at hSw); go_simp); first | done | with_reducible rfl
            try simp only [Act.put, List.setIfInBounds_toArray, List.set_cons_zero, List.set_cons_succ]
            refine wpAnyH_ready (rs := [38]) (by kernel_rfl) (by simp) ?_
            refine AllReadyH.cons (by simp only [List.getElem?_toArray, List.getElem?_cons_succ, List.getElem?_cons_zero]; rfl) (fun K hK => ?_) AllReadyH.nil
            have zf : w53.frozen? ⟨bb, bo + tn, none⟩ = false := by
              obtain ⟨b9, o9, d9, A9, c9, hF9, _, _, _, _, _, _, z9, _⟩ := hT.at (v := k + 1) hk1 (k := tn) HTL.out
              rw [HSET.out] at hF9
              injection hF9 with e1 _ _
              injection e1 with e1
              injection e1 with e1 e2
              subst e1 e2
              exact z9
            go_simp
            replace hrow1 := cell_setCell_far (p := ⟨bb, bo + tn, none⟩) (u := (.slice As (dl (qv + pv * yv)) cs)) hrow1 (by simpa using hgbb)
            replace hrow2 := cell_setCell_far (p := ⟨bb, bo + tn, none⟩) (u := (.slice As (dl (qv + pv * yv)) cs)) hrow2 (by simpa using hgbb)
            replace s0 := cell_setCell_far (p := ⟨bb, bo + tn, none⟩) (u := (.slice As (dl (qv + pv * yv)) cs)) s0 (by simpa using hbx)
            replace s2 := cell_setCell_far (p := ⟨bb, bo + tn, none⟩) (u := (.slice As (dl (qv + pv * yv)) cs)) s2 (by simpa using hbx)
            replace y0 := cell_setCell_far (p := ⟨bb, bo + tn, none⟩) (u := (.slice As (dl (qv + pv * yv)) cs)) y0 (by simpa using hvbb)
            replace vq := cell_setCell_far (p := ⟨bb, bo + tn, none⟩) (u := (.slice As (dl (qv + pv * yv)) cs)) vq (by simpa using hrbb)
            replace aq := cell_setCell_far (p := ⟨bb, bo + tn, none⟩) (u := (.slice As (dl (qv + pv * yv)) cs)) aq (by simpa using hne)
            have hT9 := hT.set (by omega) hk1 (k := tn) HTL.out HSET.out t3 t1 t2
            have hB9 := hB.setCell (p := ⟨bb, bo + tn, none⟩) (by show w.heap.size + 2 ≤ bb; omega) (.slice As (dl (qv + pv * yv)) cs)
            have hl9 : w.heap.size + 2 < (World.setCell w53 ⟨bb, bo + tn, none⟩ (.slice As (dl (qv + pv * yv)) cs)).heap.size := by simp; exact hl
            refine hK.out _ _ ⟨hrow1, hrow2, s0, s2, y0, vq, aq⟩ (fun hHeld => ?_)
            clear hK K
            try simp only [Act.put, List.setIfInBounds_toArray, List.set_cons_zero, List.set_cons_succ]
            refine wpAnyH_done (by kernel_rfl) ?_ _
            clear hHeld
            have hN := hid (hT9.congr (x' := T.fwdX y k (j + 1)) (fun v _ => rfl) (fun u _ v _ => HPUT.out u v))
            have HB9 := hid hB9
            clear hT9 hT hB9 hB bq
            go_wp2
            go_roundg (gk - 1)
            case measure => omega
            case rel => exact ⟨j + 1, by go_num, by omega, by omega, hN.out, HB9.out, hl9⟩
          · go_simp
            go_wp2_with fail
            refine (cMul_any Ap Av cp cv pv yv w51 apn vn ap1 ap2 vq1 vq2 (by omega) (by omega) (by omega)).mono ?_
            rintro e w52 ⟨Am, cm, rfl, m1, m2, m3, kb⟩
            replace hB := two_on_ hB (Nat.le_of_lt hl) kb
            replace hl := Nat.lt_of_lt_of_le hl kb.size
            replace hT := hT.on kb
            replace aq := cellS kb aq
            replace bq := cellS kb bq
            replace vq := cellS kb vq
            replace y0 := cellS kb y0
            replace hrow1 := cellS kb hrow1
            replace hrow2 := cellS kb hrow2
            replace s0 := cellS kb s0
            replace s2 := cellS kb s2
            replace apn := apn.on kb
            replace bqn := bqn.on kb
            replace vn := vn.on kb
            clear kb
            refine hK.out _ _ ⟨hrow1, hrow2, s0, s2, y0, vq, aq⟩ (fun hHeld => ?_)
            clear hK K
            try simp only [Act.put, List.setIfInBounds_toArray, List.set_cons_zero, List.set_cons_succ]
            refine wpAnyH_ready (rs := [17]) (by kernel_rfl) (by simp) ?_
            refine AllReadyH.cons (by simp only [List.getElem?_toArray, List.getElem?_cons_succ, List.getElem?_cons_zero]; rfl) (fun K hK => ?_) AllReadyH.nil
            go_simp
            refine hK.out _ _ ⟨hrow1, hrow2, s0, s2, y0, vq, aq⟩ (fun hHeld => ?_)
            clear hK K
            try simp only [Act.put, List.setIfInBounds_toArray, List.set_cons_zero, List.set_cons_succ]
            refine wpAnyH_ready (rs := [36]) (by kernel_rfl) (by simp) ?_
            refine AllReadyH.cons (by simp only [List.getElem?_toArray, List.getElem?_cons_succ, List.getElem?_cons_zero]; rfl) (fun K hK => ?_) AllReadyH.nil
            go_simp
            go_wp2_with fail
            refine (cAdd_any Aq Am cq cm qv (pv * yv) w52 bqn m3 bq1 bq2 m1 m2 (by omega) (by omega) (by omega)).mono ?_
            rintro e w53 ⟨As, cs, rfl, t1, t2, t3, kb⟩
            replace hB := two_on_ hB (Nat.le_of_lt hl) kb
            replace hl := Nat.lt_of_lt_of_le hl kb.size
            replace hT := hT.on kb
            replace aq := cellS kb aq
            replace bq := cellS kb bq
            replace vq := cellS kb vq
            replace y0 := cellS kb y0
            replace hrow1 := cellS kb hrow1
            replace hrow2 := cellS kb hrow2
            replace s0 := cellS kb s0
            replace s2 := cellS kb s2
            replace apn := apn.on kb
            replace bqn := bqn.on kb
            replace vn := vn.on kb
            replace m3 := m3.on kb
            clear kb
            refine hK.out _ _ ⟨hrow1, hrow2, s0, s2, y0, vq, aq⟩ (fun hHeld => ?_)
            clear hK K
            try simp only [Act.put, List.setIfInBounds_toArray, List.set_cons_zero, List.set_cons_succ]
            refine wpAnyH_take (i := 37) (v := ?_) (by simp only [List.getElem?_toArray, List.getElem?_cons_succ, List.getElem?_cons_zero]; rfl) (by kernel_rfl) (by kernel_rfl) (by kernel_rfl) (by exact fun _ _ _ h => h) (Or.inl ⟨by rfl, ?_⟩) (by assumption) ?_
            rotate_left
            · (intro w hSw; (try dsimp only at hSw); go_simp); first | done | with_reducible rfl
            try simp only [Act.put, List.setIfInBounds_toArray, List.set_cons_zero, List.set_cons_succ]
            refine wpAnyH_ready (rs := [38]) (by kernel_rfl) (by simp) ?_
            refine AllReadyH.cons (by simp only [List.getElem?_toArray, List.getElem?_cons_succ, List.getElem?_cons_zero]; rfl) (fun K hK => ?_) AllReadyH.nil
            have zf : w53.frozen? ⟨bb, bo + tn, none⟩ = false := by
              obtain ⟨b9, o9, d9, A9, c9, hF9, _, _, _, _, _, _, z9, _⟩ := hT.at (v := k + 1) hk1 (k := tn) HTL.out
              rw [HSET.out] at hF9
              injection hF9 with e1 _ _
              injection e1 with e1
              injection e1 with e1 e2
              subst e1 e2
              exact z9
            go_simp
            replace hrow1 := cell_setCell_far (p := ⟨bb, bo + tn, none⟩) (u := (.slice As (dl (qv + pv * yv)) cs)) hrow1 (by simpa using hgbb)
            replace hrow2 := cell_setCell_far (p := ⟨bb, bo + tn, none⟩) (u := (.slice As (dl (qv + pv * yv)) cs)) hrow2 (by simpa using hgbb)
            replace s0 := cell_setCell_far (p := ⟨bb, bo + tn, none⟩) (u := (.slice As (dl (qv + pv * yv)) cs)) s0 (by simpa using hbx)
            replace s2 := cell_setCell_far (p := ⟨bb, bo + tn, none⟩) (u := (.slice As (dl (qv + pv * yv)) cs)) s2 (by simpa using hbx)
            replace y0 := cell_setCell_far (p := ⟨bb, bo + tn, none⟩) (u := (.slice As (dl (qv + pv * yv)) cs)) y0 (by simpa using hvbb)
            replace vq := cell_setCell_far (p := ⟨bb, bo + tn, none⟩) (u := (.slice As (dl (qv + pv * yv)) cs)) vq (by simpa using hrbb)
            replace aq := cell_setCell_far (p := ⟨bb, bo + tn, none⟩) (u := (.slice As (dl (qv + pv * yv)) cs)) aq (by simpa using hne)
            have hT9 := hT.set (by omega) hk1 (k := tn) HTL.out HSET.out t3 t1 t2
            have hB9 := hB.setCell (p := ⟨bb, bo + tn, none⟩) (by show w.heap.size + 2 ≤ bb; omega) (.slice As (dl (qv + pv * yv)) cs)
            have hl9 : w.heap.size + 2 < (World.setCell w53 ⟨bb, bo + tn, none⟩ (.slice As (dl (qv + pv * yv)) cs)).heap.size := by simp; exact hl
            refine hK.out _ _ ⟨hrow1, hrow2, s0, s2, y0, vq, aq⟩ (fun hHeld => ?_)
            clear hK K
            try simp only [Act.put, List.setIfInBounds_toArray, List.set_cons_zero, List.set_cons_succ]
            refine wpAnyH_done (by kernel_rfl) ?_ _
            clear hHeld
            have hN := hid (hT9.congr (x' := T.fwdX y k (j + 1)) (fun v _ => rfl) (fun u _ v _ => HPUT.out u v))
            have HB9 := hid hB9
            clear hT9 hT hB9 hB bq
            go_wp2
            go_roundg (gk - 1)
            case measure => omega
            case rel => exact ⟨j + 1, by go_num, by omega, by omega, hN.out, HB9.out, hl9⟩
        · have hltj' : ¬ (j : Int) < (T.el k : Int) := by omega
          have hje : j = T.el k := by omega
          rw [hje] at hT
          have hT1 := hid (hT.congr (x' := T.fwdX y (k + 1) 0) (fun v _ => rfl) (fun u _ v _ => T.fwdX_next y k u v))
          have HB := hid hB
          clear hT hB hje
          go_wp2
          go_roundg (gK - 1)
          case measure => omega
          case rel => exact ⟨k + 1, by go_num, by omega, by omega, hT1.out, HB.out, hl⟩
    · have hlt' : ¬ (k : Int) < (T.n : Int) := by omega
      have hken : k = T.n := by omega
      have hTf := hid (hT.congr (x' := T.fwd y) (fun v _ => rfl) (fun u hu v _ => if_pos (by have := HNW.out; omega)))
      clear hT hken
      go_wp2
      go_ret2
      exact ⟨g, F, rfl, by omega, hTf.out, hW⟩
end Go.Proofs.Ytnocbkhnmdmfhaa
