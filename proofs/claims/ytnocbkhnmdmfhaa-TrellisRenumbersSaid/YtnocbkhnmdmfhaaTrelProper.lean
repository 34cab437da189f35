/- trellis.Proper returns the error of a proper trellis. -/
import Derived.Test.YtnocbkhnmdmfhaaProper
namespace Go.Proofs.Ytnocbkhnmdmfhaa
open Go.RowKit

theorem far_setCell {w : World} {p q : Addr} {u v : Value} (h : w.cell? q = some v) (hne : q.block ≠ p.block) : (w.setCell p u).cell? q = some v :=
  (World.cell?_setCell_other w p q u (fun e => hne (by rw [e]))).trans h
set_option maxRecDepth 100000 in
set_option maxHeartbeats 16000000 in
theorem proper_any (T : Trel) (A B : Option Addr) (c d : Nat) (w : World) (h : T.Reads w A B) :
    Calls Try.prog 18 #[.agg #[.slice A T.nw c, .slice B T.n d]] w fun e w' => e = .returned (.int .i64 T.properE) ∧ Below w.heap.size w w' := by
  obtain ⟨RB, hRB⟩ : ∃ o, o = (Obj.cells #[.slice A T.nw c, .slice B T.n d] 25) := ⟨_, rfl⟩
  have hB0 : Below (w.heap.size + 1) (w.alloc RB) (w.alloc RB) := Below.refl _ _
  have HS : Hid (∀ w', Below (w.heap.size + 1) (w.alloc RB) w' → (w'.cell? ⟨w.heap.size, 0, none⟩ = some (.slice A T.nw c) ∧ w'.cell? ⟨w.heap.size, 1, none⟩ = some (.slice B T.n d)) ∧ Below w.heap.size w w') := fun w' hB => by
    have hB' := tbox_below hB
    subst hRB
    exact ⟨⟨tbox hB rfl, tbox hB rfl⟩, hB'⟩
  obtain ⟨⟨p0, p1⟩, hW⟩ := HS.out _ hB0
  go_enter Try.func18, Try.ntmps18
  go_wp2_with fail
  rw [← hRB]
  refine (shape_any T A B c d _ (h.on hW)).mono ?_
  rintro e w1 ⟨rfl, hb⟩
  have hB1 := tbox_on hB0 hb
  clear hW p0 p1 hb hB0 hRB
  obtain ⟨⟨p0, p1⟩, hW⟩ := HS.out _ hB1
  by_cases hs : T.shapeE = 0
  · have HSH := hid (Trel.shape_of hs)
    have HS0 := hid hs
    rw [hs]
    have HR := hid h
    have hnw : T.nw = T.n + 1 := HSH.out.nw
    have HNW := hid hnw
    have h64 : T.n ≤ 64 := HSH.out.n64
    have hnw2 : T.n < T.nw := by omega
    have hnw2' : (T.n : Int) < (T.nw : Int) := by omega
    have hnw3 : 0 < T.nw := by omega
    have hnw3' : (0 : Int) < (T.nw : Int) := by omega
    have HB1 := hid hB1
    clear hs hnw h hB1
    obtain ⟨b, o, hA, hb, x0, _, _⟩ := (HR.out.on hW).width (i := 0) (by omega)
    obtain ⟨_, _, hA2, _, x1, _, _⟩ := (HR.out.on hW).width (i := T.n) (by omega)
    subst hA
    injection hA2 with e1
    injection e1 with e1 e2
    subst e1 e2
    obtain ⟨u0, hu0⟩ : ∃ u, u = T.W 0 := ⟨_, rfl⟩
    obtain ⟨u1, hu1⟩ : ∃ u, u = T.W T.n := ⟨_, rfl⟩
    rw [Nat.add_zero, ← hu0] at x0
    rw [← hu1] at x1
    have HU0 := hid hu0
    have HU1 := hid hu1
    clear hu0 hu1
    by_cases h0 : u0 = 1
    · have c0 : (u0 != 1) = false := by simp [h0]
      by_cases h1 : u1 = 1
      · have c1 : (u1 != 1) = false := by simp [h1]
        have HW0 : Hid (T.W 0 = 1) := HU0.out.symm.trans h0
        have HWN : Hid (T.W T.n = 1) := HU1.out.symm.trans h1
        clear h0 h1
        go_wp2
        go_loopg [35] T.n (fun gg iv wx => ∃ k : Nat, iv = .int .i64 (k : Nat) ∧ k ≤ T.n ∧ T.n ≤ k + gg ∧ (∀ i, i < k → T.secOk i) ∧ Below (w.heap.size + 1) (w.alloc RB) wx)
        case atStart => exact ⟨0, rfl, by omega, by omega, fun i hi => absurd hi (by omega), HB1.out⟩
        case round =>
          clear hW p0 p1 x0 x1
          obtain ⟨gK, hgK⟩ : ∃ g, g = gk := ⟨_, rfl⟩
          subst hgK
          obtain ⟨k, rfl, hk, hkg, hall, hB⟩ := hrel
          obtain ⟨wk, hwk⟩ : ∃ W, W = wr := ⟨_, rfl⟩
          subst hwk
          have hk0 : (0 : Int) ≤ (k : Int) := by omega
          have HB := hid hB
          have hwz := tbox_lt hB
          clear hB
          obtain ⟨⟨p0, p1⟩, hW⟩ := HS.out _ HB.out
          have HALL := hid hall
          clear hall
          by_cases hlt : k < T.n
          · have hlt' : (k : Int) < (T.n : Int) := by omega
            have hk1 : k + 1 < T.nw := by omega
            have hk1' : (k : Int) + 1 < (T.nw : Int) := by omega
            have hk2' : (k : Int) < (T.nw : Int) := by omega
            obtain ⟨wa, wo, hA, _, y0, hy1, hy2⟩ := (HR.out.on hW).width (i := k) (by omega)
            obtain ⟨_, _, hA2, _, y1, hy3, hy4⟩ := (HR.out.on hW).width (i := k + 1) (by omega)
            rw [hA] at hA2
            injection hA with e1
            injection e1 with e1 e2
            subst e1 e2
            injection hA2 with e1
            injection e1 with e1 e2
            subst e1 e2
            obtain ⟨eb, eo, E, ec, rfl, heb, x0, he1, he2, he3, he4⟩ := (HR.out.on hW).sec hlt
            unfold maxLen at he2
            have hwk := HSH.out.wid (i := k) (by omega)
            have hwk1 := HSH.out.wid (i := k + 1) (by omega)
            have hel := HSH.out.elb hlt
            obtain ⟨n1, hn1⟩ : ∃ n : Nat, (n : Int) = T.W k := ⟨(T.W k).toNat, by omega⟩
            obtain ⟨n2, hn2⟩ : ∃ n : Nat, (n : Int) = T.W (k + 1) := ⟨(T.W (k + 1)).toNat, by omega⟩
            rw [← hn1] at y0 hwk
            rw [← hn2] at y1 hwk1
            have HN1 := hid hn1
            have HN2 := hid hn2
            have HE3 := hid he3
            have HE4 := hid he4
            have HX0 := hid x0
            have hmk := fun W => run_makeI (P := Try.prog) 78 4 _ 1 Try.underlying78 Try.infoBool rfl (n1 : Int) (by omega) (by omega) (by omega) W
            have hmk2 := fun W => run_makeI (P := Try.prog) 78 4 _ 1 Try.underlying78 Try.infoBool rfl (n2 : Int) (by omega) (by omega) (by omega) W
            simp only [Int.toNat_natCast] at hmk hmk2
            clear hn1 hn2 he3 he4 hy1 hy2 hy3 hy4
            go_upto_region 12 with fail
            have hr1 := rowIs_on (World.rowIs_made wk (.bool false) n1 4) ((Below.refl _ _).alloc (Nat.le_refl _) (Obj.cells (madeCells #[Value.bool false] n2) 4))
            have hr2 := World.rowIs_made (wk.alloc (Obj.cells (madeCells #[Value.bool false] n1) 4)) (.bool false) n2 4
            have hbm := (((Below.refl wk.heap.size wk).alloc (Nat.le_refl _) (Obj.cells (madeCells #[Value.bool false] n1) 4)).alloc (by simp) (Obj.cells (madeCells #[Value.bool false] n2) 4))
            simp only [World.size_alloc] at hr2 ⊢
            obtain ⟨wm, hwm⟩ : ∃ W, W = (wk.alloc (Obj.cells (madeCells #[Value.bool false] n1) 4)).alloc (Obj.cells (madeCells #[Value.bool false] n2) 4) := ⟨_, rfl⟩
            rw [← hwm] at hr1 hr2 hbm ⊢
            obtain ⟨b1, hb1⟩ : ∃ q, q = wk.heap.size := ⟨_, rfl⟩
            obtain ⟨b2, hb2⟩ : ∃ q, q = wk.heap.size + 1 := ⟨_, rfl⟩
            rw [← hb1] at hr1
            rw [← hb2] at hr2
            rw [← hb2, ← hb1]
            have hne : b1 ≠ b2 := by omega
            have hz1 : wk.heap.size ≤ b1 := by omega
            have hz2 : wk.heap.size ≤ b2 := by omega
            have hs1 : Hid (wm.rowIs b1 4 n1 (fun v => .bool (hitB (T.fr k) 0 (v : Nat)))) := hr1.congr fun _ _ => rfl
            have hs2 : Hid (wm.rowIs b2 4 n2 (fun v => .bool (hitB (T.to k) 0 (v : Nat)))) := hr2.congr fun _ _ => rfl
            have HBM := hid hbm
            have HBAD : Hid (¬ T.secOk k → T.properE = 5) := fun hb => T.properE_sec HS0.out hlt hb
            clear hr1 hr2 hbm hwm hb1 hb2 hmk hmk2 p0 p1 x0 hW
            obtain ⟨⟨p0, p1⟩, hW⟩ := HS.out _ (tbox_on HB.out HBM.out)
            have x0 := cellS HBM.out HX0.out
            go_wp2
            go_loopg [55] (T.el k) (fun gg jv wx => ∃ j : Nat, jv = .int .i64 (j : Nat) ∧ j ≤ T.el k ∧ T.el k ≤ j + gg ∧ (∀ i, i < j → T.edgeOk k i) ∧ wx.rowIs b1 4 n1 (fun v => .bool (hitB (T.fr k) j (v : Nat))) ∧ wx.rowIs b2 4 n2 (fun v => .bool (hitB (T.to k) j (v : Nat))) ∧ Below wk.heap.size wk wx)
            case atStart => exact ⟨0, rfl, by omega, by omega, fun i hi => absurd hi (by omega), hs1.out, hs2.out, HBM.out⟩
            case round =>
              clear hW p0 p1 x0 hs1 hs2 HBM y0 y1 hb
              obtain ⟨wj, hwj⟩ : ∃ W, W = wr := ⟨_, rfl⟩
              subst hwj
              obtain ⟨j, rfl, hj, hjg, hall, hr1, hr2, hBj⟩ := hrel
              have hj0 : (0 : Int) ≤ (j : Int) := by omega
              have HALL2 := hid hall
              obtain ⟨⟨p0, p1⟩, hW⟩ := HS.out _ (tbox_on HB.out hBj)
              have x0 := cellS hBj HX0.out
              have HBj := hid hBj
              have hwj1 := hr1.lt
              have hwzj := tbox_lt (tbox_on HB.out hBj)
              have hwzk : wk.heap.size ≤ wj.heap.size := hBj.size
              have heb2 : eb < wj.heap.size := by omega
              have hwj2 := hr2.lt
              have HR1 := hid hr1
              have HR2 := hid hr2
              clear hall
              by_cases hltj : j < T.el k
              · have hltj' : (j : Int) < (T.el k : Int) := by omega
                obtain ⟨fb, fo, rfl, hfb, e0, e1, e2⟩ := edge_at ((Rd.below HE3.out hBj (Nat.le_refl _)).mono hBj.size) hltj
                obtain ⟨i1, i2, i3, i4⟩ := HSH.out.ins k hlt j hltj
                rw [← HN1.out] at i2
                rw [← HN2.out] at i4
                have HOK : Hid (T.edgeOk k j ↔ 0 ≤ T.lb k j ∧ T.lb k j < 256 ∧ (0 < j → T.after k j)) := Iff.rfl
                have HNO : Hid (¬ T.edgeOk k j → T.properE = 5) := fun hn => HBAD.out fun hs => hn (hs.1 j hltj)
                obtain ⟨fn, hfn⟩ : ∃ n : Nat, (n : Int) = T.fr k j := ⟨(T.fr k j).toNat, by omega⟩
                obtain ⟨tn, htn⟩ : ∃ n : Nat, (n : Int) = T.to k j := ⟨(T.to k j).toNat, by omega⟩
                obtain ⟨lb, hlb⟩ : ∃ x, x = T.lb k j := ⟨_, rfl⟩
                have hfl : fn < n1 := by omega
                have htl : tn < n2 := by omega
                have hfl' : (fn : Int) < (n1 : Int) := by omega
                have htl' : (tn : Int) < (n2 : Int) := by omega
                have hf0 : (0 : Int) ≤ (fn : Int) := by omega
                have ht0 : (0 : Int) ≤ (tn : Int) := by omega
                have HOKS : Hid (T.edgeOk k j → ∀ i, i < j + 1 → T.edgeOk k i) := fun ho i hi => by
                  by_cases e : i = j
                  · subst e; exact ho
                  · exact HALL2.out i (by omega)
                have u0 := hr1.cell (i := fn) hfl
                have u1 := hr2.cell (i := tn) htl
                have z0 := hr1.frozen fn
                have z1 := hr2.frozen tn
                obtain ⟨v0, hv0⟩ : ∃ x, x = hitB (T.fr k) j (fn : Nat) := ⟨_, rfl⟩
                obtain ⟨v1, hv1⟩ : ∃ x, x = hitB (T.to k) j (tn : Nat) := ⟨_, rfl⟩
                have hne' : b2 ≠ b1 := fun e => hne e.symm
                rw [← hv0] at u0
                rw [← hv1] at u1
                rw [← hfn] at e0
                rw [← htn] at e2
                rw [← hlb] at e1 HOK
                have HFN := hid hfn
                have HTN := hid htn
                have HLB := hid hlb
                clear hv0 hv1 hfn htn hlb hr1 hr2 hBj i1 i2 i3 i4
                have hbj := (HBj.out.alloc hwzk (Obj.cells #[.int .i64 (fn : Int), .int .i64 lb, .int .i64 (tn : Int)] 72))
                have HC1 : Hid (∀ v, v < n1 → (if v = fn then Value.bool true else .bool (hitB (T.fr k) j (v : Nat))) = .bool (hitB (T.fr k) (j + 1) (v : Nat))) := fun v hv => by
                  show _ = Value.bool (hitB (T.fr k) j (v : Nat) || decide (T.fr k j = (v : Nat)))
                  by_cases e : v = fn
                  · subst e; rw [if_pos rfl, ← HFN.out]; simp
                  · rw [if_neg e, decide_eq_false (by have := HFN.out; omega)]; simp
                have HC2 : Hid (∀ v, v < n2 → (if v = tn then Value.bool true else .bool (hitB (T.to k) j (v : Nat))) = .bool (hitB (T.to k) (j + 1) (v : Nat))) := fun v hv => by
                  show _ = Value.bool (hitB (T.to k) j (v : Nat) || decide (T.to k j = (v : Nat)))
                  by_cases e : v = tn
                  · subst e; rw [if_pos rfl, ← HTN.out]; simp
                  · rw [if_neg e, decide_eq_false (by have := HTN.out; omega)]; simp
                go_upto_region 15 with fail
                obtain ⟨OB, hOB⟩ : ∃ o, o = (Obj.cells #[.int .i64 (fn : Int), .int .i64 lb, .int .i64 (tn : Int)] 72) := ⟨_, rfl⟩
                have hq : ∀ i v, (#[Value.int .i64 (fn : Int), .int .i64 lb, .int .i64 (tn : Int)] : Array Value)[i]? = some v → (wj.alloc OB).cell? ⟨wj.heap.size, i, none⟩ = some v := fun i v hv => by subst hOB; exact tbox (Below.refl _ _) hv
                have q0 := hq 0 _ rfl
                have q1 := hq 1 _ rfl
                have q2 := hq 2 _ rfl
                have kbo : Below wj.heap.size wj (wj.alloc OB) := (Below.refl _ _).alloc (Nat.le_refl _) _
                rw [← hOB] at hbj ⊢
                obtain ⟨w50, hw50⟩ : ∃ W, W = wj.alloc OB := ⟨_, rfl⟩
                rw [← hw50] at hbj q0 q1 q2 kbo ⊢
                have hr1 := rowIs_on HR1.out kbo
                have hr2 := rowIs_on HR2.out kbo
                have hbx := hbj
                have hwj50 : wj.heap.size < w50.heap.size := by rw [hw50]; simp
                have hW50 : Below w.heap.size w w50 := onS hW kbo
                have hzb1 : b1 < wj.heap.size := hwj1
                have hzb2 : b2 < wj.heap.size := hwj2
                clear hq hw50 hOB hbj p0 p1 x0 HR1 HR2 u0 u1 z0 z1
                by_cases l1 : lb < 0
                · have q3 : decide (lb < 0) = true := by simpa using l1
                  have hE := hid (HNO.out fun ho => by have := (HOK.out.1 ho).1; omega)
                  go_quiet (fail)
                  go_wp2
                  go_ret
                  exact ⟨ret_int hE.out.symm, below_drewN hW50 _⟩
                have q3 : decide (lb < 0) = false := by simpa using l1
                by_cases l2 : lb ≥ 256
                · have q4 : decide (lb ≥ 256) = true := by simpa using l2
                  have q5 : decide (256 ≤ lb) = true := by simpa using l2
                  have hE := hid (HNO.out fun ho => by have := (HOK.out.1 ho).2.1; omega)
                  go_quiet (fail)
                  go_wp2
                  go_ret
                  exact ⟨ret_int hE.out.symm, below_drewN hW50 _⟩
                have q4 : decide (lb ≥ 256) = false := by simpa using l2
                have q5 : decide (256 ≤ lb) = false := by simpa using l2
                by_cases jz : j = 0
                · have hg : decide ((j : Int) > 0) = false := by simp; omega
                  have hg2 : decide (0 < (j : Int)) = false := by simp; omega
                  have hg3 : decide (0 < j) = false := by simp; omega
                  have hok := hid (HOK.out.2 ⟨by omega, by omega, fun h => absurd h (by omega)⟩)
                  clear jz e0 e1 e2
                  go_quiet (fail)
                  go_upto_region 17 with fail
                  replace kbo := below_drewN (Below.refl w50.heap.size w50) nq
                  replace q0 := cellS kbo q0
                  replace q2 := cellS kbo q2
                  replace hr1 := rowIs_on hr1 kbo
                  replace hr2 := rowIs_on hr2 kbo
                  replace hbx := onS hbx kbo
                  obtain ⟨w60, hw60⟩ : ∃ W, W = w50.drewN nq := ⟨_, rfl⟩
                  rw [← hw60] at q0 q2 hr1 hr2 hbx ⊢
                  clear hw60 kbo hW50 q1
                  refine wp_region_held_drew (S := fun w' => w'.cell? ⟨wj.heap.size, 0, none⟩ = some (.int .i64 fn) ∧ w'.cell? ⟨wj.heap.size, 2, none⟩ = some (.int .i64 tn)) (by kernel_rfl) ⟨cellS (Below.refl _ _).drew q0, cellS (Below.refl _ _).drew q2⟩ (fun hHeld => ?_)
                  obtain ⟨w61, hw⟩ : ∃ W, W = World.drew w60 := ⟨_, rfl⟩
                  have kb : Below w60.heap.size w60 w61 := by rw [hw]; exact (Below.refl _ _).drew
                  rw [← hw] at hHeld ⊢
                  clear hw
                  replace hr1 := rowIs_on hr1 kb
                  replace hr2 := rowIs_on hr2 kb
                  replace q0 := cellS kb q0
                  replace q2 := cellS kb q2
                  replace hbx := onS hbx kb
                  clear kb
                  refine wpAnyH_take (i := 0) (v := ?_) (by simp only [List.getElem?_toArray, List.getElem?_cons_zero]; rfl) (by kernel_rfl) (by kernel_rfl) (by kernel_rfl) (by exact fun _ _ _ h => h) (Or.inl ⟨by rfl, ?_⟩) (by assumption) ?_
                  rotate_left
                  · (intro w hSw; (try dsimp only at hSw); go_simp); first | done | with_reducible rfl
                  try simp only [Act.put, List.setIfInBounds_toArray, List.set_cons_zero, List.set_cons_succ]
                  refine wpAnyH_take (i := 1) (v := ?_) (by simp only [List.getElem?_toArray, List.getElem?_cons_succ, List.getElem?_cons_zero]; rfl) (by kernel_rfl) (by kernel_rfl) (by kernel_rfl) (by exact fun _ _ _ h => h) (Or.inl ⟨by rfl, ?_⟩) (by assumption) ?_
                  rotate_left
                  · (intro w hSw; (try dsimp only at hSw); go_simp); first | done | with_reducible rfl
                  try simp only [Act.put, List.setIfInBounds_toArray, List.set_cons_zero, List.set_cons_succ]
                  refine wpAnyH_take (i := 2) (v := ?_) (by simp only [List.getElem?_toArray, List.getElem?_cons_succ, List.getElem?_cons_zero]; rfl) (by kernel_rfl) (by kernel_rfl) (by kernel_rfl) (by exact fun _ _ _ h => h) (Or.inl ⟨by rfl, ?_⟩) (by assumption) ?_
                  rotate_left
                  · (intro w hSw; (try dsimp only at hSw); go_simp); first | done | with_reducible rfl
                  try simp only [Act.put, List.setIfInBounds_toArray, List.set_cons_zero, List.set_cons_succ]
                  refine wpAnyH_take (i := 3) (v := ?_) (by simp only [List.getElem?_toArray, List.getElem?_cons_succ, List.getElem?_cons_zero]; rfl) (by kernel_rfl) (by kernel_rfl) (by kernel_rfl) (by exact fun _ _ _ h => h) (Or.inl ⟨by rfl, ?_⟩) (by assumption) ?_
                  rotate_left
                  · (intro w hSw; (try dsimp only at hSw); go_simp); first | done | with_reducible rfl
                  try simp only [Act.put, List.setIfInBounds_toArray, List.set_cons_zero, List.set_cons_succ]
                  refine wpAnyH_take (i := 4) (v := ?_) (by simp only [List.getElem?_toArray, List.getElem?_cons_succ, List.getElem?_cons_zero]; rfl) (by kernel_rfl) (by kernel_rfl) (by kernel_rfl) (by exact fun _ _ _ h => h) (Or.inl ⟨by rfl, ?_⟩) (by assumption) ?_
                  rotate_left
                  · (intro w hSw; (try dsimp only at hSw); go_simp); first | done | with_reducible rfl
                  try simp only [Act.put, List.setIfInBounds_toArray, List.set_cons_zero, List.set_cons_succ]
                  refine wpAnyH_take (i := 5) (v := ?_) (by simp only [List.getElem?_toArray, List.getElem?_cons_succ, List.getElem?_cons_zero]; rfl) (by kernel_rfl) (by kernel_rfl) (by kernel_rfl) (by exact fun _ _ _ h => h) (Or.inl ⟨by rfl, ?_⟩) (by assumption) ?_
                  rotate_left
                  · (intro w hSw; (try dsimp only at hSw); go_simp); first | done | with_reducible rfl
                  try simp only [Act.put, List.setIfInBounds_toArray, List.set_cons_zero, List.set_cons_succ]
                  refine wpAnyH_take (i := 6) (v := ?_) (by simp only [List.getElem?_toArray, List.getElem?_cons_succ, List.getElem?_cons_zero]; rfl) (by kernel_rfl) (by kernel_rfl) (by kernel_rfl) (by exact fun _ _ _ h => h) (Or.inl ⟨by rfl, ?_⟩) (by assumption) ?_
                  rotate_left
                  · (intro w hSw; (try dsimp only at hSw); go_simp); first | done | with_reducible rfl
                  try simp only [Act.put, List.setIfInBounds_toArray, List.set_cons_zero, List.set_cons_succ]
                  refine wpAnyH_ready (rs := [7]) (by kernel_rfl) (by simp) ?_
                  refine AllReadyH.cons (by simp only [List.getElem?_toArray, List.getElem?_cons_succ, List.getElem?_cons_zero]; rfl) (fun K hK => ?_) AllReadyH.nil
                  have hlx := hr1.lt
                  have u0 := hr1.cell (i := fn) hfl
                  have z0 := hr1.frozen fn
                  skip
                  go_simp
                  replace q0 := far_setCell (p := ⟨b1, fn, none⟩) (u := .bool true) q0 (by show wj.heap.size ≠ b1; omega)
                  replace q2 := far_setCell (p := ⟨b1, fn, none⟩) (u := .bool true) q2 (by show wj.heap.size ≠ b1; omega)
                  replace hbx := hbx.setCell (p := ⟨b1, fn, none⟩) hz1 (.bool true)
                  replace hr2 := hr2.setOther (a := ⟨b1, fn, none⟩) (by simpa using hne') (.bool true)
                  replace hr1 := hr1.set fn (.bool true)
                  obtain ⟨w62, hw⟩ : ∃ W, W = World.setCell w61 ⟨b1, fn, none⟩ (.bool true) := ⟨_, rfl⟩
                  rw [← hw] at q0 q2 hbx hr1 hr2 ⊢
                  clear hw u0 z0 hlx
                  refine hK.out _ _ ⟨q0, q2⟩ (fun hHeld => ?_)
                  clear hK K
                  try simp only [Act.put, List.setIfInBounds_toArray, List.set_cons_zero, List.set_cons_succ]
                  refine wpAnyH_take (i := 8) (v := ?_) (by simp only [List.getElem?_toArray, List.getElem?_cons_succ, List.getElem?_cons_zero]; rfl) (by kernel_rfl) (by kernel_rfl) (by kernel_rfl) (by exact fun _ _ _ h => h) (Or.inl ⟨by rfl, ?_⟩) (by assumption) ?_
                  rotate_left
                  · (intro w hSw; (try dsimp only at hSw); go_simp); first | done | with_reducible rfl
                  try simp only [Act.put, List.setIfInBounds_toArray, List.set_cons_zero, List.set_cons_succ]
                  refine wpAnyH_ready (rs := [9]) (by kernel_rfl) (by simp) ?_
                  refine AllReadyH.cons (by simp only [List.getElem?_toArray, List.getElem?_cons_succ, List.getElem?_cons_zero]; rfl) (fun K hK => ?_) AllReadyH.nil
                  have hlx := hr2.lt
                  have u0 := hr2.cell (i := tn) htl
                  have z0 := hr2.frozen tn
                  skip
                  go_simp
                  replace q0 := far_setCell (p := ⟨b2, tn, none⟩) (u := .bool true) q0 (by show wj.heap.size ≠ b2; omega)
                  replace q2 := far_setCell (p := ⟨b2, tn, none⟩) (u := .bool true) q2 (by show wj.heap.size ≠ b2; omega)
                  replace hbx := hbx.setCell (p := ⟨b2, tn, none⟩) hz2 (.bool true)
                  replace hr1 := hr1.setOther (a := ⟨b2, tn, none⟩) (by simpa using hne) (.bool true)
                  replace hr2 := hr2.set tn (.bool true)
                  obtain ⟨w63, hw⟩ : ∃ W, W = World.setCell w62 ⟨b2, tn, none⟩ (.bool true) := ⟨_, rfl⟩
                  rw [← hw] at q0 q2 hbx hr1 hr2 ⊢
                  clear hw u0 z0 hlx
                  refine hK.out _ _ ⟨q0, q2⟩ (fun hHeld => ?_)
                  clear hK K
                  try simp only [Act.put, List.setIfInBounds_toArray, List.set_cons_zero, List.set_cons_succ]
                  refine wpAnyH_done (by kernel_rfl) ?_ _
                  clear hHeld
                  have hs1 := hr1.congr (g := fun v => .bool (hitB (T.fr k) (j + 1) (v : Nat))) (HC1.out)
                  have hs2 := hr2.congr (g := fun v => .bool (hitB (T.to k) (j + 1) (v : Nat))) (HC2.out)
                  have HS1 := hid hs1
                  have HS2 := hid hs2
                  have HBX := hid hbx
                  clear hs1 hs2 hr1 hr2 hbx
                  go_wp2
                  go_roundg (gk - 1)
                  case measure => omega
                  case rel => exact ⟨j + 1, by go_num, by omega, by omega, HOKS.out hok.out, HS1.out, HS2.out, HBX.out⟩
                · obtain ⟨jp, rfl⟩ : ∃ jp, j = jp + 1 := ⟨j - 1, by omega⟩
                  obtain ⟨_, _, hE2, _, g0, g1, g2⟩ := edge_at ((Rd.below HE3.out HBj.out (Nat.le_refl _)).mono HBj.out.size) (j := jp) (by omega)
                  injection hE2 with hE2; injection hE2 with hE2 hE3; subst hE2 hE3
                  have HAF : Hid (T.after k (jp + 1) ↔ T.fr k jp < T.fr k (jp + 1) ∨ T.fr k jp = T.fr k (jp + 1) ∧ T.lb k jp < T.lb k (jp + 1)) := Iff.rfl
                  rw [← HFN.out, ← HLB.out] at HAF
                  have hlj : jp < T.el k := by omega
                  have hlj' : (jp : Int) < (T.el k : Int) := by omega
                  have hjp0 : (0 : Int) ≤ (jp : Int) := by omega
                  obtain ⟨gf, hgf⟩ : ∃ x, x = T.fr k jp := ⟨_, rfl⟩
                  obtain ⟨gl, hgl⟩ : ∃ x, x = T.lb k jp := ⟨_, rfl⟩
                  obtain ⟨gt, hgt⟩ : ∃ x, x = T.to k jp := ⟨_, rfl⟩
                  rw [← hgf] at g0 HAF
                  rw [← hgl] at g1 HAF
                  rw [← hgt] at g2
                  replace g0 := cellS kbo g0
                  replace g1 := cellS kbo g1
                  replace g2 := cellS kbo g2
                  clear hgf hgl hgt jz e0 e1 e2 kbo hW50
                  have hg : decide ((jp : Int) + 1 > 0) = true := decide_eq_true (by omega)
                  have hg2 : decide (0 < (jp : Int) + 1) = true := decide_eq_true (by omega)
                  have hwj1 : IntKind.i64.wrap (jp : Int) = (jp : Int) := IntWalk.i64_in _ (by omega)
                  have hlv : Hid (lessV gf gl fn lb < 0 ↔ gf < fn ∨ gf = fn ∧ gl < lb) := lessV_neg
                  refine wp_region_held_drew (S := fun w' => w'.cell? ⟨wj.heap.size, 0, none⟩ = some (.int .i64 fn) ∧ w'.cell? ⟨wj.heap.size, 1, none⟩ = some (.int .i64 lb) ∧ w'.cell? ⟨wj.heap.size, 2, none⟩ = some (.int .i64 tn) ∧ w'.cell? ⟨fb, fo + jp * 3, none⟩ = some (.int .i64 gf) ∧ w'.cell? ⟨fb, fo + jp * 3 + 1, none⟩ = some (.int .i64 gl) ∧ w'.cell? ⟨fb, fo + jp * 3 + 2, none⟩ = some (.int .i64 gt)) (by kernel_rfl) ⟨cellS (Below.refl _ _).drew q0, cellS (Below.refl _ _).drew q1, cellS (Below.refl _ _).drew q2, cellS (Below.refl _ _).drew g0, cellS (Below.refl _ _).drew g1, cellS (Below.refl _ _).drew g2⟩ (fun hHeld => ?_)
                  obtain ⟨w51, hw⟩ : ∃ W, W = World.drew w50 := ⟨_, rfl⟩
                  have kb : Below w50.heap.size w50 w51 := by rw [hw]; exact (Below.refl _ _).drew
                  rw [← hw] at hHeld ⊢
                  clear hw
                  replace hr1 := rowIs_on hr1 kb
                  replace hr2 := rowIs_on hr2 kb
                  replace q0 := cellS kb q0
                  replace q1 := cellS kb q1
                  replace q2 := cellS kb q2
                  replace g0 := cellS kb g0
                  replace g1 := cellS kb g1
                  replace g2 := cellS kb g2
                  replace hbx := onS hbx kb
                  clear kb
                  refine wpAnyH_take (i := 0) (v := ?_) (by simp only [List.getElem?_toArray, List.getElem?_cons_zero]; rfl) (by kernel_rfl) (by kernel_rfl) (by kernel_rfl) (by exact fun _ _ _ h => h) (Or.inl ⟨by rfl, ?_⟩) (by assumption) ?_
                  rotate_left
                  · (intro w hSw; (try dsimp only at hSw); go_simp); first | done | with_reducible rfl
                  try simp only [Act.put, List.setIfInBounds_toArray, List.set_cons_zero, List.set_cons_succ]
                  refine wpAnyH_take (i := 1) (v := ?_) (by simp only [List.getElem?_toArray, List.getElem?_cons_succ, List.getElem?_cons_zero]; rfl) (by kernel_rfl) (by kernel_rfl) (by kernel_rfl) (by exact fun _ _ _ h => h) (Or.inl ⟨by rfl, ?_⟩) (by assumption) ?_
                  rotate_left
                  · (intro w hSw; (try dsimp only at hSw); go_simp); first | done | with_reducible rfl
                  try simp only [Act.put, List.setIfInBounds_toArray, List.set_cons_zero, List.set_cons_succ]
                  refine wpAnyH_take (i := 2) (v := ?_) (by simp only [List.getElem?_toArray, List.getElem?_cons_succ, List.getElem?_cons_zero]; rfl) (by kernel_rfl) (by kernel_rfl) (by kernel_rfl) (by exact fun _ _ _ h => h) (Or.inl ⟨by rfl, ?_⟩) (by assumption) ?_
                  rotate_left
                  · (intro w hSw; (try dsimp only at hSw); go_simp); first | done | with_reducible rfl
                  try simp only [Act.put, List.setIfInBounds_toArray, List.set_cons_zero, List.set_cons_succ]
                  refine wpAnyH_take (i := 3) (v := ?_) (by simp only [List.getElem?_toArray, List.getElem?_cons_succ, List.getElem?_cons_zero]; rfl) (by kernel_rfl) (by kernel_rfl) (by kernel_rfl) (by exact fun _ _ _ h => h) (Or.inl ⟨by rfl, ?_⟩) (by assumption) ?_
                  rotate_left
                  · (intro w hSw; (try dsimp only at hSw); go_simp); first | done | with_reducible rfl
                  try simp only [Act.put, List.setIfInBounds_toArray, List.set_cons_zero, List.set_cons_succ]
                  refine wpAnyH_take (i := 4) (v := ?_) (by simp only [List.getElem?_toArray, List.getElem?_cons_succ, List.getElem?_cons_zero]; rfl) (by kernel_rfl) (by kernel_rfl) (by kernel_rfl) (by exact fun _ _ _ h => h) (Or.inl ⟨by rfl, ?_⟩) (by assumption) ?_
                  rotate_left
                  · (intro w hSw; (try dsimp only at hSw); go_simp); first | done | with_reducible rfl
                  try simp only [Act.put, List.setIfInBounds_toArray, List.set_cons_zero, List.set_cons_succ]
                  refine wpAnyH_take (i := 5) (v := ?_) (by simp only [List.getElem?_toArray, List.getElem?_cons_succ, List.getElem?_cons_zero]; rfl) (by kernel_rfl) (by kernel_rfl) (by kernel_rfl) (by exact fun _ _ _ h => h) (Or.inl ⟨by rfl, ?_⟩) (by assumption) ?_
                  rotate_left
                  · (intro w hSw; (try dsimp only at hSw); go_simp); first | done | with_reducible rfl
                  try simp only [Act.put, List.setIfInBounds_toArray, List.set_cons_zero, List.set_cons_succ]
                  refine wpAnyH_take (i := 6) (v := ?_) (by simp only [List.getElem?_toArray, List.getElem?_cons_succ, List.getElem?_cons_zero]; rfl) (by kernel_rfl) (by kernel_rfl) (by kernel_rfl) (by exact fun _ _ _ h => h) (Or.inl ⟨by rfl, ?_⟩) (by assumption) ?_
                  rotate_left
                  · (intro w hSw; (try dsimp only at hSw); go_simp); first | done | with_reducible rfl
                  try simp only [Act.put, List.setIfInBounds_toArray, List.set_cons_zero, List.set_cons_succ]
                  refine wpAnyH_take (i := 7) (v := ?_) (by simp only [List.getElem?_toArray, List.getElem?_cons_succ, List.getElem?_cons_zero]; rfl) (by kernel_rfl) (by kernel_rfl) (by kernel_rfl) (by exact fun _ _ _ h => h) (Or.inl ⟨by rfl, ?_⟩) (by assumption) ?_
                  rotate_left
                  · (intro w hSw; (try dsimp only at hSw); go_simp); first | done | with_reducible rfl
                  try simp only [Act.put, List.setIfInBounds_toArray, List.set_cons_zero, List.set_cons_succ]
                  refine wpAnyH_take (i := 8) (v := ?_) (by simp only [List.getElem?_toArray, List.getElem?_cons_succ, List.getElem?_cons_zero]; rfl) (by kernel_rfl) (by kernel_rfl) (by kernel_rfl) (by exact fun _ _ _ h => h) (Or.inl ⟨by rfl, ?_⟩) (by assumption) ?_
                  rotate_left
                  · (intro w hSw; (try dsimp only at hSw); go_simp); first | done | with_reducible rfl
                  try simp only [Act.put, List.setIfInBounds_toArray, List.set_cons_zero, List.set_cons_succ]
                  refine wpAnyH_take (i := 9) (v := ?_) (by simp only [List.getElem?_toArray, List.getElem?_cons_succ, List.getElem?_cons_zero]; rfl) (by kernel_rfl) (by kernel_rfl) (by kernel_rfl) (by exact fun _ _ _ h => h) (Or.inl ⟨by rfl, ?_⟩) (by assumption) ?_
                  rotate_left
                  · (intro w hSw; (try dsimp only at hSw); go_simp); first | done | with_reducible rfl
                  try simp only [Act.put, List.setIfInBounds_toArray, List.set_cons_zero, List.set_cons_succ]
                  refine wpAnyH_take (i := 10) (v := ?_) (by simp only [List.getElem?_toArray, List.getElem?_cons_succ, List.getElem?_cons_zero]; rfl) (by kernel_rfl) (by kernel_rfl) (by kernel_rfl) (by exact fun _ _ _ h => h) (Or.inl ⟨by rfl, ?_⟩) (by assumption) ?_
                  rotate_left
                  · (intro w hSw; (try dsimp only at hSw); go_simp); first | done | with_reducible rfl
                  try simp only [Act.put, List.setIfInBounds_toArray, List.set_cons_zero, List.set_cons_succ]
                  refine wpAnyH_take (i := 11) (v := ?_) (by simp only [List.getElem?_toArray, List.getElem?_cons_succ, List.getElem?_cons_zero]; rfl) (by kernel_rfl) (by kernel_rfl) (by kernel_rfl) (by exact fun _ _ _ h => h) (Or.inl ⟨by rfl, ?_⟩) (by assumption) ?_
                  rotate_left
                  · (intro w hSw; (try dsimp only at hSw); go_simp); first | done | with_reducible rfl
                  try simp only [Act.put, List.setIfInBounds_toArray, List.set_cons_zero, List.set_cons_succ]
                  refine wpAnyH_take (i := 12) (v := ?_) (by simp only [List.getElem?_toArray, List.getElem?_cons_succ, List.getElem?_cons_zero]; rfl) (by kernel_rfl) (by kernel_rfl) (by kernel_rfl) (by exact fun _ _ _ h => h) (Or.inl ⟨by rfl, ?_⟩) (by assumption) ?_
                  rotate_left
                  · (intro w hSw; (try dsimp only at hSw); go_simp); first | done | with_reducible rfl
                  try simp only [Act.put, List.setIfInBounds_toArray, List.set_cons_zero, List.set_cons_succ]
                  refine wpAnyH_take (i := 13) (v := ?_) (by simp only [List.getElem?_toArray, List.getElem?_cons_succ, List.getElem?_cons_zero]; rfl) (by kernel_rfl) (by kernel_rfl) (by kernel_rfl) (by exact fun _ _ _ h => h) (Or.inl ⟨by rfl, ?_⟩) (by assumption) ?_
                  rotate_left
                  · (intro w hSw; (try dsimp only at hSw); go_simp); first | done | with_reducible rfl
                  try simp only [Act.put, List.setIfInBounds_toArray, List.set_cons_zero, List.set_cons_succ]
                  refine wpAnyH_take (i := 14) (v := ?_) (by simp only [List.getElem?_toArray, List.getElem?_cons_succ, List.getElem?_cons_zero]; rfl) (by kernel_rfl) (by kernel_rfl) (by kernel_rfl) (by exact fun _ _ _ h => h) (Or.inl ⟨by rfl, ?_⟩) (by assumption) ?_
                  rotate_left
                  · (intro w hSw; (try dsimp only at hSw); go_simp); first | done | with_reducible rfl
                  try simp only [Act.put, List.setIfInBounds_toArray, List.set_cons_zero, List.set_cons_succ]
                  refine wpAnyH_take (i := 15) (v := ?_) (by simp only [List.getElem?_toArray, List.getElem?_cons_succ, List.getElem?_cons_zero]; rfl) (by kernel_rfl) (by kernel_rfl) (by kernel_rfl) (by exact fun _ _ _ h => h) (Or.inl ⟨by rfl, ?_⟩) (by assumption) ?_
                  rotate_left
                  · (intro w hSw; (try dsimp only at hSw); go_simp); first | done | with_reducible rfl
                  try simp only [Act.put, List.setIfInBounds_toArray, List.set_cons_zero, List.set_cons_succ]
                  refine wpAnyH_take (i := 16) (v := ?_) (by simp only [List.getElem?_toArray, List.getElem?_cons_succ, List.getElem?_cons_zero]; rfl) (by kernel_rfl) (by kernel_rfl) (by kernel_rfl) (by exact fun _ _ _ h => h) (Or.inl ⟨by rfl, ?_⟩) (by assumption) ?_
                  rotate_left
                  · (intro w hSw; (try dsimp only at hSw); go_simp); first | done | with_reducible rfl
                  try simp only [Act.put, List.setIfInBounds_toArray, List.set_cons_zero, List.set_cons_succ]
                  refine wpAnyH_take (i := 17) (v := ?_) (by simp only [List.getElem?_toArray, List.getElem?_cons_succ, List.getElem?_cons_zero]; rfl) (by kernel_rfl) (by kernel_rfl) (by kernel_rfl) (by exact fun _ _ _ h => h) (Or.inl ⟨by rfl, ?_⟩) (by assumption) ?_
                  rotate_left
                  · (intro w hSw; (try dsimp only at hSw); go_simp); first | done | with_reducible rfl
                  try simp only [Act.put, List.setIfInBounds_toArray, List.set_cons_zero, List.set_cons_succ]
                  refine wpAnyH_ready (rs := [18]) (by kernel_rfl) (by simp) ?_
                  refine AllReadyH.cons (by simp only [List.getElem?_toArray, List.getElem?_cons_succ, List.getElem?_cons_zero]; rfl) (fun K hK => ?_) AllReadyH.nil
                  go_simp
                  go_wp2_with fail
                  refine (less_any gf gl gt fn lb tn w51).mono ?_
                  rintro e w52 ⟨rfl, kb⟩
                  replace hr1 := rowIs_on hr1 kb
                  replace hr2 := rowIs_on hr2 kb
                  replace q0 := cellS kb q0
                  replace q1 := cellS kb q1
                  replace q2 := cellS kb q2
                  replace g0 := cellS kb g0
                  replace g1 := cellS kb g1
                  replace g2 := cellS kb g2
                  replace hbx := onS hbx kb
                  clear kb
                  refine hK.out _ _ ⟨q0, q1, q2, g0, g1, g2⟩ (fun hHeld => ?_)
                  clear hK K
                  try simp only [Act.put, List.setIfInBounds_toArray, List.set_cons_zero, List.set_cons_succ]
                  refine wpAnyH_take (i := 19) (v := ?_) (by simp only [List.getElem?_toArray, List.getElem?_cons_succ, List.getElem?_cons_zero]; rfl) (by kernel_rfl) (by kernel_rfl) (by kernel_rfl) (by exact fun _ _ _ h => h) (Or.inl ⟨by rfl, ?_⟩) (by assumption) ?_
                  rotate_left
                  · (intro w hSw; (try dsimp only at hSw); go_simp); first | done | with_reducible rfl
                  try simp only [Act.put, List.setIfInBounds_toArray, List.set_cons_zero, List.set_cons_succ]
                  refine wpAnyH_take (i := 20) (v := ?_) (by simp only [List.getElem?_toArray, List.getElem?_cons_succ, List.getElem?_cons_zero]; rfl) (by kernel_rfl) (by kernel_rfl) (by kernel_rfl) (by exact fun _ _ _ h => h) (Or.inl ⟨by rfl, ?_⟩) (by assumption) ?_
                  rotate_left
                  · (intro w hSw; (try dsimp only at hSw); go_simp); first | done | with_reducible rfl
                  try simp only [Act.put, List.setIfInBounds_toArray, List.set_cons_zero, List.set_cons_succ]
                  refine wpAnyH_take (i := 21) (v := ?_) (by simp only [List.getElem?_toArray, List.getElem?_cons_succ, List.getElem?_cons_zero]; rfl) (by kernel_rfl) (by kernel_rfl) (by kernel_rfl) (by exact fun _ _ _ h => h) (Or.inl ⟨by rfl, ?_⟩) (by assumption) ?_
                  rotate_left
                  · (intro w hSw; (try dsimp only at hSw); go_simp); first | done | with_reducible rfl
                  try simp only [Act.put, List.setIfInBounds_toArray, List.set_cons_zero, List.set_cons_succ]
                  refine wpAnyH_done (by kernel_rfl) ?_ _
                  clear hHeld
                  obtain ⟨lv, hlv2⟩ : ∃ x, x = lessV gf gl fn lb := ⟨_, rfl⟩
                  rw [← hlv2] at hlv ⊢
                  clear hlv2
                  by_cases hl0 : lv ≥ 0
                  · have q6 : decide (lv ≥ 0) = true := by simpa using hl0
                    have q7 : decide (0 ≤ lv) = true := by simpa using hl0
                    have hE := hid (HNO.out fun ho => by have := hlv.out.2 (HAF.out.1 ((HOK.out.1 ho).2.2 (by omega))); omega)
                    have hWx := tbox_below (tbox_on HB.out hbx)
                    go_wp2
                    go_ret
                    exact ⟨ret_int hE.out.symm, hWx⟩
                  · have q6 : decide (lv ≥ 0) = false := by simpa using hl0
                    have q7 : decide (0 ≤ lv) = false := by simpa using hl0
                    have hok := hid (HOK.out.2 ⟨by omega, by omega, fun h => HAF.out.2 (hlv.out.1 (by omega))⟩)
                    clear g0 g1 g2 q1
                    go_upto_region 17 with fail
                    obtain ⟨w60, hw60⟩ : ∃ W, W = w52 := ⟨_, rfl⟩
                    rw [← hw60] at q0 q2 hr1 hr2 hbx ⊢
                    clear hw60
                    refine wp_region_held_drew (S := fun w' => w'.cell? ⟨wj.heap.size, 0, none⟩ = some (.int .i64 fn) ∧ w'.cell? ⟨wj.heap.size, 2, none⟩ = some (.int .i64 tn)) (by kernel_rfl) ⟨cellS (Below.refl _ _).drew q0, cellS (Below.refl _ _).drew q2⟩ (fun hHeld => ?_)
                    obtain ⟨w61, hw⟩ : ∃ W, W = World.drew w60 := ⟨_, rfl⟩
                    have kb : Below w60.heap.size w60 w61 := by rw [hw]; exact (Below.refl _ _).drew
                    rw [← hw] at hHeld ⊢
                    clear hw
                    replace hr1 := rowIs_on hr1 kb
                    replace hr2 := rowIs_on hr2 kb
                    replace q0 := cellS kb q0
                    replace q2 := cellS kb q2
                    replace hbx := onS hbx kb
                    clear kb
                    refine wpAnyH_take (i := 0) (v := ?_) (by simp only [List.getElem?_toArray, List.getElem?_cons_zero]; rfl) (by kernel_rfl) (by kernel_rfl) (by kernel_rfl) (by exact fun _ _ _ h => h) (Or.inl ⟨by rfl, ?_⟩) (by assumption) ?_
                    rotate_left
                    · (intro w hSw; (try dsimp only at hSw); go_simp); first | done | with_reducible rfl
                    try simp only [Act.put, List.setIfInBounds_toArray, List.set_cons_zero, List.set_cons_succ]
                    refine wpAnyH_take (i := 1) (v := ?_) (by simp only [List.getElem?_toArray, List.getElem?_cons_succ, List.getElem?_cons_zero]; rfl) (by kernel_rfl) (by kernel_rfl) (by kernel_rfl) (by exact fun _ _ _ h => h) (Or.inl ⟨by rfl, ?_⟩) (by assumption) ?_
                    rotate_left
                    · (intro w hSw; (try dsimp only at hSw); go_simp); first | done | with_reducible rfl
                    try simp only [Act.put, List.setIfInBounds_toArray, List.set_cons_zero, List.set_cons_succ]
                    refine wpAnyH_take (i := 2) (v := ?_) (by simp only [List.getElem?_toArray, List.getElem?_cons_succ, List.getElem?_cons_zero]; rfl) (by kernel_rfl) (by kernel_rfl) (by kernel_rfl) (by exact fun _ _ _ h => h) (Or.inl ⟨by rfl, ?_⟩) (by assumption) ?_
                    rotate_left
                    · (intro w hSw; (try dsimp only at hSw); go_simp); first | done | with_reducible rfl
                    try simp only [Act.put, List.setIfInBounds_toArray, List.set_cons_zero, List.set_cons_succ]
                    refine wpAnyH_take (i := 3) (v := ?_) (by simp only [List.getElem?_toArray, List.getElem?_cons_succ, List.getElem?_cons_zero]; rfl) (by kernel_rfl) (by kernel_rfl) (by kernel_rfl) (by exact fun _ _ _ h => h) (Or.inl ⟨by rfl, ?_⟩) (by assumption) ?_
                    rotate_left
                    · (intro w hSw; (try dsimp only at hSw); go_simp); first | done | with_reducible rfl
                    try simp only [Act.put, List.setIfInBounds_toArray, List.set_cons_zero, List.set_cons_succ]
                    refine wpAnyH_take (i := 4) (v := ?_) (by simp only [List.getElem?_toArray, List.getElem?_cons_succ, List.getElem?_cons_zero]; rfl) (by kernel_rfl) (by kernel_rfl) (by kernel_rfl) (by exact fun _ _ _ h => h) (Or.inl ⟨by rfl, ?_⟩) (by assumption) ?_
                    rotate_left
                    · (intro w hSw; (try dsimp only at hSw); go_simp); first | done | with_reducible rfl
                    try simp only [Act.put, List.setIfInBounds_toArray, List.set_cons_zero, List.set_cons_succ]
                    refine wpAnyH_take (i := 5) (v := ?_) (by simp only [List.getElem?_toArray, List.getElem?_cons_succ, List.getElem?_cons_zero]; rfl) (by kernel_rfl) (by kernel_rfl) (by kernel_rfl) (by exact fun _ _ _ h => h) (Or.inl ⟨by rfl, ?_⟩) (by assumption) ?_
                    rotate_left
                    · (intro w hSw; (try dsimp only at hSw); go_simp); first | done | with_reducible rfl
                    try simp only [Act.put, List.setIfInBounds_toArray, List.set_cons_zero, List.set_cons_succ]
                    refine wpAnyH_take (i := 6) (v := ?_) (by simp only [List.getElem?_toArray, List.getElem?_cons_succ, List.getElem?_cons_zero]; rfl) (by kernel_rfl) (by kernel_rfl) (by kernel_rfl) (by exact fun _ _ _ h => h) (Or.inl ⟨by rfl, ?_⟩) (by assumption) ?_
                    rotate_left
                    · (intro w hSw; (try dsimp only at hSw); go_simp); first | done | with_reducible rfl
                    try simp only [Act.put, List.setIfInBounds_toArray, List.set_cons_zero, List.set_cons_succ]
                    refine wpAnyH_ready (rs := [7]) (by kernel_rfl) (by simp) ?_
                    refine AllReadyH.cons (by simp only [List.getElem?_toArray, List.getElem?_cons_succ, List.getElem?_cons_zero]; rfl) (fun K hK => ?_) AllReadyH.nil
                    have hlx := hr1.lt
                    have u0 := hr1.cell (i := fn) hfl
                    have z0 := hr1.frozen fn
                    skip
                    go_simp
                    replace q0 := far_setCell (p := ⟨b1, fn, none⟩) (u := .bool true) q0 (by show wj.heap.size ≠ b1; omega)
                    replace q2 := far_setCell (p := ⟨b1, fn, none⟩) (u := .bool true) q2 (by show wj.heap.size ≠ b1; omega)
                    replace hbx := hbx.setCell (p := ⟨b1, fn, none⟩) hz1 (.bool true)
                    replace hr2 := hr2.setOther (a := ⟨b1, fn, none⟩) (by simpa using hne') (.bool true)
                    replace hr1 := hr1.set fn (.bool true)
                    obtain ⟨w62, hw⟩ : ∃ W, W = World.setCell w61 ⟨b1, fn, none⟩ (.bool true) := ⟨_, rfl⟩
                    rw [← hw] at q0 q2 hbx hr1 hr2 ⊢
                    clear hw u0 z0 hlx
                    refine hK.out _ _ ⟨q0, q2⟩ (fun hHeld => ?_)
                    clear hK K
                    try simp only [Act.put, List.setIfInBounds_toArray, List.set_cons_zero, List.set_cons_succ]
                    refine wpAnyH_take (i := 8) (v := ?_) (by simp only [List.getElem?_toArray, List.getElem?_cons_succ, List.getElem?_cons_zero]; rfl) (by kernel_rfl) (by kernel_rfl) (by kernel_rfl) (by exact fun _ _ _ h => h) (Or.inl ⟨by rfl, ?_⟩) (by assumption) ?_
                    rotate_left
                    · (intro w hSw; (try dsimp only at hSw); go_simp); first | done | with_reducible rfl
                    try simp only [Act.put, List.setIfInBounds_toArray, List.set_cons_zero, List.set_cons_succ]
                    refine wpAnyH_ready (rs := [9]) (by kernel_rfl) (by simp) ?_
                    refine AllReadyH.cons (by simp only [List.getElem?_toArray, List.getElem?_cons_succ, List.getElem?_cons_zero]; rfl) (fun K hK => ?_) AllReadyH.nil
                    have hlx := hr2.lt
                    have u0 := hr2.cell (i := tn) htl
                    have z0 := hr2.frozen tn
                    skip
                    go_simp
                    replace q0 := far_setCell (p := ⟨b2, tn, none⟩) (u := .bool true) q0 (by show wj.heap.size ≠ b2; omega)
                    replace q2 := far_setCell (p := ⟨b2, tn, none⟩) (u := .bool true) q2 (by show wj.heap.size ≠ b2; omega)
                    replace hbx := hbx.setCell (p := ⟨b2, tn, none⟩) hz2 (.bool true)
                    replace hr1 := hr1.setOther (a := ⟨b2, tn, none⟩) (by simpa using hne) (.bool true)
                    replace hr2 := hr2.set tn (.bool true)
                    obtain ⟨w63, hw⟩ : ∃ W, W = World.setCell w62 ⟨b2, tn, none⟩ (.bool true) := ⟨_, rfl⟩
                    rw [← hw] at q0 q2 hbx hr1 hr2 ⊢
                    clear hw u0 z0 hlx
                    refine hK.out _ _ ⟨q0, q2⟩ (fun hHeld => ?_)
                    clear hK K
                    try simp only [Act.put, List.setIfInBounds_toArray, List.set_cons_zero, List.set_cons_succ]
                    refine wpAnyH_done (by kernel_rfl) ?_ _
                    clear hHeld
                    have hs1 := hr1.congr (g := fun v => .bool (hitB (T.fr k) (jp + 1 + 1) (v : Nat))) (HC1.out)
                    have hs2 := hr2.congr (g := fun v => .bool (hitB (T.to k) (jp + 1 + 1) (v : Nat))) (HC2.out)
                    have HS1 := hid hs1
                    have HS2 := hid hs2
                    have HBX := hid hbx
                    clear hs1 hs2 hr1 hr2 hbx
                    go_wp2
                    go_roundg (gk - 1)
                    case measure => omega
                    case rel => exact ⟨jp + 1 + 1, by go_num, by omega, by omega, HOKS.out hok.out, HS1.out, HS2.out, HBX.out⟩
              · have hltj' : ¬ (j : Int) < (T.el k : Int) := by omega
                have hje : j = T.el k := by omega
                have HALL3 : Hid (∀ i, i < T.el k → T.edgeOk k i) := by rw [← hje]; exact HALL2
                rw [hje] at hr1 hr2
                clear HR1 HR2 HALL2
                go_wp2_with fail
                refine (contains_any _ n1 n1 (fun v => hitB (T.fr k) (T.el k) (v : Nat)) false wj (Rd_of_row hr1) (by omega)).mono ?_
                rintro e w2 ⟨⟨r1, rfl, hc1⟩, kb⟩
                replace hW := onS hW kb
                replace hr2 := rowIs_on hr2 kb
                have hb2x := onS HBj.out kb
                clear kb hr1
                cases r1
                · have HA1 : Hid (∀ i, i < n1 → hitB (T.fr k) (T.el k) (i : Nat) = true) := fun i hi => by
                    cases hv : hitB (T.fr k) (T.el k) (i : Nat)
                    · exact absurd (hc1.2 ⟨i, hi, hv⟩) (by simp)
                    · rfl
                  clear hc1
                  go_wp2_with fail
                  refine (contains_any _ n2 n2 (fun v => hitB (T.to k) (T.el k) (v : Nat)) false w2 (Rd_of_row hr2) (by omega)).mono ?_
                  rintro e w3 ⟨⟨r2, rfl, hc2⟩, kb⟩
                  replace hW := onS hW kb
                  replace hb2x := onS hb2x kb
                  clear kb hr2
                  cases r2
                  · have HN : Hid (∀ i, i < k + 1 → T.secOk i) := fun i hi => by
                      by_cases e : i = k
                      · subst e
                        refine ⟨HALL3.out, fun v hv => HA1.out v (by have := HN1.out; omega), fun v hv => ?_⟩
                        cases hv2 : hitB (T.to i) (T.el i) (v : Nat)
                        · exact absurd (hc2.2 ⟨v, by have := HN2.out; omega, hv2⟩) (by simp)
                        · rfl
                      · exact HALL.out i (by omega)
                    have HFIN := hid (tbox_on HB.out hb2x)
                    clear hc2
                    go_wp2
                    go_roundg (gK - 1)
                    case measure => omega
                    case rel => exact ⟨k + 1, by go_num, by omega, by omega, HN.out, HFIN.out⟩
                  · have hE := hid (HBAD.out fun hs => by
                      obtain ⟨i, hi, e⟩ := hc2.1 rfl
                      have := hs.2.2 i (by have := HN2.out; omega)
                      rw [e] at this
                      cases this)
                    clear hc2
                    go_wp2
                    go_ret
                    exact ⟨ret_int hE.out.symm, hW⟩
                · have hE := hid (HBAD.out fun hs => by
                    obtain ⟨i, hi, e⟩ := hc1.1 rfl
                    have := hs.2.1 i (by have := HN1.out; omega)
                    rw [e] at this
                    cases this)
                  clear hc1
                  go_wp2
                  go_ret
                  exact ⟨ret_int hE.out.symm, hW⟩
          · have hlt' : ¬ (k : Int) < (T.n : Int) := by omega
            have hE := hid (T.properE_ok HS0.out HW0.out HWN.out fun i hi => HALL.out i (by omega))
            go_wp2
            go_ret
            exact ⟨ret_int hE.out.symm, hW⟩
      · have c1 : (u1 != 1) = true := by simp [h1]
        have hE := hid (T.properE_end HS0.out (.inr (by rw [← HU1.out]; exact h1)))
        go_wp2
        go_ret
        exact ⟨ret_int hE.out.symm, hW⟩
    · have c0 : (u0 != 1) = true := by simp [h0]
      have hE := hid (T.properE_end HS0.out (.inl (by rw [← HU0.out]; exact h0)))
      go_wp2
      go_ret
      exact ⟨ret_int hE.out.symm, hW⟩
  · have hE := hid (Trel.properE_shape hs)
    have hn : (T.shapeE != 0) = true := by simpa using hs
    obtain ⟨x, hx⟩ : ∃ x, x = T.shapeE := ⟨_, rfl⟩
    rw [← hx] at hE hn ⊢
    clear hs hx
    go_wp2
    go_ret
    exact ⟨ret_int hE.out.symm, hW⟩
end Go.Proofs.Ytnocbkhnmdmfhaa
