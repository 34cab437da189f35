/- Proper trellises: codewrightref47.Proper and trellis.Proper return the same error. -/
import Derived.Test.YtnocbkhnmdmfhaaLess
namespace Go.Proofs.Ytnocbkhnmdmfhaa
open Go.RowKit

/-- One of the first j numbers is v. -/
def hitB (f : Nat → Int) : Nat → Int → Bool
  | 0, _ => false
  | j + 1, v => hitB f j v || decide (f j = v)
theorem hitB_iff {f : Nat → Int} {v : Int} : ∀ {j : Nat}, hitB f j v = true ↔ ∃ i, i < j ∧ f i = v := by
  intro j
  induction j with
  | zero => simp [hitB]
  | succ j ih =>
    simp only [hitB, Bool.or_eq_true, decide_eq_true_eq, ih]
    constructor
    · rintro (⟨i, hi, e⟩ | e)
      · exact ⟨i, by omega, e⟩
      · exact ⟨j, by omega, e⟩
    · rintro ⟨i, hi, e⟩
      by_cases h : i = j
      · subst h; exact .inr e
      · exact .inl ⟨i, by omega, e⟩
/-- Edge j of section i comes behind the edge ahead of it. -/
def Trel.after (T : Trel) (i j : Nat) : Prop := T.fr i (j - 1) < T.fr i j ∨ T.fr i (j - 1) = T.fr i j ∧ T.lb i (j - 1) < T.lb i j
instance (T : Trel) (i j : Nat) : Decidable (T.after i j) := by unfold Trel.after; exact inferInstance
def Trel.edgeOk (T : Trel) (i j : Nat) : Prop := 0 ≤ T.lb i j ∧ T.lb i j < 256 ∧ (0 < j → T.after i j)
instance (T : Trel) (i j : Nat) : Decidable (T.edgeOk i j) := by unfold Trel.edgeOk; exact inferInstance
def Trel.secOk (T : Trel) (i : Nat) : Prop :=
  (∀ j, j < T.el i → T.edgeOk i j) ∧ (∀ v, v < (T.W i).toNat → hitB (T.fr i) (T.el i) (v : Nat) = true) ∧ (∀ v, v < (T.W (i + 1)).toNat → hitB (T.to i) (T.el i) (v : Nat) = true)
instance (T : Trel) (i : Nat) : Decidable (T.secOk i) := by unfold Trel.secOk; exact inferInstance
/-- The error of a proper trellis. -/
def Trel.properE (T : Trel) : Int :=
  if T.shapeE ≠ 0 then T.shapeE else if T.W 0 ≠ 1 ∨ T.W T.n ≠ 1 then 5 else if ∀ i, i < T.n → T.secOk i then 0 else 5
structure Trel.Proper (T : Trel) : Prop where
  shape : T.Shape
  w0 : T.W 0 = 1
  wn : T.W T.n = 1
  sec : ∀ i, i < T.n → T.secOk i
theorem Trel.proper_of {T : Trel} (h : T.properE = 0) : T.Proper := by
  unfold Trel.properE at h
  by_cases h1 : T.shapeE = 0
  · rw [if_neg (by simpa using h1)] at h
    by_cases h2 : T.W 0 ≠ 1 ∨ T.W T.n ≠ 1
    · rw [if_pos h2] at h; omega
    · rw [if_neg h2] at h
      by_cases h3 : ∀ i, i < T.n → T.secOk i
      · exact ⟨Trel.shape_of h1, by omega, by omega, h3⟩
      · rw [if_neg h3] at h; omega
  · rw [if_pos h1] at h; exact absurd h h1
theorem Trel.properE_shape {T : Trel} (h : T.shapeE ≠ 0) : T.properE = T.shapeE := by unfold Trel.properE; rw [if_pos h]
theorem Trel.properE_end {T : Trel} (h : T.shapeE = 0) (h2 : T.W 0 ≠ 1 ∨ T.W T.n ≠ 1) : T.properE = 5 := by unfold Trel.properE; rw [if_neg (by simpa using h), if_pos h2]
theorem Trel.properE_sec {T : Trel} (h : T.shapeE = 0) {i : Nat} (hi : i < T.n) (h2 : ¬ T.secOk i) : T.properE = 5 := by
  unfold Trel.properE
  rw [if_neg (by simpa using h)]
  split
  · rfl
  · rw [if_neg fun h3 => h2 (h3 i hi)]
theorem Trel.properE_ok {T : Trel} (h : T.shapeE = 0) (h0 : T.W 0 = 1) (hn : T.W T.n = 1) (h2 : ∀ i, i < T.n → T.secOk i) : T.properE = 0 := by
  unfold Trel.properE
  rw [if_neg (by simpa using h), if_neg (by omega), if_pos h2]
/-- Two tables of bools behind two stores. -/
theorem two_rows {X : World} {b1 b2 n1 n2 x y : Nat} {t : TypeId} {f g f' g' : Nat → Bool} (h1 : X.rowIs b1 t n1 (fun v => .bool (f v))) (h2 : X.rowIs b2 t n2 (fun v => .bool (g v))) (hne : b1 ≠ b2)
    (hf : ∀ v, v < n1 → f' v = (f v || decide (v = x))) (hg : ∀ v, v < n2 → g' v = (g v || decide (v = y))) :
    ((X.setCell ⟨b1, x, none⟩ (.bool true)).setCell ⟨b2, y, none⟩ (.bool true)).rowIs b1 t n1 (fun v => .bool (f' v)) ∧ ((X.setCell ⟨b1, x, none⟩ (.bool true)).setCell ⟨b2, y, none⟩ (.bool true)).rowIs b2 t n2 (fun v => .bool (g' v)) := by
  have k1 := (h1.set x (.bool true)).setOther (a := ⟨b2, y, none⟩) (by simpa using hne) (.bool true)
  have k2 := (h2.setOther (a := ⟨b1, x, none⟩) (by simpa using fun e : b2 = b1 => hne e.symm) (.bool true)).set y (.bool true)
  refine ⟨k1.congr fun v hv => ?_, k2.congr fun v hv => ?_⟩
  · show (if v = x then Value.bool true else .bool (f v)) = .bool (f' v)
    rw [hf v hv]
    by_cases e : v = x
    · rw [if_pos e]; simp [e]
    · rw [if_neg e]; simp [e]
  · show (if v = y then Value.bool true else .bool (g v)) = .bool (g' v)
    rw [hg v hv]
    by_cases e : v = y
    · rw [if_pos e]; simp [e]
    · rw [if_neg e]; simp [e]

set_option maxRecDepth 100000 in
set_option maxHeartbeats 16000000 in
theorem refProper_any (T : Trel) (A B : Option Addr) (c d : Nat) (w : World) (h : T.Reads w A B) :
    Calls Try.prog 19 #[.agg #[.slice A T.nw c, .slice B T.n d]] w fun e w' => e = .returned (.int .i64 T.properE) ∧ Below w.heap.size w w' := by
  obtain ⟨RB, hRB⟩ : ∃ o, o = (Obj.cells #[.slice A T.nw c, .slice B T.n d] 25) := ⟨_, rfl⟩
  have hB0 : Below (w.heap.size + 1) (w.alloc RB) (w.alloc RB) := Below.refl _ _
  have HS : Hid (∀ w', Below (w.heap.size + 1) (w.alloc RB) w' → (w'.cell? ⟨w.heap.size, 0, none⟩ = some (.slice A T.nw c) ∧ w'.cell? ⟨w.heap.size, 1, none⟩ = some (.slice B T.n d)) ∧ Below w.heap.size w w') := fun w' hB => by
    have hB' := tbox_below hB
    subst hRB
    exact ⟨⟨tbox hB rfl, tbox hB rfl⟩, hB'⟩
  obtain ⟨⟨p0, p1⟩, hW⟩ := HS.out _ hB0
  go_enter Try.func19, Try.ntmps19
  go_wp2_with fail
  rw [← hRB]
  refine (refShape_any T A B c d _ (h.on hW)).mono ?_
  rintro e w1 ⟨rfl, hb⟩
  have hB1 := tbox_on hB0 hb
  clear hW p0 p1 hb hB0 hRB
  obtain ⟨⟨p0, p1⟩, hW⟩ := HS.out _ hB1
  by_cases hs : T.shapeE = 0
  · have HSH := hid (Trel.shape_of hs)
    have HS0 := hid hs
    rw [hs]
    have HR := hid h
    have hnw : T.nw = T.n + 1 := HSH.out.nw
    have HNW := hid hnw
    have h64 : T.n ≤ 64 := HSH.out.n64
    have hnw2 : T.n < T.nw := by omega
    have hnw2' : (T.n : Int) < (T.nw : Int) := by omega
    have hnw3 : 0 < T.nw := by omega
    have hnw3' : (0 : Int) < (T.nw : Int) := by omega
    have HB1 := hid hB1
    clear hs hnw h hB1
    obtain ⟨b, o, hA, hb, x0, _, _⟩ := (HR.out.on hW).width (i := 0) (by omega)
    obtain ⟨_, _, hA2, _, x1, _, _⟩ := (HR.out.on hW).width (i := T.n) (by omega)
    subst hA
    injection hA2 with e1
    injection e1 with e1 e2
    subst e1 e2
    obtain ⟨u0, hu0⟩ : ∃ u, u = T.W 0 := ⟨_, rfl⟩
    obtain ⟨u1, hu1⟩ : ∃ u, u = T.W T.n := ⟨_, rfl⟩
    rw [Nat.add_zero, ← hu0] at x0
    rw [← hu1] at x1
    have HU0 := hid hu0
    have HU1 := hid hu1
    clear hu0 hu1
    by_cases h0 : u0 = 1
    · have c0 : (u0 != 1) = false := by simp [h0]
      by_cases h1 : u1 = 1
      · have c1 : (u1 != 1) = false := by simp [h1]
        have HW0 : Hid (T.W 0 = 1) := HU0.out.symm.trans h0
        have HWN : Hid (T.W T.n = 1) := HU1.out.symm.trans h1
        clear h0 h1
        go_wp2
        go_loopg [5] T.n (fun gg iv wx => ∃ k : Nat, iv = .int .i64 (k : Nat) ∧ k ≤ T.n ∧ T.n ≤ k + gg ∧ (∀ i, i < k → T.secOk i) ∧ Below (w.heap.size + 1) (w.alloc RB) wx)
        case atStart => exact ⟨0, rfl, by omega, by omega, fun i hi => absurd hi (by omega), HB1.out⟩
        case round =>
          clear hW p0 p1 x0 x1
          obtain ⟨gK, hgK⟩ : ∃ g, g = gk := ⟨_, rfl⟩
          subst hgK
          obtain ⟨k, rfl, hk, hkg, hall, hB⟩ := hrel
          obtain ⟨wk, hwk⟩ : ∃ W, W = wr := ⟨_, rfl⟩
          subst hwk
          have hk0 : (0 : Int) ≤ (k : Int) := by omega
          have HB := hid hB
          have hwz := tbox_lt hB
          clear hB
          obtain ⟨⟨p0, p1⟩, hW⟩ := HS.out _ HB.out
          have HALL := hid hall
          clear hall
          by_cases hlt : k < T.n
          · have hlt' : (k : Int) < (T.n : Int) := by omega
            have hk1 : k + 1 < T.nw := by omega
            have hk1' : (k : Int) + 1 < (T.nw : Int) := by omega
            have hk2' : (k : Int) < (T.nw : Int) := by omega
            obtain ⟨wa, wo, hA, _, y0, hy1, hy2⟩ := (HR.out.on hW).width (i := k) (by omega)
            obtain ⟨_, _, hA2, _, y1, hy3, hy4⟩ := (HR.out.on hW).width (i := k + 1) (by omega)
            rw [hA] at hA2
            injection hA with e1
            injection e1 with e1 e2
            subst e1 e2
            injection hA2 with e1
            injection e1 with e1 e2
            subst e1 e2
            obtain ⟨eb, eo, E, ec, rfl, heb, x0, he1, he2, he3, he4⟩ := (HR.out.on hW).sec hlt
            unfold maxLen at he2
            have hwk := HSH.out.wid (i := k) (by omega)
            have hwk1 := HSH.out.wid (i := k + 1) (by omega)
            have hel := HSH.out.elb hlt
            obtain ⟨n1, hn1⟩ : ∃ n : Nat, (n : Int) = T.W k := ⟨(T.W k).toNat, by omega⟩
            obtain ⟨n2, hn2⟩ : ∃ n : Nat, (n : Int) = T.W (k + 1) := ⟨(T.W (k + 1)).toNat, by omega⟩
            rw [← hn1] at y0 hwk
            rw [← hn2] at y1 hwk1
            have HN1 := hid hn1
            have HN2 := hid hn2
            have HE3 := hid he3
            have HE4 := hid he4
            have HX0 := hid x0
            have hmk := fun W => run_makeI (P := Try.prog) 78 4 _ 1 Try.underlying78 Try.infoBool rfl (n1 : Int) (by omega) (by omega) (by omega) W
            have hmk2 := fun W => run_makeI (P := Try.prog) 78 4 _ 1 Try.underlying78 Try.infoBool rfl (n2 : Int) (by omega) (by omega) (by omega) W
            simp only [Int.toNat_natCast] at hmk hmk2
            clear hn1 hn2 he3 he4 hy1 hy2 hy3 hy4
            go_upto_region 12 with fail
            have hr1 := rowIs_on (World.rowIs_made wk (.bool false) n1 4) ((Below.refl _ _).alloc (Nat.le_refl _) (Obj.cells (madeCells #[Value.bool false] n2) 4))
            have hr2 := World.rowIs_made (wk.alloc (Obj.cells (madeCells #[Value.bool false] n1) 4)) (.bool false) n2 4
            have hbm := (((Below.refl wk.heap.size wk).alloc (Nat.le_refl _) (Obj.cells (madeCells #[Value.bool false] n1) 4)).alloc (by simp) (Obj.cells (madeCells #[Value.bool false] n2) 4))
            simp only [World.size_alloc] at hr2 ⊢
            obtain ⟨wm, hwm⟩ : ∃ W, W = (wk.alloc (Obj.cells (madeCells #[Value.bool false] n1) 4)).alloc (Obj.cells (madeCells #[Value.bool false] n2) 4) := ⟨_, rfl⟩
            rw [← hwm] at hr1 hr2 hbm ⊢
            obtain ⟨b1, hb1⟩ : ∃ q, q = wk.heap.size := ⟨_, rfl⟩
            obtain ⟨b2, hb2⟩ : ∃ q, q = wk.heap.size + 1 := ⟨_, rfl⟩
            rw [← hb1] at hr1
            rw [← hb2] at hr2
            rw [← hb2, ← hb1]
            have hne : b1 ≠ b2 := by omega
            have hz1 : wk.heap.size ≤ b1 := by omega
            have hz2 : wk.heap.size ≤ b2 := by omega
            have hs1 : Hid (wm.rowIs b1 4 n1 (fun v => .bool (hitB (T.fr k) 0 (v : Nat)))) := hr1.congr fun _ _ => rfl
            have hs2 : Hid (wm.rowIs b2 4 n2 (fun v => .bool (hitB (T.to k) 0 (v : Nat)))) := hr2.congr fun _ _ => rfl
            have HBM := hid hbm
            have HBAD : Hid (¬ T.secOk k → T.properE = 5) := fun hb => T.properE_sec HS0.out hlt hb
            clear hr1 hr2 hbm hwm hb1 hb2 hmk hmk2 p0 p1 x0 hW
            obtain ⟨⟨p0, p1⟩, hW⟩ := HS.out _ (tbox_on HB.out HBM.out)
            have x0 := cellS HBM.out HX0.out
            go_wp2
            go_loopg [8] (T.el k) (fun gg jv wx => ∃ j : Nat, jv = .int .i64 (j : Nat) ∧ j ≤ T.el k ∧ T.el k ≤ j + gg ∧ (∀ i, i < j → T.edgeOk k i) ∧ wx.rowIs b1 4 n1 (fun v => .bool (hitB (T.fr k) j (v : Nat))) ∧ wx.rowIs b2 4 n2 (fun v => .bool (hitB (T.to k) j (v : Nat))) ∧ Below wk.heap.size wk wx)
            case atStart => exact ⟨0, rfl, by omega, by omega, fun i hi => absurd hi (by omega), hs1.out, hs2.out, HBM.out⟩
            case round =>
              clear hW p0 p1 x0 hs1 hs2 HBM y0 y1 hb
              obtain ⟨wj, hwj⟩ : ∃ W, W = wr := ⟨_, rfl⟩
              subst hwj
              obtain ⟨j, rfl, hj, hjg, hall, hr1, hr2, hBj⟩ := hrel
              have hj0 : (0 : Int) ≤ (j : Int) := by omega
              have HALL2 := hid hall
              obtain ⟨⟨p0, p1⟩, hW⟩ := HS.out _ (tbox_on HB.out hBj)
              have x0 := cellS hBj HX0.out
              have HBj := hid hBj
              have hwj1 := hr1.lt
              have hwzj := tbox_lt (tbox_on HB.out hBj)
              have hwzk : wk.heap.size ≤ wj.heap.size := hBj.size
              have heb2 : eb < wj.heap.size := by omega
              have hwj2 := hr2.lt
              have HR1 := hid hr1
              have HR2 := hid hr2
              clear hall
              by_cases hltj : j < T.el k
              · have hltj' : (j : Int) < (T.el k : Int) := by omega
                obtain ⟨fb, fo, rfl, hfb, e0, e1, e2⟩ := edge_at ((Rd.below HE3.out hBj (Nat.le_refl _)).mono hBj.size) hltj
                obtain ⟨i1, i2, i3, i4⟩ := HSH.out.ins k hlt j hltj
                rw [← HN1.out] at i2
                rw [← HN2.out] at i4
                have HOK : Hid (T.edgeOk k j ↔ 0 ≤ T.lb k j ∧ T.lb k j < 256 ∧ (0 < j → T.after k j)) := Iff.rfl
                have HNO : Hid (¬ T.edgeOk k j → T.properE = 5) := fun hn => HBAD.out fun hs => hn (hs.1 j hltj)
                obtain ⟨fn, hfn⟩ : ∃ n : Nat, (n : Int) = T.fr k j := ⟨(T.fr k j).toNat, by omega⟩
                obtain ⟨tn, htn⟩ : ∃ n : Nat, (n : Int) = T.to k j := ⟨(T.to k j).toNat, by omega⟩
                obtain ⟨lb, hlb⟩ : ∃ x, x = T.lb k j := ⟨_, rfl⟩
                have hfl : fn < n1 := by omega
                have htl : tn < n2 := by omega
                have hfl' : (fn : Int) < (n1 : Int) := by omega
                have htl' : (tn : Int) < (n2 : Int) := by omega
                have hf0 : (0 : Int) ≤ (fn : Int) := by omega
                have ht0 : (0 : Int) ≤ (tn : Int) := by omega
                have HSET : Hid (∀ X, Below wj.heap.size wj X → (((X.setCell ⟨b1, fn, none⟩ (.bool true)).setCell ⟨b2, tn, none⟩ (.bool true)).rowIs b1 4 n1 (fun v => .bool (hitB (T.fr k) (j + 1) (v : Nat))) ∧ ((X.setCell ⟨b1, fn, none⟩ (.bool true)).setCell ⟨b2, tn, none⟩ (.bool true)).rowIs b2 4 n2 (fun v => .bool (hitB (T.to k) (j + 1) (v : Nat)))) ∧ Below wk.heap.size wk ((X.setCell ⟨b1, fn, none⟩ (.bool true)).setCell ⟨b2, tn, none⟩ (.bool true))) := fun X hX => by
                  refine ⟨two_rows (rowIs_on HR1.out hX) (rowIs_on HR2.out hX) hne (fun v hv => ?_) (fun v hv => ?_), ((onS HBj.out hX).setCell (p := ⟨b1, fn, none⟩) hz1 _).setCell (p := ⟨b2, tn, none⟩) hz2 _⟩
                  · show (hitB (T.fr k) j (v : Nat) || decide (T.fr k j = (v : Nat))) = _
                    rw [← hfn]
                    congr 1
                    exact decide_eq_decide.2 ⟨fun h => by omega, fun h => by omega⟩
                  · show (hitB (T.to k) j (v : Nat) || decide (T.to k j = (v : Nat))) = _
                    rw [← htn]
                    congr 1
                    exact decide_eq_decide.2 ⟨fun h => by omega, fun h => by omega⟩
                have HOKS : Hid (T.edgeOk k j → ∀ i, i < j + 1 → T.edgeOk k i) := fun ho i hi => by
                  by_cases e : i = j
                  · subst e; exact ho
                  · exact HALL2.out i (by omega)
                have u0 := hr1.cell (i := fn) hfl
                have u1 := hr2.cell (i := tn) htl
                have z0 := hr1.frozen fn
                have z1 := hr2.frozen tn
                obtain ⟨v0, hv0⟩ : ∃ x, x = hitB (T.fr k) j (fn : Nat) := ⟨_, rfl⟩
                obtain ⟨v1, hv1⟩ : ∃ x, x = hitB (T.to k) j (tn : Nat) := ⟨_, rfl⟩
                have hne' : b2 ≠ b1 := fun e => hne e.symm
                rw [← hv0] at u0
                rw [← hv1] at u1
                rw [← hfn] at e0
                rw [← htn] at e2
                rw [← hlb] at e1 HOK
                have HFN := hid hfn
                have HLB := hid hlb
                clear hv0 hv1 hfn htn hlb hr1 hr2 hBj i1 i2 i3 i4
                by_cases l1 : lb < 0
                · have q1 : decide (lb < 0) = true := by simpa using l1
                  have hE := hid (HNO.out fun ho => by have := (HOK.out.1 ho).1; omega)
                  go_wp2
                  go_ret
                  exact ⟨ret_int hE.out.symm, hW.alloc (by omega) _⟩
                have q1 : decide (lb < 0) = false := by simpa using l1
                by_cases l2 : lb ≥ 256
                · have hE := hid (HNO.out fun ho => by have := (HOK.out.1 ho).2.1; omega)
                  go_wp2
                  go_ret
                  exact ⟨ret_int hE.out.symm, hW.alloc (by omega) _⟩
                by_cases jz : j = 0
                · have hg : ¬ (j : Int) > 0 := by omega
                  have hok := hid (HOK.out.2 ⟨by omega, by omega, fun h => absurd h (by omega)⟩)
                  clear jz
                  go_wp2
                  go_roundg (gk - 1)
                  case measure => omega
                  case rel => exact ⟨j + 1, by go_num, by omega, by omega, HOKS.out hok.out, rowIs_on (HSET.out _ (Below.refl _ _)).1.1 ((Below.refl _ _).alloc (Nat.le_refl _) _), rowIs_on (HSET.out _ (Below.refl _ _)).1.2 ((Below.refl _ _).alloc (Nat.le_refl _) _), onS (HSET.out _ (Below.refl _ _)).2 ((Below.refl _ _).alloc (Nat.le_refl _) _)⟩
                · obtain ⟨jp, rfl⟩ : ∃ jp, j = jp + 1 := ⟨j - 1, by omega⟩
                  obtain ⟨_, _, hE2, _, g0, g1, g2⟩ := edge_at ((Rd.below HE3.out HBj.out (Nat.le_refl _)).mono HBj.out.size) (j := jp) (by omega)
                  injection hE2 with hE2; injection hE2 with hE2 hE3; subst hE2 hE3
                  have HAF : Hid (T.after k (jp + 1) ↔ T.fr k jp < T.fr k (jp + 1) ∨ T.fr k jp = T.fr k (jp + 1) ∧ T.lb k jp < T.lb k (jp + 1)) := Iff.rfl
                  rw [← HFN.out, ← HLB.out] at HAF
                  have hlj : jp < T.el k := by omega
                  have hlj' : (jp : Int) < (T.el k : Int) := by omega
                  have hjp0 : (0 : Int) ≤ (jp : Int) := by omega
                  obtain ⟨gf, hgf⟩ : ∃ x, x = T.fr k jp := ⟨_, rfl⟩
                  obtain ⟨gl, hgl⟩ : ∃ x, x = T.lb k jp := ⟨_, rfl⟩
                  obtain ⟨gt, hgt⟩ : ∃ x, x = T.to k jp := ⟨_, rfl⟩
                  rw [← hgf] at g0 HAF
                  rw [← hgl] at g1 HAF
                  rw [← hgt] at g2
                  clear hgf hgl hgt jz
                  have hg : (jp : Int) + 1 > 0 := by omega
                  by_cases f1 : (fn : Int) < gf
                  · have hE := hid (HNO.out fun ho => by have := HAF.out.1 ((HOK.out.1 ho).2.2 (by omega)); omega)
                    go_wp2
                    go_ret
                    exact ⟨ret_int hE.out.symm, (hW.alloc (by omega) _).alloc (by simp; omega) _⟩
                  by_cases f2 : (fn : Int) = gf
                  · have f2' : ((fn : Int) == gf) = true := by simpa using f2
                    by_cases f3 : lb ≤ gl
                    · have hE := hid (HNO.out fun ho => by have := HAF.out.1 ((HOK.out.1 ho).2.2 (by omega)); omega)
                      clear f2
                      go_wp2
                      go_ret
                      exact ⟨ret_int hE.out.symm, (hW.alloc (by omega) _).alloc (by simp; omega) _⟩
                    · have hok := hid (HOK.out.2 ⟨by omega, by omega, fun h => HAF.out.2 (by omega)⟩)
                      clear f2
                      go_wp2
                      go_roundg (gk - 1)
                      case measure => omega
                      case rel => exact ⟨jp + 1 + 1, by go_num, by omega, by omega, HOKS.out hok.out, rowIs_on (HSET.out _ (Below.refl _ _)).1.1 (((Below.refl _ _).alloc (Nat.le_refl _) _).alloc (by simp) _), rowIs_on (HSET.out _ (Below.refl _ _)).1.2 (((Below.refl _ _).alloc (Nat.le_refl _) _).alloc (by simp) _), onS (HSET.out _ (Below.refl _ _)).2 (((Below.refl _ _).alloc (Nat.le_refl _) _).alloc (by simp) _)⟩
                  · have f2' : ((fn : Int) == gf) = false := by simpa using f2
                    have hok := hid (HOK.out.2 ⟨by omega, by omega, fun h => HAF.out.2 (by omega)⟩)
                    go_wp2
                    go_roundg (gk - 1)
                    case measure => omega
                    case rel => exact ⟨jp + 1 + 1, by go_num, by omega, by omega, HOKS.out hok.out, rowIs_on (HSET.out _ (Below.refl _ _)).1.1 (((Below.refl _ _).alloc (Nat.le_refl _) _).alloc (by simp) _), rowIs_on (HSET.out _ (Below.refl _ _)).1.2 (((Below.refl _ _).alloc (Nat.le_refl _) _).alloc (by simp) _), onS (HSET.out _ (Below.refl _ _)).2 (((Below.refl _ _).alloc (Nat.le_refl _) _).alloc (by simp) _)⟩
              · have hltj' : ¬ (j : Int) < (T.el k : Int) := by omega
                have hje : j = T.el k := by omega
                have HALL3 : Hid (∀ i, i < T.el k → T.edgeOk k i) := by rw [← hje]; exact HALL2
                rw [hje] at hr1 hr2
                have hltj2 : ¬ (T.el k : Int) < (T.el k : Int) := by omega
                clear HR1 HR2 HALL2
                go_wp2
                go_loopg [11] n1 (fun gg iv wx => ∃ v : Nat, iv = .int .i64 (v : Nat) ∧ v ≤ n1 ∧ n1 ≤ v + gg ∧ (∀ i, i < v → hitB (T.fr k) (T.el k) (i : Nat) = true) ∧ Below wj.heap.size wj wx)
                case atStart => exact ⟨0, rfl, by omega, by omega, fun i hi => absurd hi (by omega), Below.refl _ _⟩
                case round =>
                  obtain ⟨v, rfl, hv, hvg, hall, hBv⟩ := hrel
                  have hv0 : (0 : Int) ≤ (v : Int) := by omega
                  have HA := hid hall
                  clear hall
                  by_cases hlv : v < n1
                  · have hlv' : (v : Int) < (n1 : Int) := by omega
                    have u0 := (rowIs_on hr1 hBv).cell (i := v) hlv
                    by_cases hh : hitB (T.fr k) (T.el k) (v : Nat) = true
                    · rw [hh] at u0
                      have HN : Hid (∀ i, i < v + 1 → hitB (T.fr k) (T.el k) (i : Nat) = true) := fun i hi => by
                        by_cases e : i = v
                        · subst e; exact hh
                        · exact HA.out i (by omega)
                      clear hh
                      go_wp2
                      go_roundg (gk - 1)
                      case measure => omega
                      case rel => exact ⟨v + 1, by go_num, by omega, by omega, HN.out, hBv⟩
                    · rw [Bool.eq_false_iff.2 hh] at u0
                      have hE := hid (HBAD.out fun hs => hh (hs.2.1 v (by have := HN1.out; omega)))
                      clear hh
                      have hWv := onS hW hBv
                      go_wp2
                      go_ret
                      exact ⟨ret_int hE.out.symm, hWv⟩
                  · have hlv' : ¬ (v : Int) < (n1 : Int) := by omega
                    have HA1 : Hid (∀ i, i < n1 → hitB (T.fr k) (T.el k) (i : Nat) = true) := fun i hi => HA.out i (by omega)
                    have HBv := hid hBv
                    clear hBv
                    go_wp2
                    go_loopg [12] n2 (fun gg iv wx => ∃ v : Nat, iv = .int .i64 (v : Nat) ∧ v ≤ n2 ∧ n2 ≤ v + gg ∧ (∀ i, i < v → hitB (T.to k) (T.el k) (i : Nat) = true) ∧ Below wj.heap.size wj wx)
                    case atStart => exact ⟨0, rfl, by omega, by omega, fun i hi => absurd hi (by omega), HBv.out⟩
                    case round =>
                      clear hv hvg hv0 hlv hlv' HBv
                      obtain ⟨v2, rfl, hv, hvg, hall, hBv⟩ := hrel
                      have hv0 : (0 : Int) ≤ (v2 : Int) := by omega
                      have HA2 := hid hall
                      clear hall
                      have hWv := onS hW hBv
                      by_cases hlv : v2 < n2
                      · have hlv' : (v2 : Int) < (n2 : Int) := by omega
                        have u0 := (rowIs_on hr2 hBv).cell (i := v2) hlv
                        by_cases hh : hitB (T.to k) (T.el k) (v2 : Nat) = true
                        · rw [hh] at u0
                          have HN : Hid (∀ i, i < v2 + 1 → hitB (T.to k) (T.el k) (i : Nat) = true) := fun i hi => by
                            by_cases e : i = v2
                            · subst e; exact hh
                            · exact HA2.out i (by omega)
                          clear hh
                          go_wp2
                          go_roundg (gk - 1)
                          case measure => omega
                          case rel => exact ⟨v2 + 1, by go_num, by omega, by omega, HN.out, hBv⟩
                        · rw [Bool.eq_false_iff.2 hh] at u0
                          have hE := hid (HBAD.out fun hs => hh (hs.2.2 v2 (by have := HN2.out; omega)))
                          clear hh
                          go_wp2
                          go_ret
                          exact ⟨ret_int hE.out.symm, hWv⟩
                      · have hlv' : ¬ (v2 : Int) < (n2 : Int) := by omega
                        have HN : Hid (∀ i, i < k + 1 → T.secOk i) := fun i hi => by
                          by_cases e : i = k
                          · subst e; exact ⟨HALL3.out, fun v hv => HA1.out v (by have := HN1.out; omega), fun v hv => HA2.out v (by have := HN2.out; omega)⟩
                          · exact HALL.out i (by omega)
                        have HFIN := hid (tbox_on (tbox_on HB.out HBj.out) hBv)
                        go_wp2
                        go_roundg (gK - 1)
                        case measure => omega
                        case rel => exact ⟨k + 1, by go_num, by omega, by omega, HN.out, HFIN.out⟩
          · have hlt' : ¬ (k : Int) < (T.n : Int) := by omega
            have hE := hid (T.properE_ok HS0.out HW0.out HWN.out fun i hi => HALL.out i (by omega))
            go_wp2
            go_ret
            exact ⟨ret_int hE.out.symm, hW⟩
      · have c1 : (u1 != 1) = true := by simp [h1]
        have hE := hid (T.properE_end HS0.out (.inr (by rw [← HU1.out]; exact h1)))
        go_wp2
        go_ret
        exact ⟨ret_int hE.out.symm, hW⟩
    · have c0 : (u0 != 1) = true := by simp [h0]
      have hE := hid (T.properE_end HS0.out (.inl (by rw [← HU0.out]; exact h0)))
      go_wp2
      go_ret
      exact ⟨ret_int hE.out.symm, hW⟩
  · have hE := hid (Trel.properE_shape hs)
    have hn : (T.shapeE != 0) = true := by simpa using hs
    obtain ⟨x, hx⟩ : ∃ x, x = T.shapeE := ⟨_, rfl⟩
    rw [← hx] at hE hn ⊢
    clear hs hx
    go_wp2
    go_ret
    exact ⟨ret_int hE.out.symm, hW⟩
end Go.Proofs.Ytnocbkhnmdmfhaa
