/- viterbi.along: the least label of the paths of least cost. -/
import Derived.Test.YtnocbkhnmdmfhaaIVals
import Derived.Test.YtnocbkhnmdmfhaaBwdMath
namespace Go.Proofs.Ytnocbkhnmdmfhaa
open Go.RowKit

/-- A word of one's own and its cost. -/
def AlongPost (T : Trel) (y : Nat → Nat → Int) (w : World) (e : Ending) (w' : World) : Prop :=
  ∃ gw, e = .returned (.tuple #[.slice (some ⟨gw, 0, none⟩) T.n T.n, .int .i64 (T.bw y T.n 0)]) ∧ w'.rowIs gw 3 T.n (fun i => .int .i64 (T.wd y i)) ∧ w.heap.size ≤ gw ∧ Below w.heap.size w w'
theorem Costs.of {T : Trel} {M : Nat} {ln : Nat → Nat} {C : Nat → Nat → Int} (hM : M = T.n) (hF : T.Fit ln) (hC : ∀ i, i < M → ∀ a, a < ln i → 0 ≤ C i a ∧ C i a ≤ 2147483648) : Costs T (T.yOf C) := fun i hi j hj => by
  have := hF i hi j hj
  exact hC i (by omega) _ (by omega)
set_option maxRecDepth 100000 in
set_option maxHeartbeats 16000000 in
theorem along_any (T : Trel) (A B CA : Option Addr) (c d M cc : Nat) (ln : Nat → Nat) (C : Nat → Nat → Int) (w : World) (h : T.Reads w A B) (hP : T.Proper) (hSE : T.shapeE = 0) (hC : IntRows w CA M ln C) (hM : M = T.n) (hF : T.Fit ln) (hpr : ∀ i, i < M → ∀ a, a < ln i → 0 ≤ C i a ∧ C i a ≤ 2147483648) :
    Calls Try.prog 42 #[.agg #[.slice A T.nw c, .slice B T.n d], .slice CA M cc] w (AlongPost T (T.yOf C) w) := by
  have HY := hid (Costs.of hM hF hpr)
  obtain ⟨y, hy⟩ : ∃ y, y = T.yOf C := ⟨_, rfl⟩
  have HYC := hid hy
  rw [← hy] at HY ⊢
  obtain ⟨O1, hO1⟩ : ∃ o, o = (Obj.cells #[.slice A T.nw c, .slice B T.n d] 25) := ⟨_, rfl⟩
  obtain ⟨O2, hO2⟩ : ∃ o, o = (Obj.cells #[.slice CA M cc] 26) := ⟨_, rfl⟩
  have hB0 : Below (w.heap.size + 2) ((w.alloc O1).alloc O2) ((w.alloc O1).alloc O2) := Below.refl _ _
  have HS : Hid (∀ w', Below (w.heap.size + 2) ((w.alloc O1).alloc O2) w' → (w'.cell? ⟨w.heap.size, 0, none⟩ = some (.slice A T.nw c) ∧ w'.cell? ⟨w.heap.size, 1, none⟩ = some (.slice B T.n d)) ∧ w'.cell? ⟨w.heap.size + 1, 0, none⟩ = some (.slice CA M cc) ∧ Below w.heap.size w w') := fun w' hB => by
    have hB' := two_below hB
    have hB1 := box2_one hB
    subst hO2
    have hr := box2_two hB
    subst hO1
    exact ⟨⟨tbox hB1 rfl, tbox hB1 rfl⟩, hr.cell (i := 0) (by simp), hB'⟩
  obtain ⟨⟨p0, p1⟩, p2, hW⟩ := HS.out _ hB0
  have HR := hid h
  have HP := hid hP
  have HSE := hid hSE
  have HC := hid hC
  have HM := hid hM
  have HF := hid hF
  clear h hP hSE hC hM hF hpr hy
  go_enter Try.func42, Try.ntmps42
  go_wp2_with fail
  rw [← hO1, ← hO2]
  refine (valsI_any T A B CA c d M cc (w.heap.size + 1) ln C _ (HR.out.on hW) HP.out.shape (HC.out.on hW) HM.out HF.out p2).mono ?_
  rintro e w1 ⟨g1, F1, rfl, hg1, hT1, kb⟩
  have hB1 := two_on hB0 kb
  rw [← HYC.out] at hT1
  clear p0 p1 p2 hW kb hB0 hO1 hO2 hg1
  obtain ⟨⟨p0, p1⟩, p2, hW⟩ := HS.out _ hB1
  have hrows := hT1.rows fun i hi j hj => by have := HY.out i hi j hj; omega
  go_wp2_with fail
  refine (backI_any T A B (some ⟨g1, 0, none⟩) c d T.n y w1 (HR.out.on hW) HSE.out hrows HY.out).mono ?_
  rintro e w2 ⟨g2, F2, rfl, hg2, hT2, kb⟩
  have hB2 := two_on hB1 kb
  replace hT1 := hT1.on kb
  clear p0 p1 p2 hW kb hB1 hrows hg2
  obtain ⟨⟨p0, p1⟩, p2, hW⟩ := HS.out _ hB2
  have hl2 := two_lt hB2
  have hn64 := HP.out.shape.n64
  have hmk := fun W => run_makeI (P := Try.prog) 22 3 _ 8 Try.underlying22 Try.infoInt rfl (T.n : Int) (by omega) (by omega) (by omega) W
  simp only [Int.toNat_natCast] at hmk
  have HT1 := hid hT1
  have HT2 := hid hT2
  have HP1 := hid p1
  have HW2 := hid hW
  have hl2' : w.heap.size < w2.heap.size := by omega
  clear hT1 hT2
  go_upto_region 5 with fail
  have hr3 := World.rowIs_made w2 (.int .i64 0) T.n 3
  have kb3 : Below w2.heap.size w2 (w2.alloc (Obj.cells (madeCells #[Value.int .i64 0] T.n) 3)) := (Below.refl _ _).alloc (Nat.le_refl _) _
  obtain ⟨w3, hw3⟩ : ∃ W, W = w2.alloc (Obj.cells (madeCells #[Value.int .i64 0] T.n) 3) := ⟨_, rfl⟩
  obtain ⟨gw, hgw⟩ : ∃ b, b = w2.heap.size := ⟨_, rfl⟩
  have HGW := hid hgw
  rw [← hgw] at hr3
  rw [← hw3] at hr3 kb3 ⊢
  rw [← hgw]
  replace p1 := cellS kb3 p1
  have hr4 : w3.rowIs gw 3 T.n (fun i => .int .i64 (if i < 0 then T.wd y i else 0)) := hr3.congr fun i _ => by rw [if_neg (by omega)]
  clear hw3 hgw hmk hr3 p0 p2 hB2
  go_wp2
  go_loopg [10, 32] T.n (fun gg vv iv wx => ∃ k : Nat, iv = .int .i64 (k : Nat) ∧ k ≤ T.n ∧ T.n ≤ k + gg ∧ vv = .int .i64 (T.nd y k : Nat) ∧ Hid ((T.nd y k : Int) < T.W k) ∧ wx.rowIs gw 3 T.n (fun i => .int .i64 (if i < k then T.wd y i else 0)) ∧ Below w2.heap.size w2 wx)
  case atStart => exact ⟨0, rfl, by omega, by omega, rfl, by show (0 : Int) < T.W 0; have := HP.out.w0; omega, hr4, kb3⟩
  case round =>
    clear p1 hr4 kb3
    obtain ⟨gK, hgK⟩ : ∃ g, g = gk := ⟨_, rfl⟩
    subst hgK
    obtain ⟨k, rfl, hk, hkg, rfl, HV, hrow, hB⟩ := hrel
    have hk0 : (0 : Int) ≤ (k : Int) := by omega
    obtain ⟨v, hv⟩ : ∃ v, v = T.nd y k := ⟨_, rfl⟩
    have HVN := hid hv
    rw [← hv] at HV ⊢
    clear hv
    by_cases hlt : k < T.n
    · have hlt' : (k : Int) < (T.n : Int) := by omega
      obtain ⟨eb, eo, E, ec, rfl, heb, x0w, he1, he2, he3, he4⟩ := HR.out.sec hlt
      have hW3 := onS HW2.out hB
      have x0 := cellS hW3 x0w
      have hel := HP.out.shape.elb hlt
      have HEX := hid (Trel.lp_ex HP.out HY.out hlt HV.out)
      obtain ⟨n1, hn1⟩ : ∃ n : Nat, n = T.el k := ⟨_, rfl⟩
      rw [← hn1] at x0 hel
      have HN1 := hid hn1
      have HE3 := hid he3
      clear hn1 he3 he4 x0w he1 he2 hW3
      go_wp2
      go_loopg [10, 39] n1 (fun gg vv jv wx => ∃ j : Nat, vv = .int .i64 (v : Nat) ∧ jv = .int .i64 (j : Nat) ∧ j ≤ n1 ∧ n1 ≤ j + gg ∧ Hid (∀ q, q < j → T.lp y k v q = false) ∧ wx.rowIs gw 3 T.n (fun i => .int .i64 (if i < k then T.wd y i else 0)) ∧ Below w2.heap.size w2 wx)
      case atStart => exact ⟨0, rfl, rfl, by omega, by omega, fun q hq => absurd hq (by omega), hrow, hB⟩
      case round =>
        clear x0 hrow hB
        obtain ⟨j, rfl, rfl, hj, hjg, HN, hrow, hB⟩ := hrel
        have hj0 : (0 : Int) ≤ (j : Int) := by omega
        by_cases hltj : j < n1
        · have hltj' : (j : Int) < (n1 : Int) := by omega
          have hjel : j < T.el k := by rw [← HN1.out]; exact hltj
          have hW := onS HW2.out hB
          obtain ⟨fb, fo, rfl, hfb, e0, e1, e2⟩ := edge_at ((Rd.below HE3.out hW (Nat.le_refl _)).mono hW.size) hjel
          obtain ⟨i1, i2, i3, i4⟩ := HP.out.shape.ins k hlt j hjel
          obtain ⟨fn, hfn⟩ : ∃ n : Nat, (n : Int) = T.fr k j := ⟨(T.fr k j).toNat, by omega⟩
          obtain ⟨tn, htn⟩ : ∃ n : Nat, (n : Int) = T.to k j := ⟨(T.to k j).toNat, by omega⟩
          have hkw : k < T.nw := by have := HP.out.shape.nw; omega
          have hk1 : k + 1 < T.nw := by have := HP.out.shape.nw; omega
          obtain ⟨ab, ao, ad, hFa, hab, habl, aq, _⟩ := (HT2.out.on hB).at (v := k) hkw (k := v) (by have := HV.out; omega)
          obtain ⟨bb, bo, bd, hFb, hbb, hbbl, bq, _⟩ := (HT2.out.on hB).at (v := k + 1) hk1 (k := tn) (by omega)
          obtain ⟨cb, co, cd, hFc, hcb, hcbl, cq, _⟩ := (HT1.out.on hB).at (v := k) hlt (k := j) hjel
          have hrow1 := (HT2.out.on hB).row.cell hkw
          have hrow2 := (HT2.out.on hB).row.cell hk1
          have hrow3 := (HT1.out.on hB).row.cell hlt
          rw [hFa] at hrow1
          rw [hFb] at hrow2
          rw [hFc] at hrow3
          change wr.cell? ⟨g2, k, none⟩ = some (.slice (some ⟨ab, ao, none⟩) (T.W k).toNat ad) at hrow1
          change wr.cell? ⟨g2, k + 1, none⟩ = some (.slice (some ⟨bb, bo, none⟩) (T.W (k + 1)).toNat bd) at hrow2
          have d1 := Trel.bw_cost HY.out (T.n - k) (by omega) v
          have d2 := Trel.bw_cost HY.out (T.n - (k + 1)) (by omega) tn
          have d3 := HY.out k hlt j hjel
          have HLP : Hid (T.lp y k v j = ((T.fr k j == (v : Int)) && (y k j + T.bw y (T.n - (k + 1)) tn == T.bw y (T.n - k) v))) := by
            show T.lp y k v j = _
            unfold Trel.lp
            rw [show (T.to k j).toNat = tn by omega]
          obtain ⟨av, hav⟩ : ∃ z, z = T.bw y (T.n - k) v := ⟨_, rfl⟩
          obtain ⟨bv, hbv⟩ : ∃ z, z = T.bw y (T.n - (k + 1)) tn := ⟨_, rfl⟩
          obtain ⟨yv, hyv⟩ : ∃ z, z = y k j := ⟨_, rfl⟩
          obtain ⟨lb, hlb⟩ : ∃ z, z = T.lb k j := ⟨_, rfl⟩
          obtain ⟨n2, hn2⟩ : ∃ n, n = (T.W k).toNat := ⟨_, rfl⟩
          obtain ⟨n3, hn3⟩ : ∃ n, n = (T.W (k + 1)).toNat := ⟨_, rfl⟩
          have htl : tn < n3 := by omega
          have hvl : v < n2 := by have := HV.out; omega
          rw [← hav] at aq d1 HLP
          rw [← hbv] at bq d2 HLP
          rw [← hyv] at cq d3 HLP
          rw [← hfn] at e0 HLP
          rw [← hlb] at e1
          rw [← htn] at e2
          rw [← hn2] at hrow1
          rw [← hn3] at hrow2
          rw [← HN1.out] at hrow3
          have HTN : Hid (tn = (T.to k j).toNat) := by show tn = _; omega
          have HLB := hid hlb
          have HTW : Hid ((tn : Int) < T.W (k + 1)) := by show (tn : Int) < _; omega
          unfold Cost at d1 d2
          have hwk1 : IntKind.i64.wrap ((k : Int) + 1) = (k : Int) + 1 := IntWalk.i64_in _ (by omega)
          have hws : IntKind.i64.wrap (yv + bv) = yv + bv := IntWalk.i64_in _ (by omega)
          have htl' : (tn : Int) < (n3 : Int) := by omega
          have hvl' : (v : Int) < (n2 : Int) := by omega
          have ht0 : (0 : Int) ≤ (tn : Int) := by omega
          have hv0 : (0 : Int) ≤ (v : Int) := by omega
          have hk1' : (k : Int) + 1 < (T.nw : Int) := by omega
          have hkw' : (k : Int) < (T.nw : Int) := by omega
          have hk01 : (0 : Int) ≤ (k : Int) + 1 := by omega
          clear hFa hFb hFc hav hbv hyv hlb hfn htn i1 i2 i3 i4 hn2 hn3 hW d1 d2 d3
          go_upto_region 11 with fail
          obtain ⟨OB, hOB⟩ : ∃ o, o = (Obj.cells #[.int .i64 (fn : Int), .int .i64 lb, .int .i64 (tn : Int)] 72) := ⟨_, rfl⟩
          have hq : ∀ i v, (#[Value.int .i64 (fn : Int), .int .i64 lb, .int .i64 (tn : Int)] : Array Value)[i]? = some v → (wr.alloc OB).cell? ⟨wr.heap.size, i, none⟩ = some v := fun i v hv => by subst hOB; exact tbox (Below.refl _ _) hv
          have s0 := hq 0 _ rfl
          have s1 := hq 1 _ rfl
          have s2 := hq 2 _ rfl
          have kb : Below wr.heap.size wr (wr.alloc OB) := (Below.refl _ _).alloc (Nat.le_refl _) _
          rw [← hOB]
          obtain ⟨w50, hw50⟩ : ∃ W, W = wr.alloc OB := ⟨_, rfl⟩
          rw [← hw50] at s0 s1 s2 kb ⊢
          have hxg : wr.heap.size ≠ gw := by have := hrow.lt; omega
          replace hB := onS hB kb
          replace hrow := rowIs_on hrow kb
          replace aq := cellS kb aq
          replace bq := cellS kb bq
          replace cq := cellS kb cq
          replace hrow1 := cellS kb hrow1
          replace hrow2 := cellS kb hrow2
          replace hrow3 := cellS kb hrow3
          obtain ⟨bx, hbx2⟩ : ∃ b, b = wr.heap.size := ⟨_, rfl⟩
          rw [← hbx2] at s0 s1 s2 hxg ⊢
          clear hq hw50 hOB kb e0 e1 e2 hbx2 hfb
          by_cases hfv : (fn : Int) = (v : Int)
          · have b1 : ((fn : Int) == (v : Int)) = true := by simpa using hfv
            rw [b1, Bool.true_and] at HLP
            clear hfv
            by_cases hsm : yv + bv = av
            · have b2 : (yv + bv == av) = true := by simpa using hsm
              rw [b2] at HLP
              have HND : Hid (T.nd y (k + 1) = tn ∧ T.wd y k = lb) := by
                have := Trel.nd_step (T := T) (y := y) (i := k) (j := j) hjel (by rw [← HVN.out]; exact HLP.out) (by rw [← HVN.out]; exact HN.out)
                rw [← HTN.out, ← HLB.out] at this
                exact this
              clear hsm
              go_wp2
              go_quiet (fail)
              go_upto_region 12 with fail
              obtain ⟨w51, hw51⟩ : ∃ W, W = w50.drewN nq := ⟨_, rfl⟩
              have kb : Below w50.heap.size w50 w51 := by rw [hw51]; exact below_drewN (Below.refl _ _) _
              rw [← hw51]
              replace hB := onS hB kb
              replace hrow := rowIs_on hrow kb
              replace s1 := cellS kb s1
              replace s2 := cellS kb s2
              clear kb hw51 aq bq cq hrow1 hrow2 hrow3 s0 b1 b2 hws
              refine wp_region_held_drew (S := fun w' => w'.cell? ⟨bx, 1, none⟩ = some (.int .i64 lb) ∧ w'.cell? ⟨bx, 2, none⟩ = some (.int .i64 (tn : Int))) (by kernel_rfl) ⟨cellS (Below.refl _ _).drew s1, cellS (Below.refl _ _).drew s2⟩ (fun hHeld => ?_)
              obtain ⟨w52, hw⟩ : ∃ W, W = World.drew w51 := ⟨_, rfl⟩
              have kb : Below w51.heap.size w51 w52 := by rw [hw]; exact (Below.refl _ _).drew
              rw [← hw] at hHeld ⊢
              clear hw
              replace hB := onS hB kb
              replace s1 := cellS kb s1
              replace s2 := cellS kb s2
              replace hrow := rowIs_on hrow kb
              clear kb
              refine wpAnyH_take (i := 0) (v := ?_) (by simp only [List.getElem?_toArray, List.getElem?_cons_zero]; rfl) (by kernel_rfl) (by kernel_rfl) (by kernel_rfl) (by exact fun _ _ _ h => h) (Or.inl ⟨by rfl, ?_⟩) (by assumption) ?_
              rotate_left
              · (intro w hSw; (try dsimp only at hSw); go_simp); first | done | with_reducible rfl
              try simp only [Act.put, List.setIfInBounds_toArray, List.set_cons_zero, List.set_cons_succ]
              refine wpAnyH_take (i := 1) (v := ?_) (by simp only [List.getElem?_toArray, List.getElem?_cons_succ, List.getElem?_cons_zero]; rfl) (by kernel_rfl) (by kernel_rfl) (by kernel_rfl) (by exact fun _ _ _ h => h) (Or.inl ⟨by rfl, ?_⟩) (by assumption) ?_
              rotate_left
              · (intro w hSw; (try dsimp only at hSw); go_simp); first | done | with_reducible rfl
              try simp only [Act.put, List.setIfInBounds_toArray, List.set_cons_zero, List.set_cons_succ]
              refine wpAnyH_take (i := 2) (v := ?_) (by simp only [List.getElem?_toArray, List.getElem?_cons_succ, List.getElem?_cons_zero]; rfl) (by kernel_rfl) (by kernel_rfl) (by kernel_rfl) (by exact fun _ _ _ h => h) (Or.inl ⟨by rfl, ?_⟩) (by assumption) ?_
              rotate_left
              · (intro w hSw; (try dsimp only at hSw); go_simp); first | done | with_reducible rfl
              try simp only [Act.put, List.setIfInBounds_toArray, List.set_cons_zero, List.set_cons_succ]
              refine wpAnyH_take (i := 3) (v := ?_) (by simp only [List.getElem?_toArray, List.getElem?_cons_succ, List.getElem?_cons_zero]; rfl) (by kernel_rfl) (by kernel_rfl) (by kernel_rfl) (by exact fun _ _ _ h => h) (Or.inl ⟨by rfl, ?_⟩) (by assumption) ?_
              rotate_left
              · (intro w hSw; (try dsimp only at hSw); go_simp); first | done | with_reducible rfl
              try simp only [Act.put, List.setIfInBounds_toArray, List.set_cons_zero, List.set_cons_succ]
              refine wpAnyH_take (i := 4) (v := ?_) (by simp only [List.getElem?_toArray, List.getElem?_cons_succ, List.getElem?_cons_zero]; rfl) (by kernel_rfl) (by kernel_rfl) (by kernel_rfl) (by exact fun _ _ _ h => h) (Or.inl ⟨by rfl, ?_⟩) (by assumption) ?_
              rotate_left
              · (intro w hSw; (try dsimp only at hSw); go_simp); first | done | with_reducible rfl
              try simp only [Act.put, List.setIfInBounds_toArray, List.set_cons_zero, List.set_cons_succ]
              refine wpAnyH_take (i := 5) (v := ?_) (by simp only [List.getElem?_toArray, List.getElem?_cons_succ, List.getElem?_cons_zero]; rfl) (by kernel_rfl) (by kernel_rfl) (by kernel_rfl) (by exact fun _ _ _ h => h) (Or.inl ⟨by rfl, ?_⟩) (by assumption) ?_
              rotate_left
              · (intro w hSw; (try dsimp only at hSw); go_simp); first | done | with_reducible rfl
              try simp only [Act.put, List.setIfInBounds_toArray, List.set_cons_zero, List.set_cons_succ]
              refine wpAnyH_take (i := 6) (v := ?_) (by simp only [List.getElem?_toArray, List.getElem?_cons_succ, List.getElem?_cons_zero]; rfl) (by kernel_rfl) (by kernel_rfl) (by kernel_rfl) (by exact fun _ _ _ h => h) (Or.inl ⟨by rfl, ?_⟩) (by assumption) ?_
              rotate_left
              · (intro w hSw; (try dsimp only at hSw); go_simp); first | done | with_reducible rfl
              try simp only [Act.put, List.setIfInBounds_toArray, List.set_cons_zero, List.set_cons_succ]
              refine wpAnyH_ready (rs := [7]) (by kernel_rfl) (by simp) ?_
              refine AllReadyH.cons (by simp only [List.getElem?_toArray, List.getElem?_cons_succ, List.getElem?_cons_zero]; rfl) (fun K hK => ?_) AllReadyH.nil
              have q0 := hrow.cell hlt
              have z0 := hrow.frozen k
              go_simp
              replace s1 := cell_setCell_far (p := ⟨gw, k, none⟩) (u := .int .i64 lb) s1 hxg
              replace s2 := cell_setCell_far (p := ⟨gw, k, none⟩) (u := .int .i64 lb) s2 hxg
              have hr9 := hid (hrow.set k (.int .i64 lb))
              have hB9 := hid (hB.setCell (p := ⟨gw, k, none⟩) (by show w2.heap.size ≤ gw; rw [HGW.out]; exact Nat.le_refl _) (.int .i64 lb))
              clear q0 z0
              refine hK.out _ _ ⟨s1, s2⟩ (fun hHeld => ?_)
              clear hK K
              try simp only [Act.put, List.setIfInBounds_toArray, List.set_cons_zero, List.set_cons_succ]
              refine wpAnyH_take (i := 8) (v := ?_) (by simp only [List.getElem?_toArray, List.getElem?_cons_succ, List.getElem?_cons_zero]; rfl) (by kernel_rfl) (by kernel_rfl) (by kernel_rfl) (by exact fun _ _ _ h => h) (Or.inl ⟨by rfl, ?_⟩) (by assumption) ?_
              rotate_left
              · (intro w hSw; (try dsimp only at hSw); go_simp); first | done | with_reducible rfl
              try simp only [Act.put, List.setIfInBounds_toArray, List.set_cons_zero, List.set_cons_succ]
              refine wpAnyH_done (by kernel_rfl) ?_ _
              clear hHeld
              have hr10 := hid (hr9.out.congr (g := fun i => .int .i64 (if i < k + 1 then T.wd y i else 0)) fun i _ => by
                  by_cases e : i = k
                  · subst e; rw [if_pos rfl, if_pos (Nat.lt_succ_self _), HND.out.2]
                  · rw [if_neg e]
                    by_cases e2 : i < k
                    · rw [if_pos e2, if_pos (by omega)]
                    · rw [if_neg e2, if_neg (by omega)])
              have HVF : Hid ((T.nd y (k + 1) : Int) < T.W (k + 1)) := by rw [HND.out.1]; exact HTW
              clear hr9 hB hrow s1 s2
              go_wp2
              go_roundg (gK - 1)
              case measure => omega
              case rel => exact ⟨k + 1, by go_num, by omega, by omega, by rw [HND.out.1], HVF, hr10.out, hB9.out⟩
            · have b2 : (yv + bv == av) = false := by simpa using hsm
              rw [b2] at HLP
              have HN2 : Hid (∀ q, q < j + 1 → T.lp y k v q = false) := fun q hq => by
                by_cases e : q = j
                · subst e; exact HLP.out
                · exact HN.out q (by omega)
              clear hsm
              go_wp2
              go_quiet (fail)
              go_wp2
              go_roundg (gk - 1)
              case measure => omega
              case rel => exact ⟨j + 1, rfl, by go_num, by omega, by omega, HN2, rowIs_on hrow (below_drewN (Below.refl _ _) _), below_drewN hB _⟩
          · have b1 : ((fn : Int) == (v : Int)) = false := by simpa using hfv
            rw [b1, Bool.false_and] at HLP
            have HN2 : Hid (∀ q, q < j + 1 → T.lp y k v q = false) := fun q hq => by
              by_cases e : q = j
              · subst e; exact HLP.out
              · exact HN.out q (by omega)
            clear hfv
            go_wp2
            go_quiet (fail)
            go_wp2
            go_roundg (gk - 1)
            case measure => omega
            case rel => exact ⟨j + 1, rfl, by go_num, by omega, by omega, HN2, rowIs_on hrow (below_drewN (Below.refl _ _) _), below_drewN hB _⟩
        · exfalso
          obtain ⟨q, hq, hq2⟩ := HEX.out
          have := HN.out q (by have := HN1.out; omega)
          rw [this] at hq2
          cases hq2
    · have hlt' : ¬ (k : Int) < (T.n : Int) := by omega
      obtain rfl : k = T.n := by omega
      have hnw0 : 0 < T.nw := by have := HP.out.shape.nw; omega
      have hw0 := HP.out.w0
      obtain ⟨ab, ao, ad, hFa, hab, habl, aq, _⟩ := (HT2.out.on hB).at (v := 0) hnw0 (k := 0) (by show 0 < (T.W 0).toNat; omega)
      have hrow1 := (HT2.out.on hB).row.cell hnw0
      rw [hFa] at hrow1
      change wr.cell? ⟨g2, 0, none⟩ = some (.slice (some ⟨ab, ao, none⟩) (T.W 0).toNat ad) at hrow1
      obtain ⟨n2, hn2⟩ : ∃ n, n = (T.W 0).toNat := ⟨_, rfl⟩
      rw [← hn2] at hrow1
      rw [Nat.add_zero, Nat.sub_zero] at aq
      obtain ⟨av, hav⟩ : ∃ z, z = T.bw y T.n 0 := ⟨_, rfl⟩
      have HAV := hid hav
      rw [← hav] at aq
      have hn2' : (0 : Int) < (n2 : Int) := by omega
      have hnw0' : (0 : Int) < (T.nw : Int) := by omega
      have hrowf := hid (hrow.congr (g := fun i => .int .i64 (T.wd y i)) fun i hi => by rw [if_pos hi])
      have hWf := hid (onS HW2.out hB)
      have hgz : Hid (w.heap.size ≤ gw) := by show _ ≤ gw; rw [HGW.out]; omega
      clear hFa hn2 hav hw0 hrow HVN HV
      go_wp2
      go_quiet (fail)
      go_wp2
      go_ret2
      exact ⟨gw, by rw [← HAV.out]; rfl, rowIs_on hrowf.out (below_drewN (Below.refl _ _) _), hgz.out, below_drewN hWf.out _⟩
end Go.Proofs.Ytnocbkhnmdmfhaa
