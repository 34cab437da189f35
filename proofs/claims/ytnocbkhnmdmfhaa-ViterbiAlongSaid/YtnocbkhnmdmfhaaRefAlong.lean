/- codewrightref49.Along: the least label of the paths of least cost. -/
import Derived.Test.YtnocbkhnmdmfhaaAlong
import Derived.Test.YtnocbkhnmdmfhaaRefBack
import Derived.Test.YtnocbkhnmdmfhaaDownMem
namespace Go.Proofs.Ytnocbkhnmdmfhaa
open Go.RowKit

/-- A word of one's own and its cost. -/
def RefAlongPost (T : Trel) (y : Nat → Nat → Int) (w : World) (e : Ending) (w' : World) : Prop :=
  Below w.heap.size w w' ∧ ∃ v, e = .returned (.tuple #[v, .int .i64 (T.bw y T.n 0)]) ∧ OwnL w' w.heap.size v (pre (T.wd y) T.n)
/-- The state in a section: nothing found yet, or the first edge of the least path. -/
def Pick (T : Trel) (y : Nat → Nat → Int) (k j : Nat) (w : World) (b : Nat) (wv nv : Value) : Prop :=
  ((∀ q, q < j → T.lp y k (T.nd y k) q = false) ∧ nv = .int .i64 (-1) ∧ OwnL w b wv (pre (T.wd y) k)) ∨
  ((∃ q, q < j ∧ T.lp y k (T.nd y k) q = true) ∧ nv = .int .i64 (T.nd y (k + 1) : Nat) ∧ OwnL w b wv (pre (T.wd y) (k + 1)))
theorem Trel.nd_lt {T : Trel} {y : Nat → Nat → Int} (hP : T.Proper) (hy : Costs T y) : ∀ i, i ≤ T.n → (T.nd y i : Int) < T.W i := by
  intro i
  induction i with
  | zero => intro _; show (0 : Int) < T.W 0; have := hP.w0; omega
  | succ i ih =>
    intro hi
    obtain ⟨j, hj, hp⟩ := Trel.lp_ex hP hy (i := i) (v := T.nd y i) (by omega) (ih (by omega))
    have hf : firstOf (T.lp y i (T.nd y i)) (T.el i) < T.el i := by
      unfold firstOf
      cases h : (List.range (T.el i)).find? (T.lp y i (T.nd y i)) with
      | none =>
        rw [List.find?_eq_none] at h
        exact absurd hp (h j (List.mem_range.2 hj))
      | some q => exact List.mem_range.1 (List.mem_of_find?_eq_some h)
    have h2 := hP.shape.ins i (by omega) _ hf
    unfold Trel.inside at h2
    show ((T.to i (firstOf (T.lp y i (T.nd y i)) (T.el i))).toNat : Int) < _
    omega
set_option maxRecDepth 100000 in
set_option maxHeartbeats 16000000 in
theorem refAlong_any (T : Trel) (A B CA : Option Addr) (c d M cc : Nat) (ln : Nat → Nat) (C : Nat → Nat → Int) (w : World) (h : T.Reads w A B) (hP : T.Proper) (hSE : T.shapeE = 0) (hC : IntRows w CA M ln C) (hM : M = T.n) (hF : T.Fit ln) (hpr : ∀ i, i < M → ∀ a, a < ln i → 0 ≤ C i a ∧ C i a ≤ 2147483648) :
    Calls Try.prog 14 #[.agg #[.slice A T.nw c, .slice B T.n d], .slice CA M cc] w (RefAlongPost T (T.yOf C) w) := by
  have HY := hid (Costs.of hM hF hpr)
  obtain ⟨y, hy⟩ : ∃ y, y = T.yOf C := ⟨_, rfl⟩
  have HYC := hid hy
  rw [← hy] at HY ⊢
  obtain ⟨RB, hRB⟩ : ∃ o, o = (Obj.cells #[.slice A T.nw c, .slice B T.n d] 25) := ⟨_, rfl⟩
  have hB0 : Below (w.heap.size + 1) (w.alloc RB) (w.alloc RB) := Below.refl _ _
  have HS : Hid (∀ w', Below (w.heap.size + 1) (w.alloc RB) w' → (w'.cell? ⟨w.heap.size, 0, none⟩ = some (.slice A T.nw c) ∧ w'.cell? ⟨w.heap.size, 1, none⟩ = some (.slice B T.n d)) ∧ Below w.heap.size w w') := fun w' hB => by
    have hB' := tbox_below hB
    subst hRB
    exact ⟨⟨tbox hB rfl, tbox hB rfl⟩, hB'⟩
  obtain ⟨⟨p0, p1⟩, hW⟩ := HS.out _ hB0
  have HR := hid h
  have HP := hid hP
  have HSE := hid hSE
  have HC := hid hC
  have HM := hid hM
  have HF := hid hF
  clear h hP hSE hC hM hF hpr hy
  go_enter Try.func14, Try.ntmps14
  go_wp2_with fail
  rw [← hRB]
  refine (refVals_any T A B CA c d M cc ln C _ (HR.out.on hW) HP.out.shape (HC.out.on hW) HM.out HF.out).mono ?_
  rintro e w1 ⟨g1, F1, rfl, hg1, hT1, kb⟩
  have hB1 := tbox_on hB0 kb
  rw [← HYC.out] at hT1
  clear p0 p1 hW kb hB0 hRB hg1
  obtain ⟨⟨p0, p1⟩, hW⟩ := HS.out _ hB1
  have hrows := hT1.rows fun i hi j hj => by have := HY.out i hi j hj; omega
  go_wp2_with fail
  refine (refBack_any T A B (some ⟨g1, 0, none⟩) c d T.n y w1 (HR.out.on hW) HSE.out hrows HY.out).mono ?_
  rintro e w2 ⟨g2, F2, rfl, hg2, hT2, kb⟩
  have hB2 := tbox_on hB1 kb
  replace hT1 := hT1.on kb
  clear p0 p1 hW kb hB1 hrows hg2
  obtain ⟨⟨p0, p1⟩, hW⟩ := HS.out _ hB2
  have hl2 := tbox_lt hB2
  have hn64 := HP.out.shape.n64
  have HT1 := hid hT1
  have HT2 := hid hT2
  have HP1 := hid p1
  have HW2 := hid hW
  clear hT1 hT2
  go_upto_region 4 with fail
  have hL0 : OwnL (w2.alloc (Obj.cells #[] 3)) w2.heap.size (.slice (some ⟨w2.heap.size, 0, none⟩) 0 0) (pre (T.wd y) 0) := .inr ⟨w2.heap.size, 0, 0, #[], rfl, Nat.le_refl _, heap_new_at rfl, Nat.le_refl _, by unfold maxLen; omega, by simp, fun i hi => absurd hi (by simp [pre])⟩
  have kb3 : Below w2.heap.size w2 (w2.alloc (Obj.cells #[] 3)) := (Below.refl _ _).alloc (Nat.le_refl _) _
  obtain ⟨w3, hw3⟩ : ∃ W, W = w2.alloc (Obj.cells #[] 3) := ⟨_, rfl⟩
  obtain ⟨v0, hv0⟩ : ∃ v : Value, v = .slice (some ⟨w2.heap.size, 0, none⟩) 0 0 := ⟨_, rfl⟩
  rw [← hw3] at hL0 kb3 ⊢
  rw [← hv0] at hL0 ⊢
  replace p1 := cellS kb3 p1
  clear hw3 hv0 p0 hB2
  go_wp2
  go_loopg [8, 9, 10] T.n (fun gg wv vv iv wx => ∃ k : Nat, iv = .int .i64 (k : Nat) ∧ k ≤ T.n ∧ T.n ≤ k + gg ∧ vv = .int .i64 (T.nd y k : Nat) ∧ Hid (OwnL wx w2.heap.size wv (pre (T.wd y) k)) ∧ Below w2.heap.size w2 wx)
  case atStart => exact ⟨0, rfl, by omega, by omega, rfl, hL0, kb3⟩
  case round =>
    clear p1 hL0 kb3
    obtain ⟨gK, hgK⟩ : ∃ g, g = gk := ⟨_, rfl⟩
    subst hgK
    obtain ⟨k, rfl, hk, hkg, rfl, hrow, hB⟩ := hrel
    have hk0 : (0 : Int) ≤ (k : Int) := by omega
    have HV := hid (Trel.nd_lt HP.out HY.out k hk)
    obtain ⟨v, hv⟩ : ∃ v, v = T.nd y k := ⟨_, rfl⟩
    have HVN := hid hv
    rw [← hv] at HV ⊢
    clear hv
    have p1 := cellS hB HP1.out
    by_cases hlt : k < T.n
    · have hlt' : (k : Int) < (T.n : Int) := by omega
      have hel := HP.out.shape.elb hlt
      have HEX := hid (Trel.lp_ex HP.out HY.out hlt HV.out)
      obtain ⟨eb, eo, E, ec, rfl, heb, x0w, he1, he2, he3, he4⟩ := HR.out.sec hlt
      have HX0 := hid x0w
      obtain ⟨n1, hn1⟩ : ∃ n : Nat, n = T.el k := ⟨_, rfl⟩
      have HN1 := hid hn1
      rw [← hn1] at hel HX0
      have HE3 := hid he3
      clear hn1 x0w he1 he2 he3 he4
      go_wp2
      go_loopg [8, 11, 12] n1 (fun gg wv nv jv wx => ∃ j : Nat, jv = .int .i64 (j : Nat) ∧ j ≤ n1 ∧ n1 ≤ j + gg ∧ Hid (Pick T y k j wx w2.heap.size wv nv) ∧ Below w2.heap.size w2 wx)
      case atStart => exact ⟨0, rfl, by omega, by omega, .inl ⟨fun q hq => absurd hq (by omega), rfl, hrow.out⟩, hB⟩
      case round =>
        clear hrow hB p1
        obtain ⟨j, rfl, hj, hjg, HPK, hB⟩ := hrel
        have hj0 : (0 : Int) ≤ (j : Int) := by omega
        have p1 := cellS hB HP1.out
        have hW := onS HW2.out hB
        have x0 := cellS hW HX0.out
        by_cases hltj : j < n1
        · have hltj' : (j : Int) < (n1 : Int) := by omega
          have hjel : j < T.el k := by rw [← HN1.out]; exact hltj
          obtain ⟨fb, fo, rfl, hfb, e0, e1, e2⟩ := edge_at ((Rd.below HE3.out hW (Nat.le_refl _)).mono hW.size) hjel
          obtain ⟨i1, i2, i3, i4⟩ := HP.out.shape.ins k hlt j hjel
          obtain ⟨fn, hfn⟩ : ∃ n : Nat, (n : Int) = T.fr k j := ⟨(T.fr k j).toNat, by omega⟩
          obtain ⟨tn, htn⟩ : ∃ n : Nat, (n : Int) = T.to k j := ⟨(T.to k j).toNat, by omega⟩
          have hkw : k < T.nw := by have := HP.out.shape.nw; omega
          have hk1 : k + 1 < T.nw := by have := HP.out.shape.nw; omega
          obtain ⟨ab, ao, ad, hFa, hab, habl, aq, _⟩ := (HT2.out.on hB).at (v := k) hkw (k := v) (by have := HV.out; omega)
          obtain ⟨bb, bo, bd, hFb, hbb, hbbl, bq, _⟩ := (HT2.out.on hB).at (v := k + 1) hk1 (k := tn) (by omega)
          obtain ⟨cb, co, cd, hFc, hcb, hcbl, cq, _⟩ := (HT1.out.on hB).at (v := k) hlt (k := j) hjel
          have hrow1 := (HT2.out.on hB).row.cell hkw
          have hrow2 := (HT2.out.on hB).row.cell hk1
          have hrow3 := (HT1.out.on hB).row.cell hlt
          rw [hFa] at hrow1
          rw [hFb] at hrow2
          rw [hFc] at hrow3
          change wr.cell? ⟨g2, k, none⟩ = some (.slice (some ⟨ab, ao, none⟩) (T.W k).toNat ad) at hrow1
          change wr.cell? ⟨g2, k + 1, none⟩ = some (.slice (some ⟨bb, bo, none⟩) (T.W (k + 1)).toNat bd) at hrow2
          have d1 := Trel.bw_cost HY.out (T.n - k) (by omega) v
          have d2 := Trel.bw_cost HY.out (T.n - (k + 1)) (by omega) tn
          have d3 := HY.out k hlt j hjel
          have HLP : Hid (T.lp y k v j = ((T.fr k j == (v : Int)) && (y k j + T.bw y (T.n - (k + 1)) tn == T.bw y (T.n - k) v))) := by
            show T.lp y k v j = _
            unfold Trel.lp
            rw [show (T.to k j).toNat = tn by omega]
          obtain ⟨av, hav⟩ : ∃ z, z = T.bw y (T.n - k) v := ⟨_, rfl⟩
          obtain ⟨bv, hbv⟩ : ∃ z, z = T.bw y (T.n - (k + 1)) tn := ⟨_, rfl⟩
          obtain ⟨yv, hyv⟩ : ∃ z, z = y k j := ⟨_, rfl⟩
          obtain ⟨lb, hlb⟩ : ∃ z, z = T.lb k j := ⟨_, rfl⟩
          obtain ⟨n2, hn2⟩ : ∃ n, n = (T.W k).toNat := ⟨_, rfl⟩
          obtain ⟨n3, hn3⟩ : ∃ n, n = (T.W (k + 1)).toNat := ⟨_, rfl⟩
          have htl : tn < n3 := by omega
          have hvl : v < n2 := by have := HV.out; omega
          rw [← hav] at aq d1 HLP
          rw [← hbv] at bq d2 HLP
          rw [← hyv] at cq d3 HLP
          rw [← hfn] at e0 HLP
          rw [← hlb] at e1
          rw [← htn] at e2
          rw [← hn2] at hrow1
          rw [← hn3] at hrow2
          rw [← HN1.out] at hrow3
          have HTN : Hid (tn = (T.to k j).toNat) := by show tn = _; omega
          have HLB := hid hlb
          unfold Cost at d1 d2
          have hwk1 : IntKind.i64.wrap ((k : Int) + 1) = (k : Int) + 1 := IntWalk.i64_in _ (by omega)
          have hws : IntKind.i64.wrap (yv + bv) = yv + bv := IntWalk.i64_in _ (by omega)
          have htl' : (tn : Int) < (n3 : Int) := by omega
          have hvl' : (v : Int) < (n2 : Int) := by omega
          have ht0 : (0 : Int) ≤ (tn : Int) := by omega
          have hv0 : (0 : Int) ≤ (v : Int) := by omega
          have hk1' : (k : Int) + 1 < (T.nw : Int) := by omega
          have hkw' : (k : Int) < (T.nw : Int) := by omega
          have hk01 : (0 : Int) ≤ (k : Int) + 1 := by omega
          obtain ⟨nx, hnx⟩ : ∃ x, x = T.nd y (k + 1) := ⟨_, rfl⟩
          have HNX := hid hnx
          have hnx0 : ¬ (nx : Int) < 0 := by omega
          clear hFa hFb hFc hav hbv hyv hlb hfn htn i1 i2 i3 i4 hn2 hn3 hW d1 d2 d3 hnx
          rcases HPK.out with ⟨hN, rfl, hL⟩ | ⟨hN, rfl, hL⟩
          · have HN := hid hN
            have HL := hid hL
            clear HPK hN hL
            go_upto_region 13 with fail
            obtain ⟨OB, hOB⟩ : ∃ o, o = (Obj.cells #[.int .i64 (fn : Int), .int .i64 lb, .int .i64 (tn : Int)] 72) := ⟨_, rfl⟩
            have hq : ∀ i v, (#[Value.int .i64 (fn : Int), .int .i64 lb, .int .i64 (tn : Int)] : Array Value)[i]? = some v → (wr.alloc OB).cell? ⟨wr.heap.size, i, none⟩ = some v := fun i v hv => by subst hOB; exact tbox (Below.refl _ _) hv
            have s0 := hq 0 _ rfl
            have s1 := hq 1 _ rfl
            have s2 := hq 2 _ rfl
            have kb : Below wr.heap.size wr (wr.alloc OB) := (Below.refl _ _).alloc (Nat.le_refl _) _
            rw [← hOB]
            obtain ⟨w50, hw50⟩ : ∃ W, W = wr.alloc OB := ⟨_, rfl⟩
            rw [← hw50] at s0 s1 s2 kb ⊢
            have HUL : Hid (∀ q, u8.ownBlock = some q → q ≠ wr.heap.size) := fun q e h => by have := (Own.lt HL.out q e).2; omega
            replace HL := hid (HL.out.on kb)
            replace hB := onS hB kb
            replace aq := cellS kb aq
            replace bq := cellS kb bq
            replace cq := cellS kb cq
            replace hrow1 := cellS kb hrow1
            replace hrow2 := cellS kb hrow2
            replace hrow3 := cellS kb hrow3
            obtain ⟨bx, hbx2⟩ : ∃ b, b = wr.heap.size := ⟨_, rfl⟩
            rw [← hbx2] at s0 s1 s2 HUL ⊢
            clear hq hw50 hOB kb e0 e1 e2 hbx2 hfb x0 p1
            by_cases hfv : (fn : Int) = (v : Int)
            · have b1 : ((fn : Int) == (v : Int)) = true := by simpa using hfv
              rw [b1, Bool.true_and] at HLP
              clear hfv
              by_cases hsm : yv + bv = av
              · have b2 : (yv + bv == av) = true := by simpa using hsm
                rw [b2] at HLP
                have HND : Hid (nx = tn ∧ T.wd y k = lb) := by
                  have := Trel.nd_step (T := T) (y := y) (i := k) (j := j) hjel (by rw [← HVN.out]; exact HLP.out) (by exact HN.out)
                  rw [← HTN.out, ← HLB.out, ← HNX.out] at this
                  exact this
                clear hsm
                go_wp2
                go_quiet (fail)
                go_upto_region 14 with fail
                obtain ⟨w51, hw51⟩ : ∃ W, W = w50.drewN nq := ⟨_, rfl⟩
                have kb : Below w50.heap.size w50 w51 := by rw [hw51]; exact below_drewN (Below.refl _ _) _
                rw [← hw51]
                replace hB := onS hB kb
                replace HL := hid (HL.out.on kb)
                replace s1 := cellS kb s1
                replace s2 := cellS kb s2
                clear kb hw51 aq bq cq hrow1 hrow2 hrow3 s0 b1 b2 hws
                have kb17 : Below w51.heap.size w51 (w51.alloc (Obj.cells #[Value.int IntKind.i64 lb] 3)) := (Below.refl _ _).alloc (Nat.le_refl _) _
                have HO17 := hid (HL.out.on kb17)
                have hB17 := onS hB kb17
                have HC17 : Hid ((w51.alloc (Obj.cells #[Value.int IntKind.i64 lb] 3)).cell? ⟨w51.heap.size, 0, none⟩ = some (.int .i64 lb)) := by show _ = _; simp
                have HZ17 := hid hB17.size
                have HB17 := hid hB17
                have HS2 := hid (cellS kb17 s2)
                have HZL : Hid ((pre (T.wd y) k).length ≤ 1048576) := by show _ ≤ _; rw [pre_len]; omega
                clear hB17 kb17 HL hB s2
                go_upto_region 15 with (first | (at_builtin; (refine wpList_append_lint rfl (.tmp 81) (.tmp 84) rfl HO17.out rfl (ad := ⟨w51.heap.size, 0, none⟩) (c := 1) rfl HC17.out HZ17.out HZL.out ?_); intro v17 w17 o1 o2 o3))
                have HLN : Hid (OwnL w17 w2.heap.size v17 (pre (T.wd y) (k + 1))) := by
                  rw [pre_succ, HND.out.2]
                  exact o1
                have HBN := hid (HB17.out.grown o2 HZ17.out fun q e => (Own.lt HO17.out q e).1)
                have s2 := cell_grown HS2.out o2 (fun e => HUL.out _ e rfl)
                clear o1 o2 o3 s1
                go_wp2
                go_roundg (gk - 1)
                case measure => omega
                case rel => exact ⟨j + 1, by go_num, by omega, by omega, .inr ⟨⟨j, by omega, by rw [← HVN.out]; exact HLP.out⟩, by rw [← HNX.out, HND.out.1], HLN.out⟩, HBN.out⟩
              · have b2 : (yv + bv == av) = false := by simpa using hsm
                rw [b2] at HLP
                have HN2 : Hid (∀ q, q < j + 1 → T.lp y k (T.nd y k) q = false) := fun q hq => by
                  by_cases e : q = j
                  · subst e; rw [← HVN.out]; exact HLP.out
                  · exact HN.out q (by omega)
                clear hsm
                go_wp2
                go_quiet (fail)
                go_wp2
                go_roundg (gk - 1)
                case measure => omega
                case rel => exact ⟨j + 1, by go_num, by omega, by omega, .inl ⟨HN2.out, rfl, HL.out.on (below_drewN (Below.refl _ _) _)⟩, below_drewN hB _⟩
            · have b1 : ((fn : Int) == (v : Int)) = false := by simpa using hfv
              rw [b1, Bool.false_and] at HLP
              have HN2 : Hid (∀ q, q < j + 1 → T.lp y k (T.nd y k) q = false) := fun q hq => by
                by_cases e : q = j
                · subst e; rw [← HVN.out]; exact HLP.out
                · exact HN.out q (by omega)
              clear hfv
              go_wp2
              go_quiet (fail)
              go_wp2
              go_roundg (gk - 1)
              case measure => omega
              case rel => exact ⟨j + 1, by go_num, by omega, by omega, .inl ⟨HN2.out, rfl, HL.out.on (below_drewN (Below.refl _ _) _)⟩, below_drewN hB _⟩
          · rw [← HNX.out]
            have HN := hid hN
            have HL := hid hL
            clear HPK hN hL HLP
            go_upto_region 13 with fail
            obtain ⟨OB, hOB⟩ : ∃ o, o = (Obj.cells #[.int .i64 (fn : Int), .int .i64 lb, .int .i64 (tn : Int)] 72) := ⟨_, rfl⟩
            have hq : ∀ i v, (#[Value.int .i64 (fn : Int), .int .i64 lb, .int .i64 (tn : Int)] : Array Value)[i]? = some v → (wr.alloc OB).cell? ⟨wr.heap.size, i, none⟩ = some v := fun i v hv => by subst hOB; exact tbox (Below.refl _ _) hv
            have s0 := hq 0 _ rfl
            have s1 := hq 1 _ rfl
            have s2 := hq 2 _ rfl
            have kb : Below wr.heap.size wr (wr.alloc OB) := (Below.refl _ _).alloc (Nat.le_refl _) _
            rw [← hOB]
            obtain ⟨w50, hw50⟩ : ∃ W, W = wr.alloc OB := ⟨_, rfl⟩
            rw [← hw50] at s0 s1 s2 kb ⊢
            have HUL : Hid (∀ q, u8.ownBlock = some q → q ≠ wr.heap.size) := fun q e h => by have := (Own.lt HL.out q e).2; omega
            replace HL := hid (HL.out.on kb)
            replace hB := onS hB kb
            replace aq := cellS kb aq
            replace bq := cellS kb bq
            replace cq := cellS kb cq
            replace hrow1 := cellS kb hrow1
            replace hrow2 := cellS kb hrow2
            replace hrow3 := cellS kb hrow3
            obtain ⟨bx, hbx2⟩ : ∃ b, b = wr.heap.size := ⟨_, rfl⟩
            rw [← hbx2] at s0 s1 s2 HUL ⊢
            clear hq hw50 hOB kb e0 e1 e2 hbx2 hfb x0 p1
            have b0 : decide ((nx : Int) < 0) = false := by simp
            go_wp2
            go_quiet (fail)
            go_wp2
            go_roundg (gk - 1)
            case measure => omega
            case rel => exact ⟨j + 1, by go_num, by omega, by omega, .inr ⟨by obtain ⟨q, h1, h2⟩ := HN.out; exact ⟨q, by omega, h2⟩, by rw [HNX.out], HL.out.on (below_drewN (Below.refl _ _) _)⟩, below_drewN hB _⟩
        · have hltj' : ¬ (j : Int) < (n1 : Int) := by omega
          have HFIN : Hid (∃ (q : Nat), u11 = .int .i64 (T.nd y (k + 1) : Nat) ∧ OwnL wr w2.heap.size u8 (pre (T.wd y) (k + 1))) := by
            rcases HPK.out with ⟨hN, _, _⟩ | ⟨_, h1, h2⟩
            · exfalso
              obtain ⟨q, hq, hq2⟩ := HEX.out
              have := hN q (by have := HN1.out; omega)
              rw [← HVN.out, hq2] at this
              cases this
            · exact ⟨0, h1, h2⟩
          obtain ⟨_, rfl, hLf⟩ := HFIN.out
          have HLF := hid hLf
          clear HFIN HPK hLf hW
          go_wp2
          go_roundg (gK - 1)
          case measure => omega
          case rel => exact ⟨k + 1, by go_num, by omega, by omega, rfl, HLF, hB⟩
    · have hlt' : ¬ (k : Int) < (T.n : Int) := by omega
      obtain rfl : k = T.n := by omega
      have hnw0 : 0 < T.nw := by have := HP.out.shape.nw; omega
      have hw0 := HP.out.w0
      obtain ⟨ab, ao, ad, hFa, hab, habl, aq, _⟩ := (HT2.out.on hB).at (v := 0) hnw0 (k := 0) (by show 0 < (T.W 0).toNat; omega)
      have hrow1 := (HT2.out.on hB).row.cell hnw0
      rw [hFa] at hrow1
      change wr.cell? ⟨g2, 0, none⟩ = some (.slice (some ⟨ab, ao, none⟩) (T.W 0).toNat ad) at hrow1
      obtain ⟨n2, hn2⟩ : ∃ n, n = (T.W 0).toNat := ⟨_, rfl⟩
      rw [← hn2] at hrow1
      rw [Nat.add_zero, Nat.sub_zero] at aq
      obtain ⟨av, hav⟩ : ∃ z, z = T.bw y T.n 0 := ⟨_, rfl⟩
      have HAV := hid hav
      rw [← hav] at aq
      have hn2' : (0 : Int) < (n2 : Int) := by omega
      have hnw0' : (0 : Int) < (T.nw : Int) := by omega
      have hWf := hid (onS HW2.out hB)
      have hgz : Hid (w.heap.size ≤ w2.heap.size) := by show _ ≤ w2.heap.size; omega
      clear hFa hn2 hav hw0 HVN HV
      go_wp2
      go_quiet (fail)
      go_wp2
      go_ret2
      exact ⟨below_drewN hWf.out _, _, by rw [← HAV.out]; rfl, (Own.mono hrow.out hgz.out).on (below_drewN (Below.refl _ _) _)⟩
end Go.Proofs.Ytnocbkhnmdmfhaa
