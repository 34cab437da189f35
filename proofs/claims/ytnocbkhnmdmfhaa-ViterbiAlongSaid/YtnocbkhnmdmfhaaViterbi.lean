/- viterbi.Along. -/
import Derived.Test.YtnocbkhnmdmfhaaAlongArgs
namespace Go.Proofs.Ytnocbkhnmdmfhaa
open Go.RowKit

def AlongRes (T : Trel) (M : Nat) (ln : Nat → Nat) (C : Nat → Nat → Int) (w : World) (e : Ending) (w' : World) : Prop :=
  Below w.heap.size w w' ∧
  ((T.alongE M ln C ≠ 0 ∧ e = .returned (.tuple #[.slice none 0 0, .int .i64 0, .int .i64 (T.alongE M ln C)])) ∨
  (T.alongE M ln C = 0 ∧ ∃ gw, e = .returned (.tuple #[.slice (some ⟨gw, 0, none⟩) T.n T.n, .int .i64 (T.bw (T.yOf C) T.n 0), .int .i64 0]) ∧ w'.rowIs gw 3 T.n (fun i => .int .i64 (T.wd (T.yOf C) i))))
theorem Trel.alongE_zero {T : Trel} {M : Nat} {ln : Nat → Nat} {C : Nat → Nat → Int} (h : T.alongE M ln C = 0) : T.properE = 0 ∧ M = T.n ∧ T.fitB ln ∧ PricedP M ln C := by
  unfold Trel.alongE at h
  by_cases h1 : T.properE = 0
  · rw [if_neg (by simpa using h1)] at h
    by_cases h2 : M = T.n
    · rw [if_neg (by simpa using h2)] at h
      by_cases h3 : T.fitB ln
      · rw [if_neg (by simpa using h3)] at h
        by_cases h4 : PricedP M ln C
        · exact ⟨h1, h2, h3, h4⟩
        · rw [if_neg h4] at h; omega
      · rw [if_pos h3] at h; omega
    · rw [if_pos h2] at h; omega
  · rw [if_pos h1] at h; exact absurd h h1
theorem Trel.shapeE_of {T : Trel} (hp : T.properE = 0) : T.shapeE = 0 := by
  cases Decidable.em (T.shapeE = 0) with
  | inl h => exact h
  | inr h => exact absurd (Trel.properE_shape h ▸ hp) h
set_option maxRecDepth 100000 in
set_option maxHeartbeats 8000000 in
theorem viterbiAlong_any (T : Trel) (A B CA : Option Addr) (c d M cc : Nat) (ln : Nat → Nat) (C : Nat → Nat → Int) (w : World) (h : T.Reads w A B) (hC : IntRows w CA M ln C) :
    Calls Try.prog 12 #[.agg #[.slice A T.nw c, .slice B T.n d], .slice CA M cc] w (AlongRes T M ln C w) := by
  obtain ⟨RB, hRB⟩ : ∃ o, o = (Obj.cells #[.slice A T.nw c, .slice B T.n d] 25) := ⟨_, rfl⟩
  have hB0 : Below (w.heap.size + 1) (w.alloc RB) (w.alloc RB) := Below.refl _ _
  have HS : Hid (∀ w', Below (w.heap.size + 1) (w.alloc RB) w' → (w'.cell? ⟨w.heap.size, 0, none⟩ = some (.slice A T.nw c) ∧ w'.cell? ⟨w.heap.size, 1, none⟩ = some (.slice B T.n d)) ∧ Below w.heap.size w w') := fun w' hB => by
    have hB' := tbox_below hB
    subst hRB
    exact ⟨⟨tbox hB rfl, tbox hB rfl⟩, hB'⟩
  obtain ⟨⟨p0, p1⟩, hW⟩ := HS.out _ hB0
  have HE0 : Hid (T.properE ≠ 0 → T.properE = T.alongE M ln C) := fun h => (if_pos h).symm
  have HE1 : Hid (T.properE = 0 → M ≠ T.n → (3 : Int) = T.alongE M ln C) := fun h h1 => by unfold Trel.alongE; rw [if_neg (by simpa using h), if_pos h1]
  have HE2 : Hid (T.properE = 0 → M = T.n → (¬ T.fitB ln) → (3 : Int) = T.alongE M ln C) := fun h h1 h2 => by unfold Trel.alongE; rw [if_neg (by simpa using h), if_neg (by simpa using h1), if_pos h2]
  have HE3 : Hid (T.properE = 0 → M = T.n → T.fitB ln → (if PricedP M ln C then (0 : Int) else 6) = T.alongE M ln C) := fun h h1 h2 => (show T.alongE M ln C = _ by unfold Trel.alongE; rw [if_neg (by simpa using h), if_neg (by simpa using h1), if_neg (by simpa using h2)]).symm
  have HRES : Hid (∀ w' r, Below w.heap.size w w' → r = T.alongE M ln C → r ≠ 0 → ∀ e, e = .returned (.tuple #[.slice none 0 0, .int .i64 0, .int .i64 r]) → AlongRes T M ln C w e w') := fun w' r hB hr h0 e he => by subst hr; exact ⟨hB, .inl ⟨h0, he⟩⟩
  go_enter Try.func12, Try.ntmps12
  go_wp2_with fail
  rw [← hRB]
  refine (proper_any T A B c d _ (h.on hW)).mono ?_
  rintro e w1 ⟨rfl, kb⟩
  have hB1 := tbox_on hB0 kb
  have HR := hid h
  have HC := hid hC
  clear p0 p1 hW kb hB0 hRB h hC
  obtain ⟨⟨p0, p1⟩, hW⟩ := HS.out _ hB1
  by_cases hp : T.properE = 0
  · have HP := hid (Trel.proper_of hp)
    have HP0 := hid hp
    rw [hp]
    clear hp
    by_cases hM : M = T.n
    · have hMn : ((M : Int) != (T.n : Int)) = false := by simp [hM]
      have HM := hid hM
      have hn64 := HP.out.shape.n64
      obtain ⟨n, hn⟩ : ∃ n, n = T.n := ⟨_, rfl⟩
      have HN := hid hn
      rw [← hn] at hn64 p1 hMn ⊢
      clear hM hn
      go_wp2
      go_loopg [29] n (fun g iv wx => ∃ k : Nat, iv = .int .i64 (k : Nat) ∧ k ≤ n ∧ n ≤ k + g ∧ Hid (∀ i, i < k → ∀ j, j < T.el i → T.lb i j < (ln i : Nat)) ∧ Below (w.heap.size + 1) (w.alloc RB) wx)
      case atStart => exact ⟨0, rfl, by omega, by omega, fun i hi => absurd hi (by omega), hB1⟩
      case round =>
        clear p0 p1 hW hB1
        obtain ⟨gK, hgK⟩ : ∃ g, g = gk := ⟨_, rfl⟩
        subst hgK
        obtain ⟨k, rfl, hk, hkg, HD, hB⟩ := hrel
        have hk0 : (0 : Int) ≤ (k : Int) := by omega
        obtain ⟨⟨p0, p1⟩, hW⟩ := HS.out _ hB
        rw [← HN.out] at p1
        by_cases hlt : k < n
        · have hlt' : (k : Int) < (n : Int) := by omega
          have hltn : k < T.n := by rw [← HN.out]; exact hlt
          have hltM : k < M := by rw [HM.out]; exact hltn
          have hltM' : (k : Int) < (M : Int) := by omega
          have hel := HP.out.shape.elb hltn
          obtain ⟨eb, eo, E, ec, rfl, heb, x0w, he1, he2, he3w, he4⟩ := HR.out.sec hltn
          have x0 := cellS hW x0w
          obtain ⟨el, hele⟩ : ∃ n, n = T.el k := ⟨_, rfl⟩
          have HEL := hid hele
          rw [← hele] at hel x0
          have HE3R := hid he3w
          clear hele he3w he4 he1 he2 x0w
          go_wp2
          go_loopg [36] el (fun g jv wx => ∃ j : Nat, jv = .int .i64 (j : Nat) ∧ j ≤ el ∧ el ≤ j + g ∧ Hid (∀ q, q < j → T.lb k q < (ln k : Nat)) ∧ Below (w.heap.size + 1) (w.alloc RB) wx)
          case atStart => exact ⟨0, rfl, by omega, by omega, fun i hi => absurd hi (by omega), hB⟩
          case round =>
            clear hB p0 p1 hW x0
            obtain ⟨j, rfl, hj, hjg, HE, hB⟩ := hrel
            have hj0 : (0 : Int) ≤ (j : Int) := by omega
            obtain ⟨⟨p0, p1⟩, hW⟩ := HS.out _ hB
            by_cases hltj : j < el
            · have hltj' : (j : Int) < (el : Int) := by omega
              obtain ⟨fb, fo, rfl, hfb, e0, e1, e2⟩ := edge_at ((Rd.below HE3R.out hW (Nat.le_refl _)).mono hW.size) (show j < T.el k by rw [← HEL.out]; exact hltj)
              obtain ⟨cb, co, R, rc, rfl, hcb, y0, h1, h2, h3, h4⟩ := (HC.out.on hW) k hltM
              obtain ⟨lv, hlv⟩ : ∃ z, z = T.lb k j := ⟨_, rfl⟩
              obtain ⟨lk, hlk⟩ : ∃ z, z = ln k := ⟨_, rfl⟩
              rw [← hlv] at e1
              rw [← hlk] at y0
              have HLV := hid hlv
              have HLK := hid hlk
              obtain ⟨fv, hfv⟩ : ∃ z, z = T.fr k j := ⟨_, rfl⟩
              obtain ⟨tv, htv⟩ : ∃ z, z = T.to k j := ⟨_, rfl⟩
              rw [← hfv] at e0
              rw [← htv] at e2
              clear hlv hlk h1 h2 h3 h4 p0 p1 hfv htv
              go_upto_region 12 with fail
              obtain ⟨OB, hOB⟩ : ∃ o, o = (Obj.cells #[.int .i64 fv, .int .i64 lv, .int .i64 tv] 72) := ⟨_, rfl⟩
              have s1 : (wr.alloc OB).cell? ⟨wr.heap.size, 1, none⟩ = some (.int .i64 lv) := by subst hOB; exact tbox (Below.refl _ _) rfl
              have kb : Below wr.heap.size wr (wr.alloc OB) := (Below.refl _ _).alloc (Nat.le_refl _) _
              rw [← hOB]
              obtain ⟨w50, hw50⟩ : ∃ W, W = wr.alloc OB := ⟨_, rfl⟩
              rw [← hw50] at s1 kb ⊢
              replace hB := tbox_on hB kb
              replace hW := onS hW kb
              replace y0 := cellS kb y0
              obtain ⟨bx, hbx2⟩ : ∃ b, b = wr.heap.size := ⟨_, rfl⟩
              rw [← hbx2] at s1 ⊢
              clear hbx2 hw50 hOB kb e0 e1 e2 hfb
              by_cases hge : lv ≥ (lk : Int)
              · have b1 : decide (lv ≥ (lk : Int)) = true := by simp; omega
                have b2 : decide ((lk : Int) ≤ lv) = true := by simp; omega
                have hf := hid (HE2.out HP0.out HM.out fun hh => by have := hh k hltn j (by rw [← HEL.out]; exact hltj); rw [← HLV.out, ← HLK.out] at this; omega)
                go_wp2
                go_quiet (fail)
                go_wp2
                go_ret3
                exact HRES.out _ 3 (below_drewN hW _) hf.out (by omega) _ rfl
              · have b1 : decide (lv ≥ (lk : Int)) = false := by simp; omega
                have b2 : decide ((lk : Int) ≤ lv) = false := by simp; omega
                have HE2 : Hid (∀ q, q < j + 1 → T.lb k q < (ln k : Nat)) := fun q hq => by
                  by_cases e : q = j
                  · subst e; rw [← HLV.out, ← HLK.out]; omega
                  · exact HE.out q (by omega)
                go_wp2
                go_quiet (fail)
                go_wp2
                go_roundg (gk - 1)
                case measure => omega
                case rel => exact ⟨j + 1, by go_num, by omega, by omega, HE2, below_drewN hB _⟩
            · have hltj' : ¬ (j : Int) < (el : Int) := by omega
              have HD2 : Hid (∀ i, i < k + 1 → ∀ j, j < T.el i → T.lb i j < (ln i : Nat)) := fun i hi q hq => by
                by_cases e : i = k
                · subst e; exact HE.out q (by have := HEL.out; omega)
                · exact HD.out i (by omega) q hq
              go_wp2
              go_roundg (gK - 1)
              case measure => omega
              case rel => exact ⟨k + 1, by go_num, by omega, by omega, HD2, hB⟩
        · have hlt' : ¬ (k : Int) < (n : Int) := by omega
          have HFB : Hid (T.fitB ln) := fun i hi => HD.out i (by have := HN.out; omega)
          have hf := hid (HE3.out HP0.out HM.out HFB.out)
          have hM20 : M ≤ 1048576 := by have := HM.out; have := HN.out; omega
          clear HD
          go_wp2_with fail
          refine (priced_any CA M cc ln C wr (HC.out.on hW) hM20).mono ?_
          rintro e w2 ⟨rfl, kb⟩
          have hB2 := tbox_on hB kb
          clear kb p0 p1 hW hB
          obtain ⟨⟨p0, p1⟩, hW⟩ := HS.out _ hB2
          by_cases hpr : PricedP M ln C
          · rw [if_pos hpr] at hf
            rw [if_pos hpr]
            have HPR : Hid (PricedP M ln C) := hpr
            have hFit : T.Fit ln := fun i hi j hj => ⟨((HP.out.sec i hi).1 j hj).1, HFB.out i hi j hj⟩
            have HRR := HR.out.on hW
            have HCC := HC.out.on hW
            clear hpr
            go_wp2_with fail
            refine (along_any T A B CA c d M cc ln C w2 HRR HP.out (Trel.shapeE_of HP0.out) HCC HM.out hFit HPR.out).mono ?_
            rintro e w3 ⟨gw, rfl, hrow, _, kb⟩
            have hW3 := hid (onS hW kb)
            obtain ⟨bv, hbv⟩ : ∃ z, z = T.bw (T.yOf C) T.n 0 := ⟨_, rfl⟩
            have HBV := hid hbv
            have HROW := hid hrow
            rw [← hbv]
            clear hbv hrow kb p0 p1 hW HRR HCC hB2 hFit
            go_wp2
            go_ret3
            exact ⟨hW3.out, .inr ⟨hf.out.symm, gw, by rw [← HBV.out]; rfl, HROW.out⟩⟩
          · rw [if_neg hpr] at hf
            rw [if_neg hpr]
            clear hpr
            go_wp2
            go_ret3
            exact HRES.out _ 6 hW hf.out (by omega) _ rfl
    · have hMn : ((M : Int) != (T.n : Int)) = true := by
        rw [bne_iff_ne]
        omega
      have hf := hid (HE1.out HP0.out hM)
      clear hM
      go_wp2
      go_ret3
      exact HRES.out _ 3 hW hf.out (by omega) _ rfl
  · have hne : (T.properE != 0) = true := by simpa using hp
    have hf := hid (HE0.out hp)
    have hp' := hid hp
    obtain ⟨x, hx⟩ : ∃ x, x = T.properE := ⟨_, rfl⟩
    rw [← hx] at hne hf hp' ⊢
    clear hp hx
    go_wp2
    go_ret3
    exact HRES.out _ x hW hf.out hp'.out _ rfl
end Go.Proofs.Ytnocbkhnmdmfhaa
