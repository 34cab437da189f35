/- codewrightref49.AlongArgs and viterbi.Along. -/
import Derived.Test.YtnocbkhnmdmfhaaPriced
import Derived.Test.YtnocbkhnmdmfhaaAlong
namespace Go.Proofs.Ytnocbkhnmdmfhaa
open Go.RowKit

/-- Every label is below its row's length. -/
def Trel.fitB (T : Trel) (ln : Nat → Nat) : Prop := ∀ i, i < T.n → ∀ j, j < T.el i → T.lb i j < (ln i : Nat)
instance (T : Trel) (ln : Nat → Nat) : Decidable (T.fitB ln) := by unfold Trel.fitB; exact inferInstance
/-- The error of a trellis and costs. -/
def Trel.alongE (T : Trel) (M : Nat) (ln : Nat → Nat) (C : Nat → Nat → Int) : Int :=
  if T.properE ≠ 0 then T.properE else if M ≠ T.n then 3 else if ¬ T.fitB ln then 3 else if PricedP M ln C then 0 else 6
set_option maxRecDepth 100000 in
set_option maxHeartbeats 8000000 in
theorem alongArgs_any (T : Trel) (A B CA : Option Addr) (c d M cc : Nat) (ln : Nat → Nat) (C : Nat → Nat → Int) (w : World) (h : T.Reads w A B) (hC : IntRows w CA M ln C) :
    Calls Try.prog 13 #[.agg #[.slice A T.nw c, .slice B T.n d], .slice CA M cc] w fun e w' => e = .returned (.int .i64 (T.alongE M ln C)) ∧ Below w.heap.size w w' := by
  obtain ⟨RB, hRB⟩ : ∃ o, o = (Obj.cells #[.slice A T.nw c, .slice B T.n d] 25) := ⟨_, rfl⟩
  have hB0 : Below (w.heap.size + 1) (w.alloc RB) (w.alloc RB) := Below.refl _ _
  have HS : Hid (∀ w', Below (w.heap.size + 1) (w.alloc RB) w' → (w'.cell? ⟨w.heap.size, 0, none⟩ = some (.slice A T.nw c) ∧ w'.cell? ⟨w.heap.size, 1, none⟩ = some (.slice B T.n d)) ∧ Below w.heap.size w w') := fun w' hB => by
    have hB' := tbox_below hB
    subst hRB
    exact ⟨⟨tbox hB rfl, tbox hB rfl⟩, hB'⟩
  obtain ⟨⟨p0, p1⟩, hW⟩ := HS.out _ hB0
  have HE0 : Hid (T.properE ≠ 0 → T.properE = T.alongE M ln C) := fun h => (if_pos h).symm
  have HE1 : Hid (T.properE = 0 → M ≠ T.n → (3 : Int) = T.alongE M ln C) := fun h h1 => by unfold Trel.alongE; rw [if_neg (by simpa using h), if_pos h1]
  have HE2 : Hid (T.properE = 0 → M = T.n → (¬ T.fitB ln) → (3 : Int) = T.alongE M ln C) := fun h h1 h2 => by unfold Trel.alongE; rw [if_neg (by simpa using h), if_neg (by simpa using h1), if_pos h2]
  have HE3 : Hid (T.properE = 0 → M = T.n → T.fitB ln → (if PricedP M ln C then (0 : Int) else 6) = T.alongE M ln C) := fun h h1 h2 => (show T.alongE M ln C = _ by unfold Trel.alongE; rw [if_neg (by simpa using h), if_neg (by simpa using h1), if_neg (by simpa using h2)]).symm
  obtain ⟨r, hr⟩ : ∃ r, r = T.alongE M ln C := ⟨_, rfl⟩
  rw [← hr] at HE0 HE1 HE2 HE3 ⊢
  clear hr
  go_enter Try.func13, Try.ntmps13
  go_wp2_with fail
  rw [← hRB]
  refine (refProper_any T A B c d _ (h.on hW)).mono ?_
  rintro e w1 ⟨rfl, kb⟩
  have hB1 := tbox_on hB0 kb
  have HR := hid h
  have HC := hid hC
  clear p0 p1 hW kb hB0 hRB h hC
  obtain ⟨⟨p0, p1⟩, hW⟩ := HS.out _ hB1
  by_cases hp : T.properE = 0
  · have HP := hid (Trel.proper_of hp)
    have HP0 := hid hp
    rw [hp]
    clear hp
    by_cases hM : M = T.n
    · have hMn : ((M : Int) != (T.n : Int)) = false := by simp [hM]
      have HM := hid hM
      have hn64 := HP.out.shape.n64
      obtain ⟨n, hn⟩ : ∃ n, n = T.n := ⟨_, rfl⟩
      have HN := hid hn
      rw [← hn] at hn64 p1 hMn ⊢
      clear hM hn
      go_wp2
      go_loopg [6] n (fun g iv wx => ∃ k : Nat, iv = .int .i64 (k : Nat) ∧ k ≤ n ∧ n ≤ k + g ∧ Hid (∀ i, i < k → ∀ j, j < T.el i → T.lb i j < (ln i : Nat)) ∧ Below (w.heap.size + 1) (w.alloc RB) wx)
      case atStart => exact ⟨0, rfl, by omega, by omega, fun i hi => absurd hi (by omega), hB1⟩
      case round =>
        clear p0 p1 hW hB1
        obtain ⟨gK, hgK⟩ : ∃ g, g = gk := ⟨_, rfl⟩
        subst hgK
        obtain ⟨k, rfl, hk, hkg, HD, hB⟩ := hrel
        have hk0 : (0 : Int) ≤ (k : Int) := by omega
        obtain ⟨⟨p0, p1⟩, hW⟩ := HS.out _ hB
        rw [← HN.out] at p1
        by_cases hlt : k < n
        · have hlt' : (k : Int) < (n : Int) := by omega
          have hltn : k < T.n := by rw [← HN.out]; exact hlt
          have hltM : k < M := by rw [HM.out]; exact hltn
          have hltM' : (k : Int) < (M : Int) := by omega
          have hel := HP.out.shape.elb hltn
          obtain ⟨el, hele⟩ : ∃ n, n = T.el k := ⟨_, rfl⟩
          have HEL := hid hele
          rw [← hele] at hel
          clear hele
          go_wp2
          go_loopg [7] el (fun g jv wx => ∃ j : Nat, jv = .int .i64 (j : Nat) ∧ j ≤ el ∧ el ≤ j + g ∧ Hid (∀ q, q < j → T.lb k q < (ln k : Nat)) ∧ Below (w.heap.size + 1) (w.alloc RB) wx)
          case atStart => exact ⟨0, rfl, by omega, by omega, fun i hi => absurd hi (by omega), hB⟩
          case round =>
            clear hB p0 p1 hW
            obtain ⟨j, rfl, hj, hjg, HE, hB⟩ := hrel
            have hj0 : (0 : Int) ≤ (j : Int) := by omega
            obtain ⟨⟨p0, p1⟩, hW⟩ := HS.out _ hB
            rw [← HN.out] at p1
            obtain ⟨eb, eo, E, ec, rfl, heb, x0, he1, he2, he3, he4⟩ := (HR.out.on hW).sec hltn
            rw [← HEL.out] at x0 he3
            by_cases hltj : j < el
            · have hltj' : (j : Int) < (el : Int) := by omega
              obtain ⟨fb, fo, rfl, hfb, e0, e1, e2⟩ := edge_at he3 hltj
              obtain ⟨cb, co, R, rc, rfl, hcb, y0, h1, h2, h3, h4⟩ := (HC.out.on hW) k hltM
              obtain ⟨lv, hlv⟩ : ∃ z, z = T.lb k j := ⟨_, rfl⟩
              obtain ⟨lk, hlk⟩ : ∃ z, z = ln k := ⟨_, rfl⟩
              rw [← hlv] at e1
              rw [← hlk] at y0
              have HLV := hid hlv
              have HLK := hid hlk
              clear hlv hlk h1 h2 h3 h4 he3 he4 he1 he2 p0
              by_cases hge : lv ≥ (lk : Int)
              · have b1 : decide (lv ≥ (lk : Int)) = true := by simp; omega
                have b2 : decide ((lk : Int) ≤ lv) = true := by simp; omega
                have hf := hid (HE2.out HP0.out HM.out fun hh => by have := hh k hltn j (by rw [← HEL.out]; exact hltj); rw [← HLV.out, ← HLK.out] at this; omega)
                go_wp2
                go_quiet (fail)
                go_wp2
                go_ret
                exact ⟨by rw [← hf.out]; rfl, below_drewN hW _⟩
              · have b1 : decide (lv ≥ (lk : Int)) = false := by simp; omega
                have b2 : decide ((lk : Int) ≤ lv) = false := by simp; omega
                have HE2 : Hid (∀ q, q < j + 1 → T.lb k q < (ln k : Nat)) := fun q hq => by
                  by_cases e : q = j
                  · subst e; rw [← HLV.out, ← HLK.out]; omega
                  · exact HE.out q (by omega)
                go_wp2
                go_quiet (fail)
                go_wp2
                go_roundg (gk - 1)
                case measure => omega
                case rel => exact ⟨j + 1, by go_num, by omega, by omega, HE2, below_drewN hB _⟩
            · have hltj' : ¬ (j : Int) < (el : Int) := by omega
              have HD2 : Hid (∀ i, i < k + 1 → ∀ j, j < T.el i → T.lb i j < (ln i : Nat)) := fun i hi q hq => by
                by_cases e : i = k
                · subst e; exact HE.out q (by have := HEL.out; omega)
                · exact HD.out i (by omega) q hq
              clear he3 he4 he1 he2
              go_wp2
              go_roundg (gK - 1)
              case measure => omega
              case rel => exact ⟨k + 1, by go_num, by omega, by omega, HD2, hB⟩
        · have hlt' : ¬ (k : Int) < (n : Int) := by omega
          have hf := hid (HE3.out HP0.out HM.out fun i hi => HD.out i (by have := HN.out; omega))
          have hM20 : M ≤ 1048576 := by have := HM.out; have := HN.out; omega
          clear HD
          go_wp2_with fail
          refine (inRange_any CA M cc ln C wr (HC.out.on hW) hM20).mono ?_
          rintro e w2 ⟨rfl, kb⟩
          have hW2 := onS hW kb
          clear kb p0 p1 hW hB
          by_cases hpr : PricedP M ln C
          · rw [if_pos hpr] at hf
            have hd := decide_eq_true hpr
            rw [hd]
            clear hd hpr
            go_wp2
            go_ret
            exact ⟨by rw [← hf.out]; rfl, hW2⟩
          · rw [if_neg hpr] at hf
            have hd := decide_eq_false hpr
            rw [hd]
            clear hd hpr
            go_wp2
            go_ret
            exact ⟨by rw [← hf.out]; rfl, hW2⟩
    · have hMn : ((M : Int) != (T.n : Int)) = true := by
        rw [bne_iff_ne]
        omega
      have hf := hid (HE1.out HP0.out hM)
      clear hM
      go_wp2
      go_ret
      exact ⟨by rw [← hf.out]; rfl, hW⟩
  · have hne : (T.properE != 0) = true := by simpa using hp
    have hf := hid (HE0.out hp)
    obtain ⟨x, hx⟩ : ∃ x, x = T.properE := ⟨_, rfl⟩
    rw [← hx] at hne hf ⊢
    clear hp hx
    go_wp2
    go_ret
    exact ⟨by rw [← hf.out]; rfl, hW⟩
end Go.Proofs.Ytnocbkhnmdmfhaa
