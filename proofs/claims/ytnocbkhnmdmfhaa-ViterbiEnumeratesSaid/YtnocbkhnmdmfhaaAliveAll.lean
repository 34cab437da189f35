/- The prices of a table of costs: viterbi.priced and codewrightref49.inRange. codewrightref49.AlongArgs and viterbi.Along. viterbi.Along. codewrightlaw49.alive. -/
import Derived.Test.YtnocbkhnmdmfhaaIVals
import Derived.Test.YtnocbkhnmdmfhaaAlong
import Derived.Test.YtnocbkhnmdmfhaaSame11

namespace Go.Proofs.Ytnocbkhnmdmfhaa
open Go.RowKit

/-- Every cost is in range. -/
def PricedP (M : Nat) (ln : Nat → Nat) (C : Nat → Nat → Int) : Prop := ∀ i, i < M → ∀ a, a < ln i → 0 ≤ C i a ∧ C i a ≤ 2147483648
instance (M : Nat) (ln : Nat → Nat) (C : Nat → Nat → Int) : Decidable (PricedP M ln C) := by unfold PricedP; exact inferInstance
set_option maxHeartbeats 4000000 in
theorem priced_any (CA : Option Addr) (M cc : Nat) (ln : Nat → Nat) (C : Nat → Nat → Int) (w : World) (h : IntRows w CA M ln C) (hM : M ≤ 1048576) :
    Calls Try.prog 41 #[.slice CA M cc] w fun e w' => e = .returned (.int .i64 (if PricedP M ln C then 0 else 6)) ∧ Below w.heap.size w w' := by
  have HC := hid h
  clear h
  have HYES : Hid ((∀ i, i < M → ∀ a, a < ln i → 0 ≤ C i a ∧ C i a ≤ 2147483648) → (0 : Int) = if PricedP M ln C then 0 else 6) := fun h => (if_pos h).symm
  have HNO : Hid ((¬ ∀ i, i < M → ∀ a, a < ln i → 0 ≤ C i a ∧ C i a ≤ 2147483648) → (6 : Int) = if PricedP M ln C then 0 else 6) := fun h => (if_neg h).symm
  obtain ⟨r, hr⟩ : ∃ r : Int, r = if PricedP M ln C then 0 else 6 := ⟨_, rfl⟩
  rw [← hr] at HYES HNO ⊢
  clear hr
  go_enter Try.func41, Try.ntmps41
  go_wp2
  go_loopg [9] M (fun g iv wx => ∃ k : Nat, iv = .int .i64 (k : Nat) ∧ k ≤ M ∧ M ≤ k + g ∧ Hid (∀ i, i < k → ∀ a, a < ln i → 0 ≤ C i a ∧ C i a ≤ 2147483648) ∧ Below w.heap.size w wx)
  case atStart => exact ⟨0, rfl, by omega, by omega, fun i hi => absurd hi (by omega), Below.refl _ _⟩
  case round =>
    obtain ⟨gK, hgK⟩ : ∃ g, g = gk := ⟨_, rfl⟩
    subst hgK
    obtain ⟨k, rfl, hk, hkg, HD, hW⟩ := hrel
    have hk0 : (0 : Int) ≤ (k : Int) := by omega
    by_cases hlt : k < M
    · have hlt' : (k : Int) < (M : Int) := by omega
      obtain ⟨b, o, R, rc, rfl, hb, x0, h1, h2, h3, h4⟩ := (HC.out.on hW) k hlt
      obtain ⟨n1, hn1⟩ : ∃ n, n = ln k := ⟨_, rfl⟩
      rw [← hn1] at x0 h1 h3
      have HN1 := hid hn1
      have HR := hid h3
      have hmx : n1 ≤ 9223372036854775807 := by unfold maxLen at h2; omega
      obtain ⟨wa, hwa⟩ : ∃ W, W = wr := ⟨_, rfl⟩
      subst hwa
      clear hn1 h3 h4 h1 h2
      go_wp2
      go_loopg [15] n1 (fun g jv wx => ∃ j : Nat, jv = .int .i64 (j : Nat) ∧ j ≤ n1 ∧ n1 ≤ j + g ∧ Hid (∀ a, a < j → 0 ≤ C k a ∧ C k a ≤ 2147483648) ∧ Below wa.heap.size wa wx)
      case atStart => exact ⟨0, rfl, by omega, by omega, fun i hi => absurd hi (by omega), Below.refl _ _⟩
      case round =>
        obtain ⟨j, rfl, hj, hjg, HE, hV⟩ := hrel
        have hj0 : (0 : Int) ≤ (j : Int) := by omega
        by_cases hltj : j < n1
        · have hltj' : (j : Int) < (n1 : Int) := by omega
          have hjl : j < ln k := by rw [← HN1.out]; exact hltj
          obtain ⟨rb, ro, rfl, hrb, x1⟩ := ((HR.out : IntsR _ _ _ _ _).on hV).at hltj
          obtain ⟨x, hx⟩ : ∃ x, x = C k j := ⟨_, rfl⟩
          rw [← hx] at x1
          have HX := hid hx
          clear hx x0
          by_cases h1 : x < 0
          · have hf := hid (HNO.out fun h => by have := h k hlt j hjl; rw [← HX.out] at this; omega)
            have hWf := hid (onS hW hV)
            go_wp2
            go_ret
            exact ⟨by rw [← hf.out]; rfl, hWf.out⟩
          · by_cases h2 : 2147483648 < x
            · have hf := hid (HNO.out fun h => by have := h k hlt j hjl; rw [← HX.out] at this; omega)
              have hWf := hid (onS hW hV)
              go_wp2
              go_ret
              exact ⟨by rw [← hf.out]; rfl, hWf.out⟩
            · have HE2 : Hid (∀ a, a < j + 1 → 0 ≤ C k a ∧ C k a ≤ 2147483648) := fun a ha => by
                by_cases e : a = j
                · subst e; rw [← HX.out]; omega
                · exact HE.out a (by omega)
              go_wp2
              go_roundg (gk - 1)
              case measure => omega
              case rel => exact ⟨j + 1, by go_num, by omega, by omega, HE2, hV⟩
        · have hltj' : ¬ (j : Int) < (n1 : Int) := by omega
          have HD2 : Hid (∀ i, i < k + 1 → ∀ a, a < ln i → 0 ≤ C i a ∧ C i a ≤ 2147483648) := fun i hi a ha => by
            by_cases e : i = k
            · subst e; exact HE.out a (by have := HN1.out; omega)
            · exact HD.out i (by omega) a ha
          have hWf := onS hW hV
          clear x0
          go_wp2
          go_roundg (gK - 1)
          case measure => omega
          case rel => exact ⟨k + 1, by go_num, by omega, by omega, HD2, hWf⟩
    · have hlt' : ¬ (k : Int) < (M : Int) := by omega
      obtain rfl : k = M := by omega
      have HF := hid (HYES.out HD.out)
      clear HD
      go_wp2
      go_ret
      exact ⟨by rw [← HF.out]; rfl, hW⟩
set_option maxHeartbeats 4000000 in
theorem inRange_any (CA : Option Addr) (M cc : Nat) (ln : Nat → Nat) (C : Nat → Nat → Int) (w : World) (h : IntRows w CA M ln C) (hM : M ≤ 1048576) :
    Calls Try.prog 43 #[.slice CA M cc] w fun e w' => e = .returned (.bool (decide (PricedP M ln C))) ∧ Below w.heap.size w w' := by
  have HC := hid h
  clear h
  have HYES : Hid ((∀ i, i < M → ∀ a, a < ln i → 0 ≤ C i a ∧ C i a ≤ 2147483648) → true = decide (PricedP M ln C)) := fun h => (decide_eq_true h).symm
  have HNO : Hid ((¬ ∀ i, i < M → ∀ a, a < ln i → 0 ≤ C i a ∧ C i a ≤ 2147483648) → false = decide (PricedP M ln C)) := fun h => (decide_eq_false h).symm
  obtain ⟨r, hr⟩ : ∃ r : Bool, r = decide (PricedP M ln C) := ⟨_, rfl⟩
  rw [← hr] at HYES HNO ⊢
  clear hr
  go_enter Try.func43, Try.ntmps43
  go_wp2
  go_loopg [3] M (fun g iv wx => ∃ k : Nat, iv = .int .i64 (k : Nat) ∧ k ≤ M ∧ M ≤ k + g ∧ Hid (∀ i, i < k → ∀ a, a < ln i → 0 ≤ C i a ∧ C i a ≤ 2147483648) ∧ Below w.heap.size w wx)
  case atStart => exact ⟨0, rfl, by omega, by omega, fun i hi => absurd hi (by omega), Below.refl _ _⟩
  case round =>
    obtain ⟨gK, hgK⟩ : ∃ g, g = gk := ⟨_, rfl⟩
    subst hgK
    obtain ⟨k, rfl, hk, hkg, HD, hW⟩ := hrel
    have hk0 : (0 : Int) ≤ (k : Int) := by omega
    by_cases hlt : k < M
    · have hlt' : (k : Int) < (M : Int) := by omega
      obtain ⟨b, o, R, rc, rfl, hb, x0, h1, h2, h3, h4⟩ := (HC.out.on hW) k hlt
      obtain ⟨n1, hn1⟩ : ∃ n, n = ln k := ⟨_, rfl⟩
      rw [← hn1] at x0 h1 h3
      have HN1 := hid hn1
      have HR := hid h3
      have hmx : n1 ≤ 9223372036854775807 := by unfold maxLen at h2; omega
      obtain ⟨wa, hwa⟩ : ∃ W, W = wr := ⟨_, rfl⟩
      subst hwa
      clear hn1 h3 h4 h1 h2
      go_wp2
      go_loopg [4] n1 (fun g jv wx => ∃ j : Nat, jv = .int .i64 (j : Nat) ∧ j ≤ n1 ∧ n1 ≤ j + g ∧ Hid (∀ a, a < j → 0 ≤ C k a ∧ C k a ≤ 2147483648) ∧ Below wa.heap.size wa wx)
      case atStart => exact ⟨0, rfl, by omega, by omega, fun i hi => absurd hi (by omega), Below.refl _ _⟩
      case round =>
        obtain ⟨j, rfl, hj, hjg, HE, hV⟩ := hrel
        have hj0 : (0 : Int) ≤ (j : Int) := by omega
        by_cases hltj : j < n1
        · have hltj' : (j : Int) < (n1 : Int) := by omega
          have hjl : j < ln k := by rw [← HN1.out]; exact hltj
          obtain ⟨rb, ro, rfl, hrb, x1⟩ := ((HR.out : IntsR _ _ _ _ _).on hV).at hltj
          replace x0 := cellS hV x0
          obtain ⟨x, hx⟩ : ∃ x, x = C k j := ⟨_, rfl⟩
          rw [← hx] at x1
          have HX := hid hx
          clear hx
          by_cases h1 : x < 0
          · have hf := hid (HNO.out fun h => by have := h k hlt j hjl; rw [← HX.out] at this; omega)
            have hWf := hid (onS hW hV)
            go_wp2
            go_ret
            exact ⟨by rw [← hf.out]; rfl, hWf.out⟩
          · by_cases h2 : 2147483648 < x
            · have hf := hid (HNO.out fun h => by have := h k hlt j hjl; rw [← HX.out] at this; omega)
              have hWf := hid (onS hW hV)
              go_wp2
              go_ret
              exact ⟨by rw [← hf.out]; rfl, hWf.out⟩
            · have HE2 : Hid (∀ a, a < j + 1 → 0 ≤ C k a ∧ C k a ≤ 2147483648) := fun a ha => by
                by_cases e : a = j
                · subst e; rw [← HX.out]; omega
                · exact HE.out a (by omega)
              go_wp2
              go_roundg (gk - 1)
              case measure => omega
              case rel => exact ⟨j + 1, by go_num, by omega, by omega, HE2, hV⟩
        · have hltj' : ¬ (j : Int) < (n1 : Int) := by omega
          have HD2 : Hid (∀ i, i < k + 1 → ∀ a, a < ln i → 0 ≤ C i a ∧ C i a ≤ 2147483648) := fun i hi a ha => by
            by_cases e : i = k
            · subst e; exact HE.out a (by have := HN1.out; omega)
            · exact HD.out i (by omega) a ha
          have hWf := onS hW hV
          replace x0 := cellS hV x0
          go_wp2
          go_roundg (gK - 1)
          case measure => omega
          case rel => exact ⟨k + 1, by go_num, by omega, by omega, HD2, hWf⟩
    · have hlt' : ¬ (k : Int) < (M : Int) := by omega
      obtain rfl : k = M := by omega
      have HF := hid (HYES.out HD.out)
      clear HD
      go_wp2
      go_ret
      exact ⟨by rw [← HF.out]; rfl, hW⟩
end Go.Proofs.Ytnocbkhnmdmfhaa

namespace Go.Proofs.Ytnocbkhnmdmfhaa
open Go.RowKit

/-- Every label is below its row's length. -/
def Trel.fitB (T : Trel) (ln : Nat → Nat) : Prop := ∀ i, i < T.n → ∀ j, j < T.el i → T.lb i j < (ln i : Nat)
instance (T : Trel) (ln : Nat → Nat) : Decidable (T.fitB ln) := by unfold Trel.fitB; exact inferInstance
/-- The error of a trellis and costs. -/
def Trel.alongE (T : Trel) (M : Nat) (ln : Nat → Nat) (C : Nat → Nat → Int) : Int :=
  if T.properE ≠ 0 then T.properE else if M ≠ T.n then 3 else if ¬ T.fitB ln then 3 else if PricedP M ln C then 0 else 6
set_option maxRecDepth 100000 in
set_option maxHeartbeats 8000000 in
theorem alongArgs_any (T : Trel) (A B CA : Option Addr) (c d M cc : Nat) (ln : Nat → Nat) (C : Nat → Nat → Int) (w : World) (h : T.Reads w A B) (hC : IntRows w CA M ln C) :
    Calls Try.prog 13 #[.agg #[.slice A T.nw c, .slice B T.n d], .slice CA M cc] w fun e w' => e = .returned (.int .i64 (T.alongE M ln C)) ∧ Below w.heap.size w w' := by
  obtain ⟨RB, hRB⟩ : ∃ o, o = (Obj.cells #[.slice A T.nw c, .slice B T.n d] 25) := ⟨_, rfl⟩
  have hB0 : Below (w.heap.size + 1) (w.alloc RB) (w.alloc RB) := Below.refl _ _
  have HS : Hid (∀ w', Below (w.heap.size + 1) (w.alloc RB) w' → (w'.cell? ⟨w.heap.size, 0, none⟩ = some (.slice A T.nw c) ∧ w'.cell? ⟨w.heap.size, 1, none⟩ = some (.slice B T.n d)) ∧ Below w.heap.size w w') := fun w' hB => by
    have hB' := tbox_below hB
    subst hRB
    exact ⟨⟨tbox hB rfl, tbox hB rfl⟩, hB'⟩
  obtain ⟨⟨p0, p1⟩, hW⟩ := HS.out _ hB0
  have HE0 : Hid (T.properE ≠ 0 → T.properE = T.alongE M ln C) := fun h => (if_pos h).symm
  have HE1 : Hid (T.properE = 0 → M ≠ T.n → (3 : Int) = T.alongE M ln C) := fun h h1 => by unfold Trel.alongE; rw [if_neg (by simpa using h), if_pos h1]
  have HE2 : Hid (T.properE = 0 → M = T.n → (¬ T.fitB ln) → (3 : Int) = T.alongE M ln C) := fun h h1 h2 => by unfold Trel.alongE; rw [if_neg (by simpa using h), if_neg (by simpa using h1), if_pos h2]
  have HE3 : Hid (T.properE = 0 → M = T.n → T.fitB ln → (if PricedP M ln C then (0 : Int) else 6) = T.alongE M ln C) := fun h h1 h2 => (show T.alongE M ln C = _ by unfold Trel.alongE; rw [if_neg (by simpa using h), if_neg (by simpa using h1), if_neg (by simpa using h2)]).symm
  obtain ⟨r, hr⟩ : ∃ r, r = T.alongE M ln C := ⟨_, rfl⟩
  rw [← hr] at HE0 HE1 HE2 HE3 ⊢
  clear hr
  go_enter Try.func13, Try.ntmps13
  go_wp2_with fail
  rw [← hRB]
  refine (refProper_any T A B c d _ (h.on hW)).mono ?_
  rintro e w1 ⟨rfl, kb⟩
  have hB1 := tbox_on hB0 kb
  have HR := hid h
  have HC := hid hC
  clear p0 p1 hW kb hB0 hRB h hC
  obtain ⟨⟨p0, p1⟩, hW⟩ := HS.out _ hB1
  by_cases hp : T.properE = 0
  · have HP := hid (Trel.proper_of hp)
    have HP0 := hid hp
    rw [hp]
    clear hp
    by_cases hM : M = T.n
    · have hMn : ((M : Int) != (T.n : Int)) = false := by simp [hM]
      have HM := hid hM
      have hn64 := HP.out.shape.n64
      obtain ⟨n, hn⟩ : ∃ n, n = T.n := ⟨_, rfl⟩
      have HN := hid hn
      rw [← hn] at hn64 p1 hMn ⊢
      clear hM hn
      go_wp2
      go_loopg [6] n (fun g iv wx => ∃ k : Nat, iv = .int .i64 (k : Nat) ∧ k ≤ n ∧ n ≤ k + g ∧ Hid (∀ i, i < k → ∀ j, j < T.el i → T.lb i j < (ln i : Nat)) ∧ Below (w.heap.size + 1) (w.alloc RB) wx)
      case atStart => exact ⟨0, rfl, by omega, by omega, fun i hi => absurd hi (by omega), hB1⟩
      case round =>
        clear p0 p1 hW hB1
        obtain ⟨gK, hgK⟩ : ∃ g, g = gk := ⟨_, rfl⟩
        subst hgK
        obtain ⟨k, rfl, hk, hkg, HD, hB⟩ := hrel
        have hk0 : (0 : Int) ≤ (k : Int) := by omega
        obtain ⟨⟨p0, p1⟩, hW⟩ := HS.out _ hB
        rw [← HN.out] at p1
        by_cases hlt : k < n
        · have hlt' : (k : Int) < (n : Int) := by omega
          have hltn : k < T.n := by rw [← HN.out]; exact hlt
          have hltM : k < M := by rw [HM.out]; exact hltn
          have hltM' : (k : Int) < (M : Int) := by omega
          have hel := HP.out.shape.elb hltn
          obtain ⟨el, hele⟩ : ∃ n, n = T.el k := ⟨_, rfl⟩
          have HEL := hid hele
          rw [← hele] at hel
          clear hele
          go_wp2
          go_loopg [7] el (fun g jv wx => ∃ j : Nat, jv = .int .i64 (j : Nat) ∧ j ≤ el ∧ el ≤ j + g ∧ Hid (∀ q, q < j → T.lb k q < (ln k : Nat)) ∧ Below (w.heap.size + 1) (w.alloc RB) wx)
          case atStart => exact ⟨0, rfl, by omega, by omega, fun i hi => absurd hi (by omega), hB⟩
          case round =>
            clear hB p0 p1 hW
            obtain ⟨j, rfl, hj, hjg, HE, hB⟩ := hrel
            have hj0 : (0 : Int) ≤ (j : Int) := by omega
            obtain ⟨⟨p0, p1⟩, hW⟩ := HS.out _ hB
            rw [← HN.out] at p1
            obtain ⟨eb, eo, E, ec, rfl, heb, x0, he1, he2, he3, he4⟩ := (HR.out.on hW).sec hltn
            rw [← HEL.out] at x0 he3
            by_cases hltj : j < el
            · have hltj' : (j : Int) < (el : Int) := by omega
              obtain ⟨fb, fo, rfl, hfb, e0, e1, e2⟩ := edge_at he3 hltj
              obtain ⟨cb, co, R, rc, rfl, hcb, y0, h1, h2, h3, h4⟩ := (HC.out.on hW) k hltM
              obtain ⟨lv, hlv⟩ : ∃ z, z = T.lb k j := ⟨_, rfl⟩
              obtain ⟨lk, hlk⟩ : ∃ z, z = ln k := ⟨_, rfl⟩
              rw [← hlv] at e1
              rw [← hlk] at y0
              have HLV := hid hlv
              have HLK := hid hlk
              clear hlv hlk h1 h2 h3 h4 he3 he4 he1 he2 p0
              by_cases hge : lv ≥ (lk : Int)
              · have b1 : decide (lv ≥ (lk : Int)) = true := by simp; omega
                have b2 : decide ((lk : Int) ≤ lv) = true := by simp; omega
                have hf := hid (HE2.out HP0.out HM.out fun hh => by have := hh k hltn j (by rw [← HEL.out]; exact hltj); rw [← HLV.out, ← HLK.out] at this; omega)
                go_wp2
                go_quiet (fail)
                go_wp2
                go_ret
                exact ⟨by rw [← hf.out]; rfl, below_drewN hW _⟩
              · have b1 : decide (lv ≥ (lk : Int)) = false := by simp; omega
                have b2 : decide ((lk : Int) ≤ lv) = false := by simp; omega
                have HE2 : Hid (∀ q, q < j + 1 → T.lb k q < (ln k : Nat)) := fun q hq => by
                  by_cases e : q = j
                  · subst e; rw [← HLV.out, ← HLK.out]; omega
                  · exact HE.out q (by omega)
                go_wp2
                go_quiet (fail)
                go_wp2
                go_roundg (gk - 1)
                case measure => omega
                case rel => exact ⟨j + 1, by go_num, by omega, by omega, HE2, below_drewN hB _⟩
            · have hltj' : ¬ (j : Int) < (el : Int) := by omega
              have HD2 : Hid (∀ i, i < k + 1 → ∀ j, j < T.el i → T.lb i j < (ln i : Nat)) := fun i hi q hq => by
                by_cases e : i = k
                · subst e; exact HE.out q (by have := HEL.out; omega)
                · exact HD.out i (by omega) q hq
              clear he3 he4 he1 he2
              go_wp2
              go_roundg (gK - 1)
              case measure => omega
              case rel => exact ⟨k + 1, by go_num, by omega, by omega, HD2, hB⟩
        · have hlt' : ¬ (k : Int) < (n : Int) := by omega
          have hf := hid (HE3.out HP0.out HM.out fun i hi => HD.out i (by have := HN.out; omega))
          have hM20 : M ≤ 1048576 := by have := HM.out; have := HN.out; omega
          clear HD
          go_wp2_with fail
          refine (inRange_any CA M cc ln C wr (HC.out.on hW) hM20).mono ?_
          rintro e w2 ⟨rfl, kb⟩
          have hW2 := onS hW kb
          clear kb p0 p1 hW hB
          by_cases hpr : PricedP M ln C
          · rw [if_pos hpr] at hf
            have hd := decide_eq_true hpr
            rw [hd]
            clear hd hpr
            go_wp2
            go_ret
            exact ⟨by rw [← hf.out]; rfl, hW2⟩
          · rw [if_neg hpr] at hf
            have hd := decide_eq_false hpr
            rw [hd]
            clear hd hpr
            go_wp2
            go_ret
            exact ⟨by rw [← hf.out]; rfl, hW2⟩
    · have hMn : ((M : Int) != (T.n : Int)) = true := by
        rw [bne_iff_ne]
        omega
      have hf := hid (HE1.out HP0.out hM)
      clear hM
      go_wp2
      go_ret
      exact ⟨by rw [← hf.out]; rfl, hW⟩
  · have hne : (T.properE != 0) = true := by simpa using hp
    have hf := hid (HE0.out hp)
    obtain ⟨x, hx⟩ : ∃ x, x = T.properE := ⟨_, rfl⟩
    rw [← hx] at hne hf ⊢
    clear hp hx
    go_wp2
    go_ret
    exact ⟨by rw [← hf.out]; rfl, hW⟩
end Go.Proofs.Ytnocbkhnmdmfhaa

namespace Go.Proofs.Ytnocbkhnmdmfhaa
open Go.RowKit

def AlongRes (T : Trel) (M : Nat) (ln : Nat → Nat) (C : Nat → Nat → Int) (w : World) (e : Ending) (w' : World) : Prop :=
  Below w.heap.size w w' ∧
  ((T.alongE M ln C ≠ 0 ∧ e = .returned (.tuple #[.slice none 0 0, .int .i64 0, .int .i64 (T.alongE M ln C)])) ∨
  (T.alongE M ln C = 0 ∧ ∃ gw, e = .returned (.tuple #[.slice (some ⟨gw, 0, none⟩) T.n T.n, .int .i64 (T.bw (T.yOf C) T.n 0), .int .i64 0]) ∧ w'.rowIs gw 3 T.n (fun i => .int .i64 (T.wd (T.yOf C) i))))
theorem Trel.alongE_zero {T : Trel} {M : Nat} {ln : Nat → Nat} {C : Nat → Nat → Int} (h : T.alongE M ln C = 0) : T.properE = 0 ∧ M = T.n ∧ T.fitB ln ∧ PricedP M ln C := by
  unfold Trel.alongE at h
  by_cases h1 : T.properE = 0
  · rw [if_neg (by simpa using h1)] at h
    by_cases h2 : M = T.n
    · rw [if_neg (by simpa using h2)] at h
      by_cases h3 : T.fitB ln
      · rw [if_neg (by simpa using h3)] at h
        by_cases h4 : PricedP M ln C
        · exact ⟨h1, h2, h3, h4⟩
        · rw [if_neg h4] at h; omega
      · rw [if_pos h3] at h; omega
    · rw [if_pos h2] at h; omega
  · rw [if_pos h1] at h; exact absurd h h1
theorem Trel.shapeE_of {T : Trel} (hp : T.properE = 0) : T.shapeE = 0 := by
  cases Decidable.em (T.shapeE = 0) with
  | inl h => exact h
  | inr h => exact absurd (Trel.properE_shape h ▸ hp) h
set_option maxRecDepth 100000 in
set_option maxHeartbeats 8000000 in
theorem viterbiAlong_any (T : Trel) (A B CA : Option Addr) (c d M cc : Nat) (ln : Nat → Nat) (C : Nat → Nat → Int) (w : World) (h : T.Reads w A B) (hC : IntRows w CA M ln C) :
    Calls Try.prog 12 #[.agg #[.slice A T.nw c, .slice B T.n d], .slice CA M cc] w (AlongRes T M ln C w) := by
  obtain ⟨RB, hRB⟩ : ∃ o, o = (Obj.cells #[.slice A T.nw c, .slice B T.n d] 25) := ⟨_, rfl⟩
  have hB0 : Below (w.heap.size + 1) (w.alloc RB) (w.alloc RB) := Below.refl _ _
  have HS : Hid (∀ w', Below (w.heap.size + 1) (w.alloc RB) w' → (w'.cell? ⟨w.heap.size, 0, none⟩ = some (.slice A T.nw c) ∧ w'.cell? ⟨w.heap.size, 1, none⟩ = some (.slice B T.n d)) ∧ Below w.heap.size w w') := fun w' hB => by
    have hB' := tbox_below hB
    subst hRB
    exact ⟨⟨tbox hB rfl, tbox hB rfl⟩, hB'⟩
  obtain ⟨⟨p0, p1⟩, hW⟩ := HS.out _ hB0
  have HE0 : Hid (T.properE ≠ 0 → T.properE = T.alongE M ln C) := fun h => (if_pos h).symm
  have HE1 : Hid (T.properE = 0 → M ≠ T.n → (3 : Int) = T.alongE M ln C) := fun h h1 => by unfold Trel.alongE; rw [if_neg (by simpa using h), if_pos h1]
  have HE2 : Hid (T.properE = 0 → M = T.n → (¬ T.fitB ln) → (3 : Int) = T.alongE M ln C) := fun h h1 h2 => by unfold Trel.alongE; rw [if_neg (by simpa using h), if_neg (by simpa using h1), if_pos h2]
  have HE3 : Hid (T.properE = 0 → M = T.n → T.fitB ln → (if PricedP M ln C then (0 : Int) else 6) = T.alongE M ln C) := fun h h1 h2 => (show T.alongE M ln C = _ by unfold Trel.alongE; rw [if_neg (by simpa using h), if_neg (by simpa using h1), if_neg (by simpa using h2)]).symm
  have HRES : Hid (∀ w' r, Below w.heap.size w w' → r = T.alongE M ln C → r ≠ 0 → ∀ e, e = .returned (.tuple #[.slice none 0 0, .int .i64 0, .int .i64 r]) → AlongRes T M ln C w e w') := fun w' r hB hr h0 e he => by subst hr; exact ⟨hB, .inl ⟨h0, he⟩⟩
  go_enter Try.func12, Try.ntmps12
  go_wp2_with fail
  rw [← hRB]
  refine (proper_any T A B c d _ (h.on hW)).mono ?_
  rintro e w1 ⟨rfl, kb⟩
  have hB1 := tbox_on hB0 kb
  have HR := hid h
  have HC := hid hC
  clear p0 p1 hW kb hB0 hRB h hC
  obtain ⟨⟨p0, p1⟩, hW⟩ := HS.out _ hB1
  by_cases hp : T.properE = 0
  · have HP := hid (Trel.proper_of hp)
    have HP0 := hid hp
    rw [hp]
    clear hp
    by_cases hM : M = T.n
    · have hMn : ((M : Int) != (T.n : Int)) = false := by simp [hM]
      have HM := hid hM
      have hn64 := HP.out.shape.n64
      obtain ⟨n, hn⟩ : ∃ n, n = T.n := ⟨_, rfl⟩
      have HN := hid hn
      rw [← hn] at hn64 p1 hMn ⊢
      clear hM hn
      go_wp2
      go_loopg [29] n (fun g iv wx => ∃ k : Nat, iv = .int .i64 (k : Nat) ∧ k ≤ n ∧ n ≤ k + g ∧ Hid (∀ i, i < k → ∀ j, j < T.el i → T.lb i j < (ln i : Nat)) ∧ Below (w.heap.size + 1) (w.alloc RB) wx)
      case atStart => exact ⟨0, rfl, by omega, by omega, fun i hi => absurd hi (by omega), hB1⟩
      case round =>
        clear p0 p1 hW hB1
        obtain ⟨gK, hgK⟩ : ∃ g, g = gk := ⟨_, rfl⟩
        subst hgK
        obtain ⟨k, rfl, hk, hkg, HD, hB⟩ := hrel
        have hk0 : (0 : Int) ≤ (k : Int) := by omega
        obtain ⟨⟨p0, p1⟩, hW⟩ := HS.out _ hB
        rw [← HN.out] at p1
        by_cases hlt : k < n
        · have hlt' : (k : Int) < (n : Int) := by omega
          have hltn : k < T.n := by rw [← HN.out]; exact hlt
          have hltM : k < M := by rw [HM.out]; exact hltn
          have hltM' : (k : Int) < (M : Int) := by omega
          have hel := HP.out.shape.elb hltn
          obtain ⟨eb, eo, E, ec, rfl, heb, x0w, he1, he2, he3w, he4⟩ := HR.out.sec hltn
          have x0 := cellS hW x0w
          obtain ⟨el, hele⟩ : ∃ n, n = T.el k := ⟨_, rfl⟩
          have HEL := hid hele
          rw [← hele] at hel x0
          have HE3R := hid he3w
          clear hele he3w he4 he1 he2 x0w
          go_wp2
          go_loopg [36] el (fun g jv wx => ∃ j : Nat, jv = .int .i64 (j : Nat) ∧ j ≤ el ∧ el ≤ j + g ∧ Hid (∀ q, q < j → T.lb k q < (ln k : Nat)) ∧ Below (w.heap.size + 1) (w.alloc RB) wx)
          case atStart => exact ⟨0, rfl, by omega, by omega, fun i hi => absurd hi (by omega), hB⟩
          case round =>
            clear hB p0 p1 hW x0
            obtain ⟨j, rfl, hj, hjg, HE, hB⟩ := hrel
            have hj0 : (0 : Int) ≤ (j : Int) := by omega
            obtain ⟨⟨p0, p1⟩, hW⟩ := HS.out _ hB
            by_cases hltj : j < el
            · have hltj' : (j : Int) < (el : Int) := by omega
              obtain ⟨fb, fo, rfl, hfb, e0, e1, e2⟩ := edge_at ((Rd.below HE3R.out hW (Nat.le_refl _)).mono hW.size) (show j < T.el k by rw [← HEL.out]; exact hltj)
              obtain ⟨cb, co, R, rc, rfl, hcb, y0, h1, h2, h3, h4⟩ := (HC.out.on hW) k hltM
              obtain ⟨lv, hlv⟩ : ∃ z, z = T.lb k j := ⟨_, rfl⟩
              obtain ⟨lk, hlk⟩ : ∃ z, z = ln k := ⟨_, rfl⟩
              rw [← hlv] at e1
              rw [← hlk] at y0
              have HLV := hid hlv
              have HLK := hid hlk
              obtain ⟨fv, hfv⟩ : ∃ z, z = T.fr k j := ⟨_, rfl⟩
              obtain ⟨tv, htv⟩ : ∃ z, z = T.to k j := ⟨_, rfl⟩
              rw [← hfv] at e0
              rw [← htv] at e2
              clear hlv hlk h1 h2 h3 h4 p0 p1 hfv htv
              go_upto_region 12 with fail
              obtain ⟨OB, hOB⟩ : ∃ o, o = (Obj.cells #[.int .i64 fv, .int .i64 lv, .int .i64 tv] 72) := ⟨_, rfl⟩
              have s1 : (wr.alloc OB).cell? ⟨wr.heap.size, 1, none⟩ = some (.int .i64 lv) := by subst hOB; exact tbox (Below.refl _ _) rfl
              have kb : Below wr.heap.size wr (wr.alloc OB) := (Below.refl _ _).alloc (Nat.le_refl _) _
              rw [← hOB]
              obtain ⟨w50, hw50⟩ : ∃ W, W = wr.alloc OB := ⟨_, rfl⟩
              rw [← hw50] at s1 kb ⊢
              replace hB := tbox_on hB kb
              replace hW := onS hW kb
              replace y0 := cellS kb y0
              obtain ⟨bx, hbx2⟩ : ∃ b, b = wr.heap.size := ⟨_, rfl⟩
              rw [← hbx2] at s1 ⊢
              clear hbx2 hw50 hOB kb e0 e1 e2 hfb
              by_cases hge : lv ≥ (lk : Int)
              · have b1 : decide (lv ≥ (lk : Int)) = true := by simp; omega
                have b2 : decide ((lk : Int) ≤ lv) = true := by simp; omega
                have hf := hid (HE2.out HP0.out HM.out fun hh => by have := hh k hltn j (by rw [← HEL.out]; exact hltj); rw [← HLV.out, ← HLK.out] at this; omega)
                go_wp2
                go_quiet (fail)
                go_wp2
                go_ret3
                exact HRES.out _ 3 (below_drewN hW _) hf.out (by omega) _ rfl
              · have b1 : decide (lv ≥ (lk : Int)) = false := by simp; omega
                have b2 : decide ((lk : Int) ≤ lv) = false := by simp; omega
                have HE2 : Hid (∀ q, q < j + 1 → T.lb k q < (ln k : Nat)) := fun q hq => by
                  by_cases e : q = j
                  · subst e; rw [← HLV.out, ← HLK.out]; omega
                  · exact HE.out q (by omega)
                go_wp2
                go_quiet (fail)
                go_wp2
                go_roundg (gk - 1)
                case measure => omega
                case rel => exact ⟨j + 1, by go_num, by omega, by omega, HE2, below_drewN hB _⟩
            · have hltj' : ¬ (j : Int) < (el : Int) := by omega
              have HD2 : Hid (∀ i, i < k + 1 → ∀ j, j < T.el i → T.lb i j < (ln i : Nat)) := fun i hi q hq => by
                by_cases e : i = k
                · subst e; exact HE.out q (by have := HEL.out; omega)
                · exact HD.out i (by omega) q hq
              go_wp2
              go_roundg (gK - 1)
              case measure => omega
              case rel => exact ⟨k + 1, by go_num, by omega, by omega, HD2, hB⟩
        · have hlt' : ¬ (k : Int) < (n : Int) := by omega
          have HFB : Hid (T.fitB ln) := fun i hi => HD.out i (by have := HN.out; omega)
          have hf := hid (HE3.out HP0.out HM.out HFB.out)
          have hM20 : M ≤ 1048576 := by have := HM.out; have := HN.out; omega
          clear HD
          go_wp2_with fail
          refine (priced_any CA M cc ln C wr (HC.out.on hW) hM20).mono ?_
          rintro e w2 ⟨rfl, kb⟩
          have hB2 := tbox_on hB kb
          clear kb p0 p1 hW hB
          obtain ⟨⟨p0, p1⟩, hW⟩ := HS.out _ hB2
          by_cases hpr : PricedP M ln C
          · rw [if_pos hpr] at hf
            rw [if_pos hpr]
            have HPR : Hid (PricedP M ln C) := hpr
            have hFit : T.Fit ln := fun i hi j hj => ⟨((HP.out.sec i hi).1 j hj).1, HFB.out i hi j hj⟩
            have HRR := HR.out.on hW
            have HCC := HC.out.on hW
            clear hpr
            go_wp2_with fail
            refine (along_any T A B CA c d M cc ln C w2 HRR HP.out (Trel.shapeE_of HP0.out) HCC HM.out hFit HPR.out).mono ?_
            rintro e w3 ⟨gw, rfl, hrow, _, kb⟩
            have hW3 := hid (onS hW kb)
            obtain ⟨bv, hbv⟩ : ∃ z, z = T.bw (T.yOf C) T.n 0 := ⟨_, rfl⟩
            have HBV := hid hbv
            have HROW := hid hrow
            rw [← hbv]
            clear hbv hrow kb p0 p1 hW HRR HCC hB2 hFit
            go_wp2
            go_ret3
            exact ⟨hW3.out, .inr ⟨hf.out.symm, gw, by rw [← HBV.out]; rfl, HROW.out⟩⟩
          · rw [if_neg hpr] at hf
            rw [if_neg hpr]
            clear hpr
            go_wp2
            go_ret3
            exact HRES.out _ 6 hW hf.out (by omega) _ rfl
    · have hMn : ((M : Int) != (T.n : Int)) = true := by
        rw [bne_iff_ne]
        omega
      have hf := hid (HE1.out HP0.out hM)
      clear hM
      go_wp2
      go_ret3
      exact HRES.out _ 3 hW hf.out (by omega) _ rfl
  · have hne : (T.properE != 0) = true := by simpa using hp
    have hf := hid (HE0.out hp)
    have hp' := hid hp
    obtain ⟨x, hx⟩ : ∃ x, x = T.properE := ⟨_, rfl⟩
    rw [← hx] at hne hf hp' ⊢
    clear hp hx
    go_wp2
    go_ret3
    exact HRES.out _ x hW hf.out hp'.out _ rfl
end Go.Proofs.Ytnocbkhnmdmfhaa

namespace Go.Proofs.Ytnocbkhnmdmfhaa
open Go.RowKit

/-- Two parallel edges, with the labels 0 and 1. -/
def parT : Trel := ⟨2, fun _ => 1, 1, fun _ => 2, fun _ _ => 0, fun _ j => if j = 0 then 0 else 1, fun _ _ => 0⟩
def parC : Nat → Nat → Int := fun _ a => if a = 0 then 5 else 3
theorem par_alongE : parT.alongE 1 (fun _ => 2) parC = 0 := of_decide_eq_true (by kernel_rfl)
theorem par_bw : parT.bw (parT.yOf parC) parT.n 0 = 3 := of_decide_eq_true (by kernel_rfl)
theorem par_wd : parT.wd (parT.yOf parC) 0 = 1 := of_decide_eq_true (by kernel_rfl)
theorem par_reads {w : World} {b1 b2 b3 : Nat} (h1 : b1 < w.heap.size) (h2 : b2 < w.heap.size) (h3 : b3 < w.heap.size) (c0 : w.cell? ⟨b1, 0, none⟩ = some (.int .i64 1)) (c1 : w.cell? ⟨b1, 1, none⟩ = some (.int .i64 1))
    (e : ∀ j, j < 2 → ∀ k, k < 3 → w.cell? ⟨b2, j * 3 + k, none⟩ = some (parT.edge 0 j k)) (s : w.cell? ⟨b3, 0, none⟩ = some (.slice (some ⟨b2, 0, none⟩) 2 2)) : parT.Reads w (some ⟨b1, 0, none⟩) (some ⟨b3, 0, none⟩) := by
  refine ⟨fun i hi => ⟨b1, 0, rfl, h1, fun j hj => ?_⟩, fun i _ => ⟨by show (-9223372036854775808 : Int) ≤ 1; omega, by show (1 : Int) ≤ _; omega⟩, fun i hi => ?_, by show (2 : Nat) ≤ _; omega, by show (1 : Nat) ≤ _; omega, fun i _ => by show (2 : Nat) ≤ _; omega⟩
  · obtain rfl : j = 0 := by omega
    have hi : i < 2 := hi
    match i, hi with
    | 0, _ => exact c0
    | 1, _ => exact c1
  · have hi : i < 1 := hi
    obtain rfl : i = 0 := by omega
    refine ⟨b3, 0, some ⟨b2, 0, none⟩, 2, rfl, h3, s, Nat.le_refl _, by unfold maxLen; omega, fun j hj => ⟨b2, 0, rfl, h2, fun k hk => ?_⟩, fun j hj => ?_⟩
    · have := e j hj k hk
      rwa [Nat.zero_add]
    · unfold InI64
      refine ⟨⟨by show (-9223372036854775808 : Int) ≤ 0; omega, by show (0 : Int) ≤ _; omega⟩, ?_, ⟨by show (-9223372036854775808 : Int) ≤ 0; omega, by show (0 : Int) ≤ _; omega⟩⟩
      have e : parT.lb 0 j = if j = 0 then (0 : Int) else 1 := rfl
      rw [e]
      split <;> omega
theorem par_rows {w : World} {b4 b5 : Nat} (h4 : b4 < w.heap.size) (h5 : b5 < w.heap.size) (c0 : w.cell? ⟨b4, 0, none⟩ = some (.int .i64 5)) (c1 : w.cell? ⟨b4, 1, none⟩ = some (.int .i64 3)) (s : w.cell? ⟨b5, 0, none⟩ = some (.slice (some ⟨b4, 0, none⟩) 2 2)) :
    IntRows w (some ⟨b5, 0, none⟩) 1 (fun _ => 2) parC := fun i hi => by
  obtain rfl : i = 0 := by omega
  refine ⟨b5, 0, some ⟨b4, 0, none⟩, 2, rfl, h5, s, Nat.le_refl _, by unfold maxLen; omega, fun j hj => ⟨b4, 0, rfl, h4, fun k hk => ?_⟩, fun j hj => ?_⟩
  · obtain rfl : k = 0 := by omega
    match j, hj with
    | 0, _ => exact c0
    | 1, _ => exact c1
  · unfold parC
    split <;> omega
set_option maxRecDepth 100000 in
set_option maxHeartbeats 4000000 in
theorem alive49_any (w : World) : Calls Try.prog 11 #[] w fun e w' => e = .returned (.bool true) ∧ Below w.heap.size w w' := by
  go_enter Try.func11, Try.ntmps11
  go_wp2_with fail
  obtain ⟨O1, hO1⟩ : ∃ o, o = (Obj.cells #[Value.int .i64 1, Value.int .i64 1] 3) := ⟨_, rfl⟩
  obtain ⟨O2, hO2⟩ : ∃ o, o = (Obj.cells #[Value.int .i64 0, Value.int .i64 0, Value.int .i64 0, Value.int .i64 0, Value.int .i64 1, Value.int .i64 0] 72) := ⟨_, rfl⟩
  obtain ⟨O3, hO3⟩ : ∃ o, o = (Obj.cells #[Value.slice (some ⟨w.heap.size + 1, 0, none⟩) 2 2] 70) := ⟨_, rfl⟩
  obtain ⟨O4, hO4⟩ : ∃ o, o = (Obj.cells #[Value.int .i64 5, Value.int .i64 3] 3) := ⟨_, rfl⟩
  obtain ⟨O5, hO5⟩ : ∃ o, o = (Obj.cells #[Value.slice (some ⟨w.heap.size + 1 + 1 + 1, 0, none⟩) 2 2] 22) := ⟨_, rfl⟩
  rw [← hO1, ← hO2, ← hO3, ← hO4, ← hO5]
  have s1 : (w.alloc O1).heap.size = w.heap.size + 1 := by simp
  have s2 : ((w.alloc O1).alloc O2).heap.size = w.heap.size + 1 + 1 := by simp
  have s3 : (((w.alloc O1).alloc O2).alloc O3).heap.size = w.heap.size + 1 + 1 + 1 := by simp
  have s4 : ((((w.alloc O1).alloc O2).alloc O3).alloc O4).heap.size = w.heap.size + 1 + 1 + 1 + 1 := by simp
  have k1 : Below w.heap.size w (w.alloc O1) := (Below.refl _ _).alloc (Nat.le_refl _) _
  have k2 : Below (w.alloc O1).heap.size (w.alloc O1) ((w.alloc O1).alloc O2) := (Below.refl _ _).alloc (Nat.le_refl _) _
  have k3 : Below ((w.alloc O1).alloc O2).heap.size ((w.alloc O1).alloc O2) (((w.alloc O1).alloc O2).alloc O3) := (Below.refl _ _).alloc (Nat.le_refl _) _
  have k4 : Below (((w.alloc O1).alloc O2).alloc O3).heap.size (((w.alloc O1).alloc O2).alloc O3) ((((w.alloc O1).alloc O2).alloc O3).alloc O4) := (Below.refl _ _).alloc (Nat.le_refl _) _
  have k5 : Below ((((w.alloc O1).alloc O2).alloc O3).alloc O4).heap.size ((((w.alloc O1).alloc O2).alloc O3).alloc O4) (((((w.alloc O1).alloc O2).alloc O3).alloc O4).alloc O5) := (Below.refl _ _).alloc (Nat.le_refl _) _
  have k45 := onS k4 k5
  have k345 := onS k3 k45
  have k2345 := onS k2 k345
  have hW := onS k1 k2345
  have a1 : ∀ i v, (#[Value.int .i64 1, Value.int .i64 1] : Array Value)[i]? = some v → (w.alloc O1).cell? ⟨w.heap.size, i, none⟩ = some v := fun i v hv => by rw [hO1]; rw [World.cell?_alloc_at _ _ _ _ rfl]; exact hv
  have a2 : ∀ i v, (#[Value.int .i64 0, Value.int .i64 0, Value.int .i64 0, Value.int .i64 0, Value.int .i64 1, Value.int .i64 0] : Array Value)[i]? = some v → ((w.alloc O1).alloc O2).cell? ⟨w.heap.size + 1, i, none⟩ = some v := fun i v hv => by rw [hO2]; rw [World.cell?_alloc_at _ _ _ _ (by simp)]; exact hv
  have a3 : (((w.alloc O1).alloc O2).alloc O3).cell? ⟨w.heap.size + 1 + 1, 0, none⟩ = some (.slice (some ⟨w.heap.size + 1, 0, none⟩) 2 2) := by rw [hO3]; rw [World.cell?_alloc_at _ _ _ _ (by simp)]; rfl
  have a4 : ∀ i v, (#[Value.int .i64 5, Value.int .i64 3] : Array Value)[i]? = some v → ((((w.alloc O1).alloc O2).alloc O3).alloc O4).cell? ⟨w.heap.size + 1 + 1 + 1, i, none⟩ = some v := fun i v hv => by rw [hO4]; rw [World.cell?_alloc_at _ _ _ _ (by simp)]; exact hv
  have a5 : (((((w.alloc O1).alloc O2).alloc O3).alloc O4).alloc O5).cell? ⟨w.heap.size + 1 + 1 + 1 + 1, 0, none⟩ = some (.slice (some ⟨w.heap.size + 1 + 1 + 1, 0, none⟩) 2 2) := by rw [hO5]; rw [World.cell?_alloc_at _ _ _ _ (by simp)]; rfl
  obtain ⟨w5, hw5⟩ : ∃ W, W = ((((w.alloc O1).alloc O2).alloc O3).alloc O4).alloc O5 := ⟨_, rfl⟩
  have s5 : w5.heap.size = w.heap.size + 1 + 1 + 1 + 1 + 1 := by rw [hw5]; simp
  rw [← hw5] at k5 k45 k345 k2345 hW a5 ⊢
  have hreads : parT.Reads w5 (some ⟨w.heap.size, 0, none⟩) (some ⟨w.heap.size + 1 + 1, 0, none⟩) := by
    refine par_reads (by omega) (b2 := w.heap.size + 1) (by omega) (by omega) (cellS k2345 (a1 0 _ rfl)) (cellS k2345 (a1 1 _ rfl)) (fun j hj k hk => ?_) (cellS k45 a3)
    refine cellS k345 (a2 (j * 3 + k) _ ?_)
    match j, hj, k, hk with
    | 0, _, 0, _ => rfl
    | 0, _, 1, _ => rfl
    | 0, _, 2, _ => rfl
    | 1, _, 0, _ => rfl
    | 1, _, 1, _ => rfl
    | 1, _, 2, _ => rfl
  have hcosts : IntRows w5 (some ⟨w.heap.size + 1 + 1 + 1 + 1, 0, none⟩) 1 (fun _ => 2) parC := par_rows (b4 := w.heap.size + 1 + 1 + 1) (by omega) (by omega) (cellS k5 (a4 0 _ rfl)) (cellS k5 (a4 1 _ rfl)) a5
  have HW := hid hW
  clear a1 a2 a3 a4 a5 k1 k2 k3 k4 k5 k45 k345 k2345 s1 s2 s3 s4 s5 hw5 hO1 hO2 hO3 hO4 hO5 hW
  refine (viterbiAlong_any parT _ _ _ 2 1 1 1 (fun _ => 2) parC w5 hreads hcosts).mono ?_
  rintro e w6 ⟨kb, hpost⟩
  have hW6 := onS HW.out kb
  rcases hpost with ⟨h0, _⟩ | ⟨_, gw, rfl, hrow⟩
  · exact absurd par_alongE h0
  have q0 := hrow.cell (i := 0) (by show 0 < 1; omega)
  rw [par_wd] at q0
  rw [par_bw]
  change w6.cell? ⟨gw, 0, none⟩ = some (.int .i64 1) at q0
  have HW6 := hid hW6
  clear hrow hreads hcosts kb HW hW6
  have en : parT.n = 1 := rfl
  rw [en]
  go_wp2
  go_ret
  exact ⟨rfl, HW6.out⟩
end Go.Proofs.Ytnocbkhnmdmfhaa
