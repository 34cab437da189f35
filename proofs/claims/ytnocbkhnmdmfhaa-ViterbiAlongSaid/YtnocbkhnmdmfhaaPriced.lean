/- The prices of a table of costs: viterbi.priced and codewrightref49.inRange. -/
import Derived.Test.YtnocbkhnmdmfhaaIVals
namespace Go.Proofs.Ytnocbkhnmdmfhaa
open Go.RowKit

/-- Every cost is in range. -/
def PricedP (M : Nat) (ln : Nat → Nat) (C : Nat → Nat → Int) : Prop := ∀ i, i < M → ∀ a, a < ln i → 0 ≤ C i a ∧ C i a ≤ 2147483648
instance (M : Nat) (ln : Nat → Nat) (C : Nat → Nat → Int) : Decidable (PricedP M ln C) := by unfold PricedP; exact inferInstance
set_option maxHeartbeats 4000000 in
theorem priced_any (CA : Option Addr) (M cc : Nat) (ln : Nat → Nat) (C : Nat → Nat → Int) (w : World) (h : IntRows w CA M ln C) (hM : M ≤ 1048576) :
    Calls Try.prog 41 #[.slice CA M cc] w fun e w' => e = .returned (.int .i64 (if PricedP M ln C then 0 else 6)) ∧ Below w.heap.size w w' := by
  have HC := hid h
  clear h
  have HYES : Hid ((∀ i, i < M → ∀ a, a < ln i → 0 ≤ C i a ∧ C i a ≤ 2147483648) → (0 : Int) = if PricedP M ln C then 0 else 6) := fun h => (if_pos h).symm
  have HNO : Hid ((¬ ∀ i, i < M → ∀ a, a < ln i → 0 ≤ C i a ∧ C i a ≤ 2147483648) → (6 : Int) = if PricedP M ln C then 0 else 6) := fun h => (if_neg h).symm
  obtain ⟨r, hr⟩ : ∃ r : Int, r = if PricedP M ln C then 0 else 6 := ⟨_, rfl⟩
  rw [← hr] at HYES HNO ⊢
  clear hr
  go_enter Try.func41, Try.ntmps41
  go_wp2
  go_loopg [9] M (fun g iv wx => ∃ k : Nat, iv = .int .i64 (k : Nat) ∧ k ≤ M ∧ M ≤ k + g ∧ Hid (∀ i, i < k → ∀ a, a < ln i → 0 ≤ C i a ∧ C i a ≤ 2147483648) ∧ Below w.heap.size w wx)
  case atStart => exact ⟨0, rfl, by omega, by omega, fun i hi => absurd hi (by omega), Below.refl _ _⟩
  case round =>
    obtain ⟨gK, hgK⟩ : ∃ g, g = gk := ⟨_, rfl⟩
    subst hgK
    obtain ⟨k, rfl, hk, hkg, HD, hW⟩ := hrel
    have hk0 : (0 : Int) ≤ (k : Int) := by omega
    by_cases hlt : k < M
    · have hlt' : (k : Int) < (M : Int) := by omega
      obtain ⟨b, o, R, rc, rfl, hb, x0, h1, h2, h3, h4⟩ := (HC.out.on hW) k hlt
      obtain ⟨n1, hn1⟩ : ∃ n, n = ln k := ⟨_, rfl⟩
      rw [← hn1] at x0 h1 h3
      have HN1 := hid hn1
      have HR := hid h3
      have hmx : n1 ≤ 9223372036854775807 := by unfold maxLen at h2; omega
      obtain ⟨wa, hwa⟩ : ∃ W, W = wr := ⟨_, rfl⟩
      subst hwa
      clear hn1 h3 h4 h1 h2
      go_wp2
      go_loopg [15] n1 (fun g jv wx => ∃ j : Nat, jv = .int .i64 (j : Nat) ∧ j ≤ n1 ∧ n1 ≤ j + g ∧ Hid (∀ a, a < j → 0 ≤ C k a ∧ C k a ≤ 2147483648) ∧ Below wa.heap.size wa wx)
      case atStart => exact ⟨0, rfl, by omega, by omega, fun i hi => absurd hi (by omega), Below.refl _ _⟩
      case round =>
        obtain ⟨j, rfl, hj, hjg, HE, hV⟩ := hrel
        have hj0 : (0 : Int) ≤ (j : Int) := by omega
        by_cases hltj : j < n1
        · have hltj' : (j : Int) < (n1 : Int) := by omega
          have hjl : j < ln k := by rw [← HN1.out]; exact hltj
          obtain ⟨rb, ro, rfl, hrb, x1⟩ := ((HR.out : IntsR _ _ _ _ _).on hV).at hltj
          obtain ⟨x, hx⟩ : ∃ x, x = C k j := ⟨_, rfl⟩
          rw [← hx] at x1
          have HX := hid hx
          clear hx x0
          by_cases h1 : x < 0
          · have hf := hid (HNO.out fun h => by have := h k hlt j hjl; rw [← HX.out] at this; omega)
            have hWf := hid (onS hW hV)
            go_wp2
            go_ret
            exact ⟨by rw [← hf.out]; rfl, hWf.out⟩
          · by_cases h2 : 2147483648 < x
            · have hf := hid (HNO.out fun h => by have := h k hlt j hjl; rw [← HX.out] at this; omega)
              have hWf := hid (onS hW hV)
              go_wp2
              go_ret
              exact ⟨by rw [← hf.out]; rfl, hWf.out⟩
            · have HE2 : Hid (∀ a, a < j + 1 → 0 ≤ C k a ∧ C k a ≤ 2147483648) := fun a ha => by
                by_cases e : a = j
                · subst e; rw [← HX.out]; omega
                · exact HE.out a (by omega)
              go_wp2
              go_roundg (gk - 1)
              case measure => omega
              case rel => exact ⟨j + 1, by go_num, by omega, by omega, HE2, hV⟩
        · have hltj' : ¬ (j : Int) < (n1 : Int) := by omega
          have HD2 : Hid (∀ i, i < k + 1 → ∀ a, a < ln i → 0 ≤ C i a ∧ C i a ≤ 2147483648) := fun i hi a ha => by
            by_cases e : i = k
            · subst e; exact HE.out a (by have := HN1.out; omega)
            · exact HD.out i (by omega) a ha
          have hWf := onS hW hV
          clear x0
          go_wp2
          go_roundg (gK - 1)
          case measure => omega
          case rel => exact ⟨k + 1, by go_num, by omega, by omega, HD2, hWf⟩
    · have hlt' : ¬ (k : Int) < (M : Int) := by omega
      obtain rfl : k = M := by omega
      have HF := hid (HYES.out HD.out)
      clear HD
      go_wp2
      go_ret
      exact ⟨by rw [← HF.out]; rfl, hW⟩
set_option maxHeartbeats 4000000 in
theorem inRange_any (CA : Option Addr) (M cc : Nat) (ln : Nat → Nat) (C : Nat → Nat → Int) (w : World) (h : IntRows w CA M ln C) (hM : M ≤ 1048576) :
    Calls Try.prog 43 #[.slice CA M cc] w fun e w' => e = .returned (.bool (decide (PricedP M ln C))) ∧ Below w.heap.size w w' := by
  have HC := hid h
  clear h
  have HYES : Hid ((∀ i, i < M → ∀ a, a < ln i → 0 ≤ C i a ∧ C i a ≤ 2147483648) → true = decide (PricedP M ln C)) := fun h => (decide_eq_true h).symm
  have HNO : Hid ((¬ ∀ i, i < M → ∀ a, a < ln i → 0 ≤ C i a ∧ C i a ≤ 2147483648) → false = decide (PricedP M ln C)) := fun h => (decide_eq_false h).symm
  obtain ⟨r, hr⟩ : ∃ r : Bool, r = decide (PricedP M ln C) := ⟨_, rfl⟩
  rw [← hr] at HYES HNO ⊢
  clear hr
  go_enter Try.func43, Try.ntmps43
  go_wp2
  go_loopg [3] M (fun g iv wx => ∃ k : Nat, iv = .int .i64 (k : Nat) ∧ k ≤ M ∧ M ≤ k + g ∧ Hid (∀ i, i < k → ∀ a, a < ln i → 0 ≤ C i a ∧ C i a ≤ 2147483648) ∧ Below w.heap.size w wx)
  case atStart => exact ⟨0, rfl, by omega, by omega, fun i hi => absurd hi (by omega), Below.refl _ _⟩
  case round =>
    obtain ⟨gK, hgK⟩ : ∃ g, g = gk := ⟨_, rfl⟩
    subst hgK
    obtain ⟨k, rfl, hk, hkg, HD, hW⟩ := hrel
    have hk0 : (0 : Int) ≤ (k : Int) := by omega
    by_cases hlt : k < M
    · have hlt' : (k : Int) < (M : Int) := by omega
      obtain ⟨b, o, R, rc, rfl, hb, x0, h1, h2, h3, h4⟩ := (HC.out.on hW) k hlt
      obtain ⟨n1, hn1⟩ : ∃ n, n = ln k := ⟨_, rfl⟩
      rw [← hn1] at x0 h1 h3
      have HN1 := hid hn1
      have HR := hid h3
      have hmx : n1 ≤ 9223372036854775807 := by unfold maxLen at h2; omega
      obtain ⟨wa, hwa⟩ : ∃ W, W = wr := ⟨_, rfl⟩
      subst hwa
      clear hn1 h3 h4 h1 h2
      go_wp2
      go_loopg [4] n1 (fun g jv wx => ∃ j : Nat, jv = .int .i64 (j : Nat) ∧ j ≤ n1 ∧ n1 ≤ j + g ∧ Hid (∀ a, a < j → 0 ≤ C k a ∧ C k a ≤ 2147483648) ∧ Below wa.heap.size wa wx)
      case atStart => exact ⟨0, rfl, by omega, by omega, fun i hi => absurd hi (by omega), Below.refl _ _⟩
      case round =>
        obtain ⟨j, rfl, hj, hjg, HE, hV⟩ := hrel
        have hj0 : (0 : Int) ≤ (j : Int) := by omega
        by_cases hltj : j < n1
        · have hltj' : (j : Int) < (n1 : Int) := by omega
          have hjl : j < ln k := by rw [← HN1.out]; exact hltj
          obtain ⟨rb, ro, rfl, hrb, x1⟩ := ((HR.out : IntsR _ _ _ _ _).on hV).at hltj
          replace x0 := cellS hV x0
          obtain ⟨x, hx⟩ : ∃ x, x = C k j := ⟨_, rfl⟩
          rw [← hx] at x1
          have HX := hid hx
          clear hx
          by_cases h1 : x < 0
          · have hf := hid (HNO.out fun h => by have := h k hlt j hjl; rw [← HX.out] at this; omega)
            have hWf := hid (onS hW hV)
            go_wp2
            go_ret
            exact ⟨by rw [← hf.out]; rfl, hWf.out⟩
          · by_cases h2 : 2147483648 < x
            · have hf := hid (HNO.out fun h => by have := h k hlt j hjl; rw [← HX.out] at this; omega)
              have hWf := hid (onS hW hV)
              go_wp2
              go_ret
              exact ⟨by rw [← hf.out]; rfl, hWf.out⟩
            · have HE2 : Hid (∀ a, a < j + 1 → 0 ≤ C k a ∧ C k a ≤ 2147483648) := fun a ha => by
                by_cases e : a = j
                · subst e; rw [← HX.out]; omega
                · exact HE.out a (by omega)
              go_wp2
              go_roundg (gk - 1)
              case measure => omega
              case rel => exact ⟨j + 1, by go_num, by omega, by omega, HE2, hV⟩
        · have hltj' : ¬ (j : Int) < (n1 : Int) := by omega
          have HD2 : Hid (∀ i, i < k + 1 → ∀ a, a < ln i → 0 ≤ C i a ∧ C i a ≤ 2147483648) := fun i hi a ha => by
            by_cases e : i = k
            · subst e; exact HE.out a (by have := HN1.out; omega)
            · exact HD.out i (by omega) a ha
          have hWf := onS hW hV
          replace x0 := cellS hV x0
          go_wp2
          go_roundg (gK - 1)
          case measure => omega
          case rel => exact ⟨k + 1, by go_num, by omega, by omega, HD2, hWf⟩
    · have hlt' : ¬ (k : Int) < (M : Int) := by omega
      obtain rfl : k = M := by omega
      have HF := hid (HYES.out HD.out)
      clear HD
      go_wp2
      go_ret
      exact ⟨by rw [← HF.out]; rfl, hW⟩
end Go.Proofs.Ytnocbkhnmdmfhaa
