/- codewrightref51.Free: are the arguments of Least right? -/
import Derived.Test.YthdeldaeghhfgaaFlowMath
import Derived.Deep.LoopGhost
import Derived.Deep.QuietTactic
import Derived.BigQuiet
import Derived.IntWalk
namespace Go.Proofs.Ythdeldaeghhfgaa
open Go.RowKit

/-- The first k entries of a list are arcs of the network, in rising order. -/
def Net.freeOk (N : Net) (f : Nat → Int) : Nat → Bool
  | 0 => true
  | k + 1 => N.freeOk f k && decide (0 ≤ f k ∧ f k < N.n ∧ (0 < k → f (k - 1) < f k))
theorem freeOk_bad {N : Net} {f : Nat → Int} {k m : Nat} (hk : k < m) (h : ¬ (0 ≤ f k ∧ f k < N.n ∧ (0 < k → f (k - 1) < f k))) : N.freeOk f m = false := by
  induction m with
  | zero => omega
  | succ m ih =>
    by_cases e : k = m
    · subst e; simp only [Net.freeOk, decide_eq_false h, Bool.and_false]
    · simp [Net.freeOk, ih (by omega)]
theorem freeOk_range {N : Net} {f : Nat → Int} {m : Nat} (h : N.freeOk f m = true) : ∀ i, i < m → 0 ≤ f i ∧ f i < N.n := by
  induction m with
  | zero => intro i hi; omega
  | succ m ih =>
    simp only [Net.freeOk, Bool.and_eq_true, decide_eq_true_eq] at h
    intro i hi
    by_cases e : i = m
    · subst e; exact ⟨h.2.1, h.2.2.1⟩
    · exact ih h.1 i (by omega)
/-- The error of Least's arguments. -/
def Net.freeE (N : Net) (s t need : Int) (m : Nat) (f : Nat → Int) : Int := if N.endsE s t = 0 then (if need < 0 then 6 else if N.freeOk f m then 0 else 5) else N.endsE s t
theorem freeE_ends {N : Net} {s t need : Int} {m : Nat} {f : Nat → Int} (h : N.endsE s t ≠ 0) : N.freeE s t need m f = N.endsE s t := by simp [Net.freeE, h]
theorem freeE_need {N : Net} {s t need : Int} {m : Nat} {f : Nat → Int} (h : N.endsE s t = 0) (h1 : need < 0) : N.freeE s t need m f = 6 := by simp [Net.freeE, h, h1]
theorem freeE_bad {N : Net} {s t need : Int} {m : Nat} {f : Nat → Int} (h : N.endsE s t = 0) (h1 : ¬ need < 0) (h2 : N.freeOk f m = false) : N.freeE s t need m f = 5 := by simp [Net.freeE, h, h1, h2]
theorem freeE_ok {N : Net} {s t need : Int} {m : Nat} {f : Nat → Int} (h : N.endsE s t = 0) (h1 : ¬ need < 0) (h2 : N.freeOk f m = true) : N.freeE s t need m f = 0 := by simp [Net.freeE, h, h1, h2]

set_option maxRecDepth 100000 in
set_option maxHeartbeats 8000000 in
theorem refFree_any (N : Net) (A F : Option Addr) (c m d : Nat) (s t need : Int) (f : Nat → Int) (w : World) (h : N.Reads w w.heap.size A) (hf : Ints w w.heap.size F m f) (hm : m ≤ maxLen) :
    Calls Try.prog 33 #[.agg #[.int .i64 N.V, .slice A N.n c], .int .i64 s, .int .i64 t, .int .i64 need, .slice F m d] w fun e w' => e = .returned (.int .i64 (N.freeE s t need m f)) ∧ Below w.heap.size w w' := by
  have hm9 : m ≤ 9223372036854775807 := by unfold maxLen at hm; omega
  have hB0 : Below (w.heap.size + 1) (w.alloc (.cells #[.int .i64 N.V, .slice A N.n c] 24)) (w.alloc (.cells #[.int .i64 N.V, .slice A N.n c] 24)) := Below.refl _ _
  go_enter Try.func33, Try.ntmps33
  go_wp2_with fail
  refine (refEnds_any N A c s t _ (h.on (box_below hB0))).mono ?_
  rintro e w1 ⟨rfl, hb⟩
  have hB := box_on hB0 hb
  have hB' := box_below hB
  clear hb hB0
  by_cases he : N.endsE s t = 0
  · have he' : (N.endsE s t != 0) = false := by simp [he]
    by_cases hq : need < 0
    · have HC := hid (freeE_need (m := m) (f := f) he hq)
      clear he
      go_wp2
      go_ret
      exact ⟨ret_int HC.out.symm, hB'⟩
    · have hq' : 0 ≤ need := by omega
      have HEN := hid he
      have hn2 := (ends_of he).good.n2
      clear he
      go_wp2
      go_loopg [12] m (fun n iv wx => ∃ k : Nat, k ≤ m ∧ m ≤ k + n ∧ iv = .int .i64 (k : Nat) ∧ Hid (N.freeOk f k = true) ∧ Below (w.heap.size + 1) (w.alloc (.cells #[.int .i64 N.V, .slice A N.n c] 24)) wx)
      case atStart => exact ⟨0, by omega, by omega, rfl, rfl, hB⟩
      case round =>
        clear hB hB'
        obtain ⟨k, hk, hkn, rfl, HK, hB⟩ := hrel
        have hB' := box_below hB
        by_cases hlt : k < m
        · obtain ⟨fb, fo, rfl, hfb, f0⟩ := (hf.on hB').at hlt
          have hlt' : (k : Int) < (m : Int) := by omega
          have hk0 : (0 : Int) ≤ (k : Int) := by omega
          have p1 := box_cell hB 1 rfl
          by_cases h0 : f k < 0
          · have HC := hid (freeE_bad HEN.out (show ¬ need < 0 by omega) (freeOk_bad hlt (f := f) (N := N) (by omega)))
            have d0 : decide (f k < 0) = true := by simpa using h0
            clear h0
            go_wp2
            go_quiet (fail)
            go_wp2
            go_ret
            exact ⟨ret_int HC.out.symm, below_drewN hB' _⟩
          · have d0 : decide (f k < 0) = false := by simpa using h0
            by_cases h1 : (N.n : Int) ≤ f k
            · have HC := hid (freeE_bad HEN.out (show ¬ need < 0 by omega) (freeOk_bad hlt (f := f) (N := N) (by omega)))
              have d1 : decide ((N.n : Int) ≤ f k) = true := by simpa using h1
              clear h0 h1
              go_wp2
              go_quiet (fail)
              go_wp2
              go_ret
              exact ⟨ret_int HC.out.symm, below_drewN hB' _⟩
            · have d1 : decide ((N.n : Int) ≤ f k) = false := by simpa using h1
              by_cases h2 : 0 < k
              · obtain ⟨fb', fo', hfe, hfb', f1⟩ := (hf.on hB').at (i := k - 1) (by omega)
                injection hfe with hfe
                injection hfe with e1 e2
                subst e1 e2
                have h2' : (0 : Int) < (k : Int) := by omega
                have d2 : decide (0 < k) = true := by simpa using h2
                have hw1 : IntKind.i64.wrap ((k : Int) - 1) = (k : Int) - 1 := IntWalk.i64_in _ (by omega)
                have hw2 : ((k : Int) - 1).toNat = k - 1 := by omega
                have hw3 : (0 : Int) ≤ (k : Int) - 1 := by omega
                have hw4 : (k : Int) - 1 < (m : Int) := by omega
                by_cases h3 : f k ≤ f (k - 1)
                · have HC := hid (freeE_bad HEN.out (show ¬ need < 0 by omega) (freeOk_bad hlt (f := f) (N := N) (by omega)))
                  have d3 : decide (f k ≤ f (k - 1)) = true := by simpa using h3
                  clear h0 h1 h2 h3
                  go_wp2
                  go_quiet (fail)
                  go_wp2
                  go_ret
                  exact ⟨ret_int HC.out.symm, below_drewN hB' _⟩
                · have d3 : decide (f k ≤ f (k - 1)) = false := by simpa using h3
                  have HN : Hid (N.freeOk f (k + 1) = true) := by
                    show _ = _
                    simp only [Net.freeOk, HK.out, Bool.true_and, decide_eq_true_eq]
                    omega
                  clear h0 h1 h2 h3
                  go_wp2
                  go_quiet (fail)
                  go_wp2
                  go_roundg (gk - 1)
                  case measure => omega
                  case rel => exact ⟨k + 1, by omega, by omega, by go_num, HN, below_drewN hB _⟩
              · have d2 : decide (0 < k) = false := by simpa using h2
                have HN : Hid (N.freeOk f (k + 1) = true) := by
                  show _ = _
                  simp only [Net.freeOk, HK.out, Bool.true_and, decide_eq_true_eq]
                  omega
                clear h0 h1 h2
                go_wp2
                go_quiet (fail)
                go_wp2
                go_roundg (gk - 1)
                case measure => omega
                case rel => exact ⟨k + 1, by omega, by omega, by go_num, HN, below_drewN hB _⟩
        · obtain rfl : k = m := by omega
          have HC := hid (freeE_ok HEN.out (show ¬ need < 0 by omega) HK.out)
          go_wp2
          go_ret
          exact ⟨ret_int HC.out.symm, hB'⟩
  · have he' : (N.endsE s t != 0) = true := by simpa using he
    have HC := hid (freeE_ends (need := need) (m := m) (f := f) he)
    clear he
    go_wp2
    go_ret
    exact ⟨ret_int HC.out.symm, hB'⟩
end Go.Proofs.Ythdeldaeghhfgaa
