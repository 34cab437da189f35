/- semiring.MinPlus and codewrightref46.Min, MinMul, at costs. -/
import Derived.Test.YtnocbkhnmdmfhaaNumTab
import Derived.Test.YtnocbkhnmdmfhaaTac
namespace Go.Proofs.Ytnocbkhnmdmfhaa
open Go.RowKit

/-- A cost. -/
def Cost (a : Int) : Prop := 0 ≤ a ∧ a ≤ 4611686018427387904
/-- The capped sum of two costs. -/
def capI (a b : Int) : Int := if 4611686018427387904 < a + b then 4611686018427387904 else a + b
theorem capI_cost {a b : Int} (ha : Cost a) (hb : Cost b) : Cost (capI a b) := by
  unfold Cost capI at *
  split <;> omega
theorem capI_comm (a b : Int) : capI a b = capI b a := by
  unfold capI
  rw [Int.add_comm]
theorem capI_small {a b : Int} (h : a + b ≤ 4611686018427387904) : capI a b = a + b := if_neg (by omega)
theorem min_cost {a b : Int} (ha : Cost a) (hb : Cost b) : Cost (min a b) := by
  unfold Cost at *
  omega
theorem cost_any (a : Int) (w : World) (ha : Cost a) : Calls Try.prog 169 #[.int .i64 a] w fun e w' => e = .returned (.int .i64 a) ∧ Below w.heap.size w w' := by
  unfold Cost at ha
  have h1 : max a 0 = a := by omega
  have h2 : min a 4611686018427387904 = a := by omega
  go_enter Try.func169, Try.ntmps169
  go_wp2
  go_ret
  exact ⟨by first | rfl | (simp only [h1, h2]) | (rw [h1, h2]), Below.refl _ _⟩
theorem capped_any (a b : Int) (w : World) (ha : Cost a) (hb : Cost b) : Calls Try.prog 170 #[.int .i64 a, .int .i64 b] w fun e w' => e = .returned (.int .i64 (capI a b)) ∧ Below w.heap.size w w' := by
  unfold Cost at ha hb
  have hw : IntKind.i64.wrap (4611686018427387904 - b) = 4611686018427387904 - b := IntWalk.i64_in _ (by omega)
  go_enter Try.func170, Try.ntmps170
  by_cases h : 4611686018427387904 < a + b
  · have hd : ¬ a ≤ 4611686018427387904 - b := by omega
    have hd2 : 4611686018427387904 - b < a := by omega
    have hc := hid (show capI a b = 4611686018427387904 from if_pos h)
    clear h
    go_wp2
    go_ret
    exact ⟨by rw [hc.out]; rfl, Below.refl _ _⟩
  · have hd : a ≤ 4611686018427387904 - b := by omega
    have hd2 : ¬ 4611686018427387904 - b < a := by omega
    have hw2 : IntKind.i64.wrap (a + b) = a + b := IntWalk.i64_in _ (by omega)
    have hc := hid (show capI a b = a + b from if_neg h)
    clear h
    go_wp2
    go_ret
    exact ⟨by rw [hc.out]; first | rfl | (rw [hw2]; rfl), Below.refl _ _⟩
theorem mpZero_any (w : World) : Calls Try.prog 168 #[.agg #[]] w fun e w' => e = .returned (.int .i64 4611686018427387904) ∧ Below w.heap.size w w' := by
  go_enter Try.func168, Try.ntmps168
  go_wp2
  go_ret
  exact ⟨rfl, (Below.refl _ _).alloc (Nat.le_refl _) _⟩
theorem mpOne_any (w : World) : Calls Try.prog 167 #[.agg #[]] w fun e w' => e = .returned (.int .i64 0) ∧ Below w.heap.size w w' := by
  go_enter Try.func167, Try.ntmps167
  go_wp2
  go_ret
  exact ⟨rfl, (Below.refl _ _).alloc (Nat.le_refl _) _⟩
theorem mpAdd_any (a b : Int) (w : World) (ha : Cost a) (hb : Cost b) : Calls Try.prog 165 #[.agg #[], .int .i64 a, .int .i64 b] w fun e w' => e = .returned (.int .i64 (min a b)) ∧ Below w.heap.size w w' := by
  have hB0 : Below w.heap.size w (w.alloc (Obj.cells #[] 115)) := (Below.refl _ _).alloc (Nat.le_refl _) _
  have HA := hid ha
  have HB := hid hb
  clear ha hb
  go_enter Try.func165, Try.ntmps165
  go_wp2_with fail
  refine (cost_any a _ HA.out).mono ?_
  rintro e w1 ⟨rfl, hb⟩
  have hB1 := onS hB0 hb
  clear hb hB0
  go_wp2_with fail
  refine (cost_any b _ HB.out).mono ?_
  rintro e w2 ⟨rfl, hb⟩
  have hB2 := onS hB1 hb
  clear hb hB1
  by_cases h : a ≤ b
  · have h2 : ¬ b < a := by omega
    have hm := hid (show min a b = a by omega)
    go_wp2
    go_ret
    exact ⟨by rw [hm.out]; rfl, hB2⟩
  · have h2 : b < a := by omega
    have hm := hid (show min a b = b by omega)
    go_wp2
    go_ret
    exact ⟨by rw [hm.out]; rfl, hB2⟩
theorem mpMul_any (a b : Int) (w : World) (ha : Cost a) (hb : Cost b) : Calls Try.prog 166 #[.agg #[], .int .i64 a, .int .i64 b] w fun e w' => e = .returned (.int .i64 (capI a b)) ∧ Below w.heap.size w w' := by
  have hB0 : Below w.heap.size w (w.alloc (Obj.cells #[] 115)) := (Below.refl _ _).alloc (Nat.le_refl _) _
  have HA := hid ha
  have HB := hid hb
  clear ha hb
  go_enter Try.func166, Try.ntmps166
  go_wp2_with fail
  refine (cost_any a _ HA.out).mono ?_
  rintro e w1 ⟨rfl, hb⟩
  have hB1 := onS hB0 hb
  clear hb hB0
  go_wp2_with fail
  refine (cost_any b _ HB.out).mono ?_
  rintro e w2 ⟨rfl, hb⟩
  have hB2 := onS hB1 hb
  clear hb hB1
  go_wp2_with fail
  refine (capped_any a b _ HA.out HB.out).mono ?_
  rintro e w3 ⟨rfl, hb⟩
  have hB3 := onS hB2 hb
  clear hb hB2
  obtain ⟨x, hx⟩ : ∃ x, x = capI a b := ⟨_, rfl⟩
  have HX := hid hx
  rw [← hx]
  clear hx
  go_wp2
  go_ret
  exact ⟨by rw [← HX.out]; rfl, hB3⟩
theorem refMin_any (a : Int) (w : World) (ha : Cost a) : Calls Try.prog 103 #[.int .i64 a] w fun e w' => e = .returned (.int .i64 a) ∧ Below w.heap.size w w' := by
  unfold Cost at ha
  have h1 : max 0 a = a := by omega
  have h2 : min a 4611686018427387904 = a := by omega
  go_enter Try.func103, Try.ntmps103
  by_cases h : a ≤ 0
  · obtain rfl : a = 0 := by omega
    go_wp2
    go_ret
    exact ⟨rfl, Below.refl _ _⟩
  · go_wp2
    go_ret
    exact ⟨by first | rfl | (simp only [h1, h2]) | (rw [h2, h1]), Below.refl _ _⟩
theorem refMinMul_any (a b : Int) (w : World) (ha : Cost a) (hb : Cost b) : Calls Try.prog 80 #[.int .i64 a, .int .i64 b] w fun e w' => e = .returned (.int .i64 (capI a b)) ∧ Below w.heap.size w w' := by
  have HA := hid ha
  have HB := hid hb
  go_enter Try.func80, Try.ntmps80
  go_wp2_with fail
  refine (refMin_any a _ HA.out).mono ?_
  rintro e w1 ⟨rfl, hB1⟩
  go_wp2_with fail
  refine (refMin_any b _ HB.out).mono ?_
  rintro e w2 ⟨rfl, hb⟩
  have hB2 := onS hB1 hb
  clear hB1 hb
  unfold Cost at ha
  have hb2 := HB.out
  unfold Cost at hb2
  have hw : IntKind.i64.wrap (4611686018427387904 - b) = 4611686018427387904 - b := IntWalk.i64_in _ (by omega)
  by_cases h : 4611686018427387904 < a + b
  · have hd : ¬ a ≤ 4611686018427387904 - b := by omega
    have hd2 : 4611686018427387904 - b < a := by omega
    have hc := hid (show capI a b = 4611686018427387904 from if_pos h)
    clear h
    go_wp2
    go_ret
    exact ⟨by rw [hc.out]; rfl, hB2⟩
  · have hd : a ≤ 4611686018427387904 - b := by omega
    have hd2 : ¬ 4611686018427387904 - b < a := by omega
    have hw2 : IntKind.i64.wrap (a + b) = a + b := IntWalk.i64_in _ (by omega)
    have hc := hid (show capI a b = a + b from if_neg h)
    clear h
    go_wp2
    go_ret
    exact ⟨by rw [hc.out]; first | rfl | (rw [hw2]; rfl), hB2⟩
end Go.Proofs.Ytnocbkhnmdmfhaa
