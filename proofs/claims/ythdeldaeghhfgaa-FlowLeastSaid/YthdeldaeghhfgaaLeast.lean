/- flow.Least. -/
import Derived.Test.YthdeldaeghhfgaaLeastFn
import Derived.Test.YthdeldaeghhfgaaBinSearch
import Derived.Test.YthdeldaeghhfgaaFree
namespace Go.Proofs.Ythdeldaeghhfgaa
open Go.RowKit

/-- What Least returns. -/
def LeastPost (N : Net) (s t need : Int) (m : Nat) (f : Nat → Int) (w : World) (e : Ending) (w' : World) : Prop :=
  Below w.heap.size w w' ∧
  ((N.freeE s t need m f ≠ 0 ∧ e = .returned (.tuple #[.int .i64 0, .int .i64 (N.freeE s t need m f)])) ∨
   (N.freeE s t need m f = 0 ∧ ¬ Enough N f m s t need 1099511627776 ∧ e = .returned (.tuple #[.int .i64 0, .int .i64 11])) ∨
   (N.freeE s t need m f = 0 ∧ Enough N f m s t need 1099511627776 ∧ ∃ x : Int, 0 ≤ x ∧ x ≤ 1099511627776 ∧ Enough N f m s t need x ∧ (0 < x → ¬ Enough N f m s t need (x - 1)) ∧ e = .returned (.tuple #[.int .i64 x, .int .i64 0])))

set_option maxRecDepth 100000 in
set_option maxHeartbeats 8000000 in
theorem least_any (N : Net) (A F : Option Addr) (c m d : Nat) (s t need : Int) (f : Nat → Int) (w : World) (h : N.Reads w w.heap.size A) (hf : Ints w w.heap.size F m f) (hcap : N.n ≤ c) (hm : m ≤ maxLen) :
    Calls Try.prog 32 #[.agg #[.int .i64 N.V, .slice A N.n c], .int .i64 s, .int .i64 t, .int .i64 need, .slice F m d] w (LeastPost N s t need m f w) := by
  have hm9 : m ≤ 9223372036854775807 := by unfold maxLen at hm; omega
  have hcf : ∀ (x p1 p2 p3 p4 p5 : Value) (W : World), (callFunc 47 #[x, p1, p2, p3, p4, p5]).run Try.prog W = .ok (.enter 47 #[x, p1, p2, p3, p4, p5]) W := fun _ _ _ _ _ _ _ => by kernel_rfl
  have x0 : (((((w.alloc (Obj.cells #[Value.int IntKind.i64 N.V, Value.slice A N.n c] 24)).alloc (Obj.cells #[Value.int IntKind.i64 s] 3)).alloc (Obj.cells #[Value.int IntKind.i64 t] 3)).alloc (Obj.cells #[Value.int IntKind.i64 need] 3)).alloc (Obj.cells #[Value.slice F m d] 33)).cell? ⟨w.heap.size, 0, none⟩ = some (.int .i64 N.V) := by go_simp
  have x1 : (((((w.alloc (Obj.cells #[Value.int IntKind.i64 N.V, Value.slice A N.n c] 24)).alloc (Obj.cells #[Value.int IntKind.i64 s] 3)).alloc (Obj.cells #[Value.int IntKind.i64 t] 3)).alloc (Obj.cells #[Value.int IntKind.i64 need] 3)).alloc (Obj.cells #[Value.slice F m d] 33)).cell? ⟨w.heap.size, 1, none⟩ = some (.slice A N.n c) := by go_simp
  have x3 : (((((w.alloc (Obj.cells #[Value.int IntKind.i64 N.V, Value.slice A N.n c] 24)).alloc (Obj.cells #[Value.int IntKind.i64 s] 3)).alloc (Obj.cells #[Value.int IntKind.i64 t] 3)).alloc (Obj.cells #[Value.int IntKind.i64 need] 3)).alloc (Obj.cells #[Value.slice F m d] 33)).cell? ⟨w.heap.size + 1, 0, none⟩ = some (.int .i64 s) := by go_simp
  have x4 : (((((w.alloc (Obj.cells #[Value.int IntKind.i64 N.V, Value.slice A N.n c] 24)).alloc (Obj.cells #[Value.int IntKind.i64 s] 3)).alloc (Obj.cells #[Value.int IntKind.i64 t] 3)).alloc (Obj.cells #[Value.int IntKind.i64 need] 3)).alloc (Obj.cells #[Value.slice F m d] 33)).cell? ⟨w.heap.size + 1 + 1, 0, none⟩ = some (.int .i64 t) := by go_simp
  have x5 : (((((w.alloc (Obj.cells #[Value.int IntKind.i64 N.V, Value.slice A N.n c] 24)).alloc (Obj.cells #[Value.int IntKind.i64 s] 3)).alloc (Obj.cells #[Value.int IntKind.i64 t] 3)).alloc (Obj.cells #[Value.int IntKind.i64 need] 3)).alloc (Obj.cells #[Value.slice F m d] 33)).cell? ⟨w.heap.size + 1 + 1 + 1, 0, none⟩ = some (.int .i64 need) := by go_simp
  have x2 : (((((w.alloc (Obj.cells #[Value.int IntKind.i64 N.V, Value.slice A N.n c] 24)).alloc (Obj.cells #[Value.int IntKind.i64 s] 3)).alloc (Obj.cells #[Value.int IntKind.i64 t] 3)).alloc (Obj.cells #[Value.int IntKind.i64 need] 3)).alloc (Obj.cells #[Value.slice F m d] 33)).cell? ⟨w.heap.size + 1 + 1 + 1 + 1, 0, none⟩ = some (.slice F m d) := by go_simp
  have hB0 : Below w.heap.size w (((((w.alloc (Obj.cells #[Value.int IntKind.i64 N.V, Value.slice A N.n c] 24)).alloc (Obj.cells #[Value.int IntKind.i64 s] 3)).alloc (Obj.cells #[Value.int IntKind.i64 t] 3)).alloc (Obj.cells #[Value.int IntKind.i64 need] 3)).alloc (Obj.cells #[Value.slice F m d] 33)) := (((((Below.refl _ _).alloc (Nat.le_refl _) _).alloc (by simp) _).alloc (by simp; omega) _).alloc (by simp; omega) _).alloc (by simp; omega) _
  have hR5 := h.on hB0
  have hF5 := hf.on hB0
  go_enter Try.func32, Try.ntmps32
  go_wp2_with fail
  refine (ends_any N A c s t _ hR5).mono ?_
  rintro e w1 ⟨rfl, hb⟩
  have y0 := cellS hb x0
  have y1 := cellS hb x1
  have y2 := cellS hb x2
  have y3 := cellS hb x3
  have y4 := cellS hb x4
  have y5 := cellS hb x5
  have hB := onS hB0 hb
  have hR1 := hR5.on hb
  have hF1 := hF5.on hb
  clear x0 x1 x2 x3 x4 x5 hB0 hR5 hF5 hb
  by_cases he : N.endsE s t = 0
  · have he' : (N.endsE s t != 0) = false := by simp [he]
    have HEN := hid he
    have HE := hid (ends_of he)
    have hn2 := HE.out.good.n2
    clear he
    by_cases hq : need < 0
    · have HC := hid (freeE_need (m := m) (f := f) HEN.out hq)
      go_wp2
      go_ret2
      exact ⟨hB, .inl ⟨by rw [HC.out]; omega, by rw [HC.out]; rfl⟩⟩
    · have hq' : 0 ≤ need := by omega
      go_wp2
      go_loopg [27] m (fun n iv wx => ∃ k : Nat, k ≤ m ∧ m ≤ k + n ∧ iv = .int .i64 (k : Nat) ∧ Hid (N.freeOk f k = true) ∧ wx = w1)
      case atStart => exact ⟨0, by omega, by omega, rfl, rfl, rfl⟩
      case round =>
        obtain ⟨k, hk, hkn, rfl, HK, rfl⟩ := hrel
        by_cases hlt : k < m
        · obtain ⟨fb, fo, rfl, hfb, f0⟩ := hF1.at hlt
          have hlt' : (k : Int) < (m : Int) := by omega
          by_cases hbad : 0 ≤ f k ∧ f k < N.n ∧ (0 < k → f (k - 1) < f k)
          · obtain ⟨b0, b1, b2⟩ := hbad
            have HN : Hid (N.freeOk f (k + 1) = true) := by
              show _ = _
              simp only [Net.freeOk, HK.out, Bool.true_and, decide_eq_true_eq]
              exact ⟨b0, b1, b2⟩
            by_cases h2 : 0 < k
            · obtain ⟨fb', fo', hfe, hfb', f1⟩ := hF1.at (i := k - 1) (by omega)
              injection hfe with hfe
              injection hfe with e1 e2
              subst e1 e2
              have hw2 : ((k : Int) - 1).toNat = k - 1 := by omega
              have h2' : (0 : Int) < (k : Int) := by omega
              have b3 := b2 h2
              clear b2
              go_wp2
              go_roundg (gk - 1)
              case measure => omega
              case rel => exact ⟨k + 1, by omega, by omega, by go_num, HN, rfl⟩
            · have h2' : ¬ (0 : Int) < (k : Int) := by omega
              clear b2
              go_wp2
              go_roundg (gk - 1)
              case measure => omega
              case rel => exact ⟨k + 1, by omega, by omega, by go_num, HN, rfl⟩
          · have HC := hid (freeE_bad HEN.out (show ¬ need < 0 by omega) (freeOk_bad hlt (f := f) (N := N) hbad))
            have HB := hid hbad
            clear hbad
            by_cases h2 : 0 < k
            · obtain ⟨fb', fo', hfe, hfb', f1⟩ := hF1.at (i := k - 1) (by omega)
              injection hfe with hfe
              injection hfe with e1 e2
              subst e1 e2
              have hw2 : ((k : Int) - 1).toNat = k - 1 := by omega
              have h2' : (0 : Int) < (k : Int) := by omega
              by_cases c1 : f k < 0
              · go_wp2
                go_ret2
                exact ⟨hB, .inl ⟨by rw [HC.out]; omega, by rw [HC.out]; rfl⟩⟩
              · by_cases c2 : (N.n : Int) ≤ f k
                · go_wp2
                  go_ret2
                  exact ⟨hB, .inl ⟨by rw [HC.out]; omega, by rw [HC.out]; rfl⟩⟩
                · have c3 : f k ≤ f (k - 1) := by have := HB.out; omega
                  go_wp2
                  go_ret2
                  exact ⟨hB, .inl ⟨by rw [HC.out]; omega, by rw [HC.out]; rfl⟩⟩
            · by_cases c1 : f k < 0
              · go_wp2
                go_ret2
                exact ⟨hB, .inl ⟨by rw [HC.out]; omega, by rw [HC.out]; rfl⟩⟩
              · have c2 : (N.n : Int) ≤ f k := by have := HB.out; omega
                go_wp2
                go_ret2
                exact ⟨hB, .inl ⟨by rw [HC.out]; omega, by rw [HC.out]; rfl⟩⟩
        · obtain rfl : k = m := by omega
          have HC := hid (freeE_ok HEN.out (show ¬ need < 0 by omega) HK.out)
          have HR := hid (freeOk_range HK.out)
          go_wp2_with fail
          refine (least1_any N A F c k d f s t need 1099511627776 _ _ _ _ _ wr hR1 hF1 hcap HE.out HR.out hm (by omega) (by omega) y0 y1 y2 y3 y4 y5).mono ?_
          rintro e w2 ⟨⟨b, hb, rfl⟩, hb2⟩
          have hB2 := onS hB hb2
          cases b
          · have HF := hid (show ¬ Enough N f k s t need 1099511627776 from fun h => by have := hb.2 h; cases this)
            clear hb2 hb
            go_wp2
            go_ret2
            exact ⟨hB2, .inr (.inl ⟨HC.out, HF.out, rfl⟩)⟩
          · have HT := hid (hb.1 rfl)
            clear hb
            have hpred : Hid (∀ x : Int, 0 ≤ x → x < 1099511627776 → ∀ W : World, Below w2.heap.size w2 W → Calls Try.prog 47 #[.int .i64 x, .pointer (some ⟨w.heap.size, 0, none⟩), .pointer (some ⟨w.heap.size + 1 + 1 + 1 + 1, 0, none⟩), .pointer (some ⟨w.heap.size + 1, 0, none⟩), .pointer (some ⟨w.heap.size + 1 + 1, 0, none⟩), .pointer (some ⟨w.heap.size + 1 + 1 + 1, 0, none⟩)] W fun e W' => Tells (Enough N f k s t need x) e ∧ Below W.heap.size W W') := fun x hx0 hx1 W hW => by
              have hbW := onS hb2 hW
              exact least1_any N A F c k d f s t need x _ _ _ _ _ W (hR1.on hbW) (hF1.on hbW) hcap HE.out HR.out hm hx0 (by omega) (cellS hbW y0) (cellS hbW y1) (cellS hbW y2) (cellS hbW y3) (cellS hbW y4) (cellS hbW y5)
            go_wp2_with fail
            refine (bsearch_any 1099511627776 _ _ _ _ _ (Enough N f k s t need) w2 (by omega) (by omega) hpred.out).mono ?_
            rintro e w3 ⟨⟨x, rfl, g0, g1, g2, g3⟩, hb3⟩
            have hB3 := onS hB2 hb3
            have G2 := hid g2
            have G3 := hid g3
            clear g2 g3 hb3
            go_wp2
            go_ret2
            refine ⟨hB3, .inr (.inr ⟨HC.out, HT.out, x, g0, g1, ?_, G3.out, rfl⟩)⟩
            by_cases hx : x < 1099511627776
            · exact G2.out hx
            · obtain rfl : x = 1099511627776 := by omega
              exact HT.out
  · have he' : (N.endsE s t != 0) = true := by simpa using he
    have HC := hid (freeE_ends (need := need) (m := m) (f := f) he)
    have HE := hid he
    clear he
    go_wp2
    go_ret2
    exact ⟨hB, .inl ⟨by rw [HC.out]; exact HE.out, by rw [HC.out]; rfl⟩⟩
end Go.Proofs.Ythdeldaeghhfgaa
