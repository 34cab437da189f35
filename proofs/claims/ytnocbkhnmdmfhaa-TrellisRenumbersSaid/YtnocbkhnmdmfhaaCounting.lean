/- The semiring of natural numbers: its methods. -/
import Derived.Test.YtnocbkhnmdmfhaaNumTab
import Derived.Test.YtnocbkhnmdmfhaaLess
namespace Go.Proofs.Ytnocbkhnmdmfhaa
open Go.RowKit

theorem NatPost.back {x : Nat} {X w : World} {e : Ending} {w' : World} (hX : Below w.heap.size w X) (h : NatPost x X e w') : NatPost x w e w' := by
  obtain ⟨A, c, e1, e2, e3, e4, e5⟩ := h
  exact ⟨A, c, e1, e2, e3, e4, onS hX e5⟩
theorem cOne_any (w : World) : Calls Try.prog 163 #[.agg #[]] w (NatPost 1 w) := by
  go_enter Try.func163, Try.ntmps163
  go_wp2_with fail
  refine (natOf_any 1 _ (by omega)).mono ?_
  rintro e w1 ⟨A, c, rfl, h1, h2, h3, h4⟩
  have hB := onS ((Below.refl _ _).alloc (Nat.le_refl _) _) h4
  clear h4
  go_wp2
  go_ret
  exact ⟨A, c, rfl, h1, h2, h3, hB⟩
theorem cZero_any (w : World) : Calls Try.prog 164 #[.agg #[]] w (NatPost 0 w) := by
  go_enter Try.func164, Try.ntmps164
  go_wp2_with fail
  refine (natOf_any 0 _ (by omega)).mono ?_
  rintro e w1 ⟨A, c, rfl, h1, h2, h3, h4⟩
  have hB := onS ((Below.refl _ _).alloc (Nat.le_refl _) _) h4
  clear h4
  go_wp2
  go_ret
  exact ⟨A, c, rfl, h1, h2, h3, hB⟩
/-- A slice of two numbers, just built. -/
theorem natTab_two {w : World} {A A2 : Option Addr} {c c2 x y : Nat} {T : TypeId} (h : NatOk w w.heap.size A x) (h2 : NatOk w w.heap.size A2 y) (hc : dl x ≤ c) (hm : c ≤ maxLen) (hc2 : dl y ≤ c2) (hm2 : c2 ≤ maxLen) :
    NatTab (w.alloc (Obj.cells #[Value.slice A (dl x) c, Value.slice A2 (dl y) c2] T)) (w.alloc (Obj.cells #[Value.slice A (dl x) c, Value.slice A2 (dl y) c2] T)).heap.size (some ⟨w.heap.size, 0, none⟩) 2 (fun i => if i = 0 then x else y) := fun i hi => by
  have hb : Below w.heap.size w (w.alloc (Obj.cells #[Value.slice A (dl x) c, Value.slice A2 (dl y) c2] T)) := (Below.refl _ _).alloc (Nat.le_refl _) _
  match i, hi with
  | 0, _ => exact ⟨w.heap.size, 0, A, c, rfl, by simp, by simp, hc, hm, h.on hb⟩
  | 1, _ => exact ⟨w.heap.size, 0, A2, c2, rfl, by simp, by simp, hc2, hm2, h2.on hb⟩
theorem cAdd_any (A A2 : Option Addr) (c c2 x y : Nat) (w : World) (h : NatOk w w.heap.size A x) (h2 : NatOk w w.heap.size A2 y) (hc : dl x ≤ c) (hm : c ≤ maxLen) (hc2 : dl y ≤ c2) (hm2 : c2 ≤ maxLen) (hs : dl x ≤ 1048576) (hs2 : dl y ≤ 1048576) (hs3 : dl (x + y) ≤ 1048577) :
    Calls Try.prog 161 #[.agg #[], .slice A (dl x) c, .slice A2 (dl y) c2] w (NatPost (x + y) w) := by
  have hb1 : Below w.heap.size w (w.alloc (Obj.cells #[] 101)) := (Below.refl _ _).alloc (Nat.le_refl _) _
  have hT := natTab_two (T := 43) (h.on hb1) (h2.on hb1) hc hm hc2 hm2
  have hb2 := onS hb1 ((Below.refl _ _).alloc (Nat.le_refl _) (Obj.cells #[Value.slice A (dl x) c, Value.slice A2 (dl y) c2] 43))
  go_enter Try.func161, Try.ntmps161
  go_wp2_with fail
  obtain ⟨X, hX⟩ : ∃ X, X = w.alloc (Obj.cells #[] 101) := ⟨_, rfl⟩
  have hsz : X.heap.size = w.heap.size + 1 := by rw [hX]; simp
  rw [← hX] at hT hb2 ⊢
  rw [← hsz]
  clear hX hsz hb1
  refine (natAdd_any _ 2 2 (fun i => if i = 0 then x else y) _ hT (by omega) (fun k hk => ?_) (fun k hk => ?_)).mono ?_
  · match k, hk with
    | 0, _ => simp [sumN, dl_zero]
    | 1, _ => simp [sumN]; omega
    | 2, _ => simp [sumN]; omega
  · match k, hk with
    | 0, _ => simp; omega
    | 1, _ => simp; omega
  rintro e w1 ⟨B, d, rfl, k1, k2, k3, k4⟩
  have hB := onS hb2 k4
  have hsum : sumN (fun i => if i = 0 then x else y) 2 = x + y := by simp [sumN]
  rw [hsum] at k1 k3 ⊢
  clear k4 hsum hT hb2
  go_wp2
  go_ret
  exact ⟨B, d, rfl, k1, k2, k3, hB⟩
theorem cMul_any (A A2 : Option Addr) (c c2 x y : Nat) (w : World) (h : NatOk w w.heap.size A x) (h2 : NatOk w w.heap.size A2 y) (hc : dl x ≤ c) (hm : c ≤ maxLen) (hc2 : dl y ≤ c2) (hm2 : c2 ≤ maxLen) (hs : dl x ≤ 1048576) (hs2 : dl y ≤ 1048576) (hs3 : dl (x * y) ≤ 2097152) :
    Calls Try.prog 162 #[.agg #[], .slice A (dl x) c, .slice A2 (dl y) c2] w (NatPost (x * y) w) := by
  have hb1 : Below w.heap.size w (w.alloc (Obj.cells #[] 101)) := (Below.refl _ _).alloc (Nat.le_refl _) _
  have hT := natTab_two (T := 43) (h.on hb1) (h2.on hb1) hc hm hc2 hm2
  have hb2 := onS hb1 ((Below.refl _ _).alloc (Nat.le_refl _) (Obj.cells #[Value.slice A (dl x) c, Value.slice A2 (dl y) c2] 43))
  go_enter Try.func162, Try.ntmps162
  go_wp2_with fail
  obtain ⟨X, hX⟩ : ∃ X, X = w.alloc (Obj.cells #[] 101) := ⟨_, rfl⟩
  have hsz : X.heap.size = w.heap.size + 1 := by rw [hX]; simp
  rw [← hX] at hT hb2 ⊢
  rw [← hsz]
  clear hX hsz hb1
  refine (natMul_any _ 2 2 (fun i => if i = 0 then x else y) _ hT (by omega) (fun k hk => ?_) (fun k hk => ?_)).mono ?_
  · match k, hk with
    | 0, _ => show dl 1 ≤ _; rw [dl_small (by omega) (by omega)]; omega
    | 1, _ => simp [prodN]; omega
    | 2, _ => simp [prodN]; omega
  · match k, hk with
    | 0, _ => simp; omega
    | 1, _ => simp; omega
  rintro e w1 ⟨B, d, rfl, k1, k2, k3, k4⟩
  have hB := onS hb2 k4
  have hsum : prodN (fun i => if i = 0 then x else y) 2 = x * y := by simp [prodN]
  rw [hsum] at k1 k3 ⊢
  clear k4 hsum hT hb2
  go_wp2
  go_ret
  exact ⟨B, d, rfl, k1, k2, k3, hB⟩
end Go.Proofs.Ytnocbkhnmdmfhaa
