/- ref02 Same of two fractions. channel laws: short. channel.zero. ref02 SameList. channel laws: same, shorts. A row of fractions in a block of one's own: one element stored. Two fractions in a slice: sum and product. -/
import Derived.Test.YtlfmnaepcndhiaaRat13

namespace Go.Proofs.Ytlfmnaepcndhiaa
open Go.RowKit

set_option maxRecDepth 100000 in
set_option maxHeartbeats 8000000 in
theorem refSame02_any (A B A' B' : Option Addr) (c d c' d' : Nat) (r : Rat) (N : Nat) (w : World) (m1 : NatOk w w.heap.size A r.num.natAbs) (m2 : NatOk w w.heap.size B r.den) (n1 : NatOk w w.heap.size A' r.num.natAbs) (n2 : NatOk w w.heap.size B' r.den) (hN : N ≤ 33554432) (hr : rsz r N) :
    Calls Try.prog 17 #[.agg #[.bool (rneg r), .slice A (dl r.num.natAbs) c, .slice B (dl r.den) d], .agg #[.bool (rneg r), .slice A' (dl r.num.natAbs) c', .slice B' (dl r.den) d']] w fun e w' => e = .returned (.bool true) ∧ Below w.heap.size w w' := by
  have hb0 := below_one w (.cells #[.bool (rneg r), .slice A (dl r.num.natAbs) c, .slice B (dl r.den) d] 32)
  have hb1 := below_one (w.alloc (.cells #[.bool (rneg r), .slice A (dl r.num.natAbs) c, .slice B (dl r.den) d] 32)) (.cells #[.bool (rneg r), .slice A' (dl r.num.natAbs) c', .slice B' (dl r.den) d'] 32)
  have s0 : (w.alloc (.cells #[.bool (rneg r), .slice A (dl r.num.natAbs) c, .slice B (dl r.den) d] 32)).heap.size = w.heap.size + 1 := by simp
  have ra := rowIs_on (box_row (w := w) (a := .bool (rneg r)) (b := .slice A (dl r.num.natAbs) c) (c := .slice B (dl r.den) d) (T := 32)) hb1
  have rb := box_row (w := w.alloc (.cells #[.bool (rneg r), .slice A (dl r.num.natAbs) c, .slice B (dl r.den) d] 32)) (a := .bool (rneg r)) (b := .slice A' (dl r.num.natAbs) c') (c := .slice B' (dl r.den) d') (T := 32)
  rw [s0] at rb
  have hB := onS hb0 hb1
  clear s0 hb0 hb1
  replace m1 := m1.on hB
  replace m2 := m2.on hB
  replace n1 := n1.on hB
  replace n2 := n2.on hB
  have hr1 := hr.1
  have hr2 := hr.2
  have heq : (rneg r == rneg r) = true := by simp
  go_enter Try.func17, Try.ntmps17
  go_upto_region 1 with fail
  obtain ⟨w0, hw0⟩ : ∃ W, W = ((w.alloc (.cells #[.bool (rneg r), .slice A (dl r.num.natAbs) c, .slice B (dl r.den) d] 32)).alloc (.cells #[.bool (rneg r), .slice A' (dl r.num.natAbs) c', .slice B' (dl r.den) d'] 32)) := ⟨_, rfl⟩
  rw [← hw0] at ra rb hB m1 m2 n1 n2 ⊢
  clear hw0
  have ea0 : w0.cell? ⟨w.heap.size, 0, none⟩ = some (.bool (rneg (r))) := ra.cell (i := 0) (by omega)
  have ea1 : w0.cell? ⟨w.heap.size, 1, none⟩ = some (.slice (A) (dl (r).num.natAbs) (c)) := ra.cell (i := 1) (by omega)
  have ea2 : w0.cell? ⟨w.heap.size, 2, none⟩ = some (.slice (B) (dl (r).den) (d)) := ra.cell (i := 2) (by omega)
  have eb0 : w0.cell? ⟨w.heap.size + 1, 0, none⟩ = some (.bool (rneg (r))) := rb.cell (i := 0) (by omega)
  have eb1 : w0.cell? ⟨w.heap.size + 1, 1, none⟩ = some (.slice (A') (dl (r).num.natAbs) (c')) := rb.cell (i := 1) (by omega)
  have eb2 : w0.cell? ⟨w.heap.size + 1, 2, none⟩ = some (.slice (B') (dl (r).den) (d')) := rb.cell (i := 2) (by omega)
  go_wp2_with fail
  refine (refSame_any _ _ _ _ _ _ m1 n1 (by omega)).mono ?_
  rintro e w1 ⟨rfl, kb⟩
  have kb2 := kb
  replace m1 := m1.on kb
  replace m2 := m2.on kb
  replace n1 := n1.on kb
  replace n2 := n2.on kb
  replace ra := rowIs_on ra kb
  replace rb := rowIs_on rb kb
  replace hB := onS hB kb
  clear kb
  replace ea0 := cellS kb2 ea0
  replace ea1 := cellS kb2 ea1
  replace ea2 := cellS kb2 ea2
  replace eb0 := cellS kb2 eb0
  replace eb1 := cellS kb2 eb1
  replace eb2 := cellS kb2 eb2
  clear kb2
  go_wp2_with fail
  refine (refSame_any _ _ _ _ _ _ m2 n2 (by omega)).mono ?_
  rintro e w2 ⟨rfl, kb⟩
  have kb2 := kb
  replace m1 := m1.on kb
  replace m2 := m2.on kb
  replace n1 := n1.on kb
  replace n2 := n2.on kb
  replace ra := rowIs_on ra kb
  replace rb := rowIs_on rb kb
  replace hB := onS hB kb
  clear kb
  replace ea0 := cellS kb2 ea0
  replace ea1 := cellS kb2 ea1
  replace ea2 := cellS kb2 ea2
  replace eb0 := cellS kb2 eb0
  replace eb1 := cellS kb2 eb1
  replace eb2 := cellS kb2 eb2
  clear kb2
  go_wp2
  go_ret
  exact ⟨rfl, hB⟩

end Go.Proofs.Ytlfmnaepcndhiaa

namespace Go.Proofs.Ytlfmnaepcndhiaa
open Go.RowKit

set_option maxRecDepth 100000 in
set_option maxHeartbeats 8000000 in
theorem lawShort_any (s : Bool) (A A2 : Option Addr) (n c m c2 : Nat) (w : World) :
    Calls Try.prog 12 #[.agg #[.bool s, .slice A n c, .slice A2 m c2]] w fun e w' => e = .returned (.bool (decide (n ≤ 4) && decide (m ≤ 4))) ∧ Below w.heap.size w w' := by
  have hB := below_one w (.cells #[.bool s, .slice A n c, .slice A2 m c2] 32)
  have ra := box_row (w := w) (a := .bool s) (b := .slice A n c) (c := .slice A2 m c2) (T := 32)
  have hd : decide ((n : Int) ≤ 4) = decide (n ≤ 4) := by simp only [decide_eq_decide]; omega
  have hd2 : decide ((m : Int) ≤ 4) = decide (m ≤ 4) := by simp only [decide_eq_decide]; omega
  go_enter Try.func12, Try.ntmps12
  go_upto_region 1 with fail
  obtain ⟨w0, hw0⟩ : ∃ W, W = w.alloc (.cells #[.bool s, .slice A n c, .slice A2 m c2] 32) := ⟨_, rfl⟩
  rw [← hw0] at ra hB ⊢
  clear hw0
  have HD := hid hd2
  clear hd2
  have e1 : w0.cell? ⟨w.heap.size, 1, none⟩ = some (.slice A n c) := ra.cell (i := 1) (by omega)
  have e2 : w0.cell? ⟨w.heap.size, 2, none⟩ = some (.slice A2 m c2) := ra.cell (i := 2) (by omega)
  by_cases h : n ≤ 4
  · have hn : decide ((n : Int) ≤ 4) = true := by rw [hd]; simpa using h
    have hn2 : decide (n ≤ 4) = true := by simpa using h
    clear hd h
    go_wp2
    go_ret
    exact ⟨by simp [hn2, HD.out], hB⟩
  · have hn : decide ((n : Int) ≤ 4) = false := by rw [hd]; simpa using h
    have hn2 : decide (n ≤ 4) = false := by simpa using h
    clear hd h
    go_wp2
    go_ret
    exact ⟨by simp [hn2], hB⟩
end Go.Proofs.Ytlfmnaepcndhiaa

namespace Go.Proofs.Ytlfmnaepcndhiaa
open Go.RowKit

set_option maxRecDepth 100000 in
set_option maxHeartbeats 4000000 in
theorem chZero_any (w : World) : Calls Try.prog 39 #[] w (RatPost 0 w) := by
  have hB := below_one w (.cells #[.bool false, .slice none 0 0, .slice none 0 0] 32)
  have rz := box_row (w := w) (a := .bool false) (b := .slice none 0 0) (c := .slice none 0 0) (T := 32)
  obtain ⟨w0, hw0⟩ : ∃ W, W = w.alloc (.cells #[.bool false, .slice none 0 0, .slice none 0 0] 32) := ⟨_, rfl⟩
  rw [← hw0] at hB rz
  have HD : Hid (dl (0 : Rat).num.natAbs = 0 ∧ dl (0 : Rat).den = 1 ∧ rneg 0 = false) := ⟨dl_zero, dl_one, rneg_zero⟩
  go_enter Try.func39, Try.ntmps39
  go_upto_region 1 with fail
  rw [← hw0]
  clear hw0
  have o1 := natOk_one (w := w0) 68 (x := 1) (by omega) (by omega)
  have kb := below_one w0 (.cells #[.int .u32 1] 68)
  obtain ⟨w1, hw1⟩ : ∃ W, W = w0.alloc (.cells #[.int .u32 1] 68) := ⟨_, rfl⟩
  have e1 : w0.alloc (.cells #[.int .u32 ((1 : Nat) : Int)] 68) = w1 := hw1.symm
  rw [e1] at o1
  rw [← hw1] at kb
  obtain ⟨g, hg⟩ : ∃ g, g = w0.heap.size := ⟨_, rfl⟩
  rw [← hg] at o1
  clear e1
  replace rz := rowIs_on rz kb
  replace hB := onS hB kb
  clear kb
  have hsz := hB.size
  have za0 := rz.frozen 0
  have za1 := rz.frozen 1
  have za2 := rz.frozen 2
  have ya0 : w1.cell? ⟨w.heap.size, 0, none⟩ = some _ := rz.cell (i := 0) (by omega)
  have ya1 : w1.cell? ⟨w.heap.size, 1, none⟩ = some _ := rz.cell (i := 1) (by omega)
  have ya2 : w1.cell? ⟨w.heap.size, 2, none⟩ = some _ := rz.cell (i := 2) (by omega)
  rw [hw1] at za0 za1 za2 ya0 ya1 ya2
  have HW := hid hw1
  have HG := hid hg
  clear hw1 hg
  go_wp2
  rw [← HW.out, ← HG.out]
  clear HW HG
  generalize hw3 : World.setCell _ _ _ = w2
  have hst : RatStored w1 (w.heap.size) 32 (false) (none) (0) (0) (some ⟨g, 0, none⟩) (1) (1) w2 := by rw [← hw3]; exact rat_stored rz _ _ _ _ _ _ _
  clear hw3
  replace rz := hst.row
  replace hB := hst.below hB (by omega) (by omega)
  replace o1 := hst.nat _ _ _ o1
  rw [← hst.size] at o1
  clear hst
  clear hsz za0 za1 za2 ya0 ya1 ya2
  have e0 : w2.cell? ⟨w.heap.size, 0, none⟩ = some (.bool (false)) := rz.cell (i := 0) (by omega)
  have e1 : w2.cell? ⟨w.heap.size, 1, none⟩ = some (.slice (none) (0) (0)) := rz.cell (i := 1) (by omega)
  have e2 : w2.cell? ⟨w.heap.size, 2, none⟩ = some (.slice (some ⟨g, 0, none⟩) (1) (1)) := rz.cell (i := 2) (by omega)
  refine bodyPost_ret (v := .agg #[.bool false, .slice none 0 0, .slice (some ⟨g, 0, none⟩) 1 1]) (by simp [results, Try.results39, go_sem, e0, e1, e2]) rfl ?_
  exact ⟨none, 0, some ⟨g, 0, none⟩, 1, by rw [HD.out.1, HD.out.2.1, HD.out.2.2], fun i hi => absurd hi (by show ¬ i < dl (0 : Rat).num.natAbs; rw [HD.out.1]; omega), o1, by rw [HD.out.1]; omega, by unfold maxLen; omega, by rw [HD.out.2.1]; omega, by unfold maxLen; omega, hB⟩

end Go.Proofs.Ytlfmnaepcndhiaa

namespace Go.Proofs.Ytlfmnaepcndhiaa
open Go.RowKit

/-- A slice of canonical fractions. -/
def RatList (w : World) (B : Nat) (T : Option Addr) (m : Nat) (rs : Nat → Rat) : Prop :=
  ∀ i, i < m → ∃ b off A c A2 c2, T = some ⟨b, off, none⟩ ∧ b < B ∧ w.cell? ⟨b, off + i * 3, none⟩ = some (.bool (rneg (rs i))) ∧ w.cell? ⟨b, off + i * 3 + 1, none⟩ = some (.slice A (dl (rs i).num.natAbs) c) ∧ w.cell? ⟨b, off + i * 3 + 2, none⟩ = some (.slice A2 (dl (rs i).den) c2) ∧ NatOk w B A (rs i).num.natAbs ∧ NatOk w B A2 (rs i).den ∧ dl (rs i).num.natAbs ≤ c ∧ c ≤ maxLen ∧ dl (rs i).den ≤ c2 ∧ c2 ≤ maxLen
theorem RatList.on {w w' : World} {T : Option Addr} {m : Nat} {rs : Nat → Rat} (h : RatList w w.heap.size T m rs) (hb : Below w.heap.size w w') : RatList w' w'.heap.size T m rs := fun i hi => by
  obtain ⟨b, off, A, c, A2, c2, e, h1, h2, h3, h4, h5, h6, h7⟩ := h i hi
  exact ⟨b, off, A, c, A2, c2, e, Nat.lt_of_lt_of_le h1 hb.size, (hb.cell (p := ⟨b, _, none⟩) h1).trans h2, (hb.cell (p := ⟨b, _, none⟩) h1).trans h3, (hb.cell (p := ⟨b, _, none⟩) h1).trans h4, h5.on hb, h6.on hb, h7⟩

set_option maxRecDepth 100000 in
set_option maxHeartbeats 8000000 in
theorem refSameList_any (T T' : Option Addr) (m c c' N : Nat) (rs : Nat → Rat) (w : World) (h : RatList w w.heap.size T m rs) (h' : RatList w w.heap.size T' m rs) (hm : m ≤ 1048576) (hN : N ≤ 33554432) (hr : Hid (∀ k, k < m → rsz (rs k) N)) :
    Calls Try.prog 36 #[.slice T m c, .slice T' m c'] w fun e w' => e = .returned (.bool true) ∧ Below w.heap.size w w' := by
  go_enter Try.func36, Try.ntmps36
  go_wp2
  go_loopg [5] m (fun gg iv wx => ∃ k : Nat, iv = .int .i64 (k : Nat) ∧ k ≤ m ∧ m ≤ k + gg ∧ Below w.heap.size w wx)
  case atStart => exact ⟨0, rfl, by omega, by omega, Below.refl _ _⟩
  case round =>
    obtain ⟨k, rfl, hk, hkg, hB⟩ := hrel
    have hk0 : (0 : Int) ≤ (k : Int) := by omega
    by_cases hlt : k < m
    · have hlt' : (k : Int) < (m : Int) := by omega
      obtain ⟨b, off, A, d, A2, d2, rfl, hb, t0, t1, t2, m1, m2, _, _, _, _⟩ := h k hlt
      obtain ⟨b', off', A', d', A2', d2', rfl, hb', u0, u1, u2, n1, n2, _, _, _, _⟩ := h' k hlt
      have HRK := hr.out k hlt
      obtain ⟨r, hR⟩ : ∃ r, r = rs k := ⟨_, rfl⟩
      rw [← hR] at t0 t1 t2 m1 m2 u0 u1 u2 n1 n2 HRK
      clear hR
      have HS : Hid (∀ w' : World, Below w.heap.size w w' → w'.cell? ⟨b, off + k * 3, none⟩ = some (.bool (rneg (r))) ∧ w'.cell? ⟨b, off + k * 3 + 1, none⟩ = some (.slice (A) (dl (r).num.natAbs) (d)) ∧ w'.cell? ⟨b, off + k * 3 + 2, none⟩ = some (.slice (A2) (dl (r).den) (d2)) ∧ w'.cell? ⟨b', off' + k * 3, none⟩ = some (.bool (rneg (r))) ∧ w'.cell? ⟨b', off' + k * 3 + 1, none⟩ = some (.slice (A') (dl (r).num.natAbs) (d')) ∧ w'.cell? ⟨b', off' + k * 3 + 2, none⟩ = some (.slice (A2') (dl (r).den) (d2'))) := fun w' hb => ⟨cellS hb t0, cellS hb t1, cellS hb t2, cellS hb u0, cellS hb u1, cellS hb u2⟩
      go_upto_region 6 with fail
      clear t0 t1 t2 u0 u1 u2
      refine wp_region_held_drew (S := fun w' => w'.cell? ⟨b, off + k * 3, none⟩ = some (.bool (rneg (r))) ∧ w'.cell? ⟨b, off + k * 3 + 1, none⟩ = some (.slice (A) (dl (r).num.natAbs) (d)) ∧ w'.cell? ⟨b, off + k * 3 + 2, none⟩ = some (.slice (A2) (dl (r).den) (d2)) ∧ w'.cell? ⟨b', off' + k * 3, none⟩ = some (.bool (rneg (r))) ∧ w'.cell? ⟨b', off' + k * 3 + 1, none⟩ = some (.slice (A') (dl (r).num.natAbs) (d')) ∧ w'.cell? ⟨b', off' + k * 3 + 2, none⟩ = some (.slice (A2') (dl (r).den) (d2'))) (by kernel_rfl) (HS.out _ hB.drew) (fun hHeld => ?_)
      obtain ⟨w1, hw⟩ : ∃ W, W = World.drew wr := ⟨_, rfl⟩
      replace hB : Below w.heap.size w w1 := by rw [hw]; exact hB.drew
      rw [← hw] at hHeld ⊢
      clear hw
      replace m1 := m1.on hB
      replace m2 := m2.on hB
      replace n1 := n1.on hB
      replace n2 := n2.on hB
      refine wpAnyH_take (i := 0) (v := ?_) (by simp only [List.getElem?_toArray, List.getElem?_cons_zero]; rfl) (by kernel_rfl) (by kernel_rfl) (by kernel_rfl) (by exact fun _ _ _ h => h) (Or.inl ⟨by rfl, ?_⟩) (by assumption) ?_
      rotate_left
      · (intro w hSw; (try dsimp only at hSw); go_simp); first | done | with_reducible rfl
      try simp only [Act.put, List.setIfInBounds_toArray, List.set_cons_zero, List.set_cons_succ]
      refine wpAnyH_take (i := 1) (v := ?_) (by simp only [List.getElem?_toArray, List.getElem?_cons_succ, List.getElem?_cons_zero]; rfl) (by kernel_rfl) (by kernel_rfl) (by kernel_rfl) (by exact fun _ _ _ h => h) (Or.inl ⟨by rfl, ?_⟩) (by assumption) ?_
      rotate_left
      · (intro w hSw; (try dsimp only at hSw); go_simp); first | done | with_reducible rfl
      try simp only [Act.put, List.setIfInBounds_toArray, List.set_cons_zero, List.set_cons_succ]
      refine wpAnyH_take (i := 2) (v := ?_) (by simp only [List.getElem?_toArray, List.getElem?_cons_succ, List.getElem?_cons_zero]; rfl) (by kernel_rfl) (by kernel_rfl) (by kernel_rfl) (by exact fun _ _ _ h => h) (Or.inl ⟨by rfl, ?_⟩) (by assumption) ?_
      rotate_left
      · (intro w hSw; (try dsimp only at hSw); go_simp); first | done | with_reducible rfl
      try simp only [Act.put, List.setIfInBounds_toArray, List.set_cons_zero, List.set_cons_succ]
      refine wpAnyH_take (i := 3) (v := ?_) (by simp only [List.getElem?_toArray, List.getElem?_cons_succ, List.getElem?_cons_zero]; rfl) (by kernel_rfl) (by kernel_rfl) (by kernel_rfl) (by exact fun _ _ _ h => h) (Or.inl ⟨by rfl, ?_⟩) (by assumption) ?_
      rotate_left
      · (intro w hSw; (try dsimp only at hSw); go_simp); first | done | with_reducible rfl
      try simp only [Act.put, List.setIfInBounds_toArray, List.set_cons_zero, List.set_cons_succ]
      refine wpAnyH_take (i := 4) (v := ?_) (by simp only [List.getElem?_toArray, List.getElem?_cons_succ, List.getElem?_cons_zero]; rfl) (by kernel_rfl) (by kernel_rfl) (by kernel_rfl) (by exact fun _ _ _ h => h) (Or.inl ⟨by rfl, ?_⟩) (by assumption) ?_
      rotate_left
      · (intro w hSw; (try dsimp only at hSw); go_simp); first | done | with_reducible rfl
      try simp only [Act.put, List.setIfInBounds_toArray, List.set_cons_zero, List.set_cons_succ]
      refine wpAnyH_take (i := 5) (v := ?_) (by simp only [List.getElem?_toArray, List.getElem?_cons_succ, List.getElem?_cons_zero]; rfl) (by kernel_rfl) (by kernel_rfl) (by kernel_rfl) (by exact fun _ _ _ h => h) (Or.inl ⟨by rfl, ?_⟩) (by assumption) ?_
      rotate_left
      · (intro w hSw; (try dsimp only at hSw); go_simp); first | done | with_reducible rfl
      try simp only [Act.put, List.setIfInBounds_toArray, List.set_cons_zero, List.set_cons_succ]
      refine wpAnyH_take (i := 6) (v := ?_) (by simp only [List.getElem?_toArray, List.getElem?_cons_succ, List.getElem?_cons_zero]; rfl) (by kernel_rfl) (by kernel_rfl) (by kernel_rfl) (by exact fun _ _ _ h => h) (Or.inl ⟨by rfl, ?_⟩) (by assumption) ?_
      rotate_left
      · (intro w hSw; (try dsimp only at hSw); go_simp); first | done | with_reducible rfl
      try simp only [Act.put, List.setIfInBounds_toArray, List.set_cons_zero, List.set_cons_succ]
      refine wpAnyH_take (i := 7) (v := ?_) (by simp only [List.getElem?_toArray, List.getElem?_cons_succ, List.getElem?_cons_zero]; rfl) (by kernel_rfl) (by kernel_rfl) (by kernel_rfl) (by exact fun _ _ _ h => h) (Or.inl ⟨by rfl, ?_⟩) (by assumption) ?_
      rotate_left
      · (intro w hSw; (try dsimp only at hSw); go_simp); first | done | with_reducible rfl
      try simp only [Act.put, List.setIfInBounds_toArray, List.set_cons_zero, List.set_cons_succ]
      refine wpAnyH_ready (rs := [8]) (by kernel_rfl) (by simp) ?_
      refine AllReadyH.cons (by simp only [List.getElem?_toArray, List.getElem?_cons_succ, List.getElem?_cons_zero]; rfl) (fun K hK => ?_) AllReadyH.nil
      go_simp
      go_wp2_with fail
      refine (refSame02_any _ _ _ _ _ _ _ _ r N _ m1 m2 n1 n2 hN HRK).mono ?_
      rintro e w2 ⟨rfl, kb⟩
      replace hB := onS hB kb
      clear kb
      refine hK.out _ _ (HS.out _ hB) (fun hHeld => ?_)
      clear hK K
      try simp only [Act.put, List.setIfInBounds_toArray, List.set_cons_zero, List.set_cons_succ]
      refine wpAnyH_take (i := 9) (v := ?_) (by simp only [List.getElem?_toArray, List.getElem?_cons_succ, List.getElem?_cons_zero]; rfl) (by kernel_rfl) (by kernel_rfl) (by kernel_rfl) (by exact fun _ _ _ h => h) (Or.inl ⟨by rfl, ?_⟩) (by assumption) ?_
      rotate_left
      · (intro w hSw; (try dsimp only at hSw); go_simp); first | done | with_reducible rfl
      try simp only [Act.put, List.setIfInBounds_toArray, List.set_cons_zero, List.set_cons_succ]
      refine wpAnyH_done (by kernel_rfl) ?_ _
      clear hHeld
      go_wp2
      go_roundg (gk - 1)
      case measure => omega
      case rel => exact ⟨k + 1, by go_num, by omega, by omega, hB⟩
    · have hlt' : ¬ (k : Int) < (m : Int) := by omega
      go_wp2
      go_ret
      exact ⟨rfl, hB⟩

end Go.Proofs.Ytlfmnaepcndhiaa

namespace Go.Proofs.Ytlfmnaepcndhiaa
open Go.RowKit

set_option maxRecDepth 100000 in
set_option maxHeartbeats 4000000 in
theorem lawSame_any (T T' : Option Addr) (m c c' N : Nat) (rs : Nat → Rat) (w : World) (h : RatList w w.heap.size T m rs) (h' : RatList w w.heap.size T' m rs) (hm : m ≤ 1048576) (hN : N ≤ 33554432) (hr : Hid (∀ k, k < m → rsz (rs k) N)) :
    Calls Try.prog 9 #[.slice T m c, .slice T' m c'] w fun e w' => e = .returned (.bool true) ∧ Below w.heap.size w w' := by
  go_enter Try.func9, Try.ntmps9
  go_wp2_with fail
  refine (refSameList_any T T' m c c' N rs _ h h' hm hN hr).mono ?_
  rintro e w1 ⟨rfl, hB⟩
  go_wp2
  go_ret
  exact ⟨rfl, hB⟩

/-- A slice of fractions by the lengths of its limbs. -/
def RatLens (w : World) (T : Option Addr) (m : Nat) (ln ld : Nat → Nat) : Prop :=
  ∀ i, i < m → ∃ b off s A c A2 c2, T = some ⟨b, off, none⟩ ∧ b < w.heap.size ∧ w.cell? ⟨b, off + i * 3, none⟩ = some (.bool s) ∧ w.cell? ⟨b, off + i * 3 + 1, none⟩ = some (.slice A (ln i) c) ∧ w.cell? ⟨b, off + i * 3 + 2, none⟩ = some (.slice A2 (ld i) c2)
theorem RatLens.on {w w' : World} {T : Option Addr} {m : Nat} {ln ld : Nat → Nat} (h : RatLens w T m ln ld) (hb : Below w.heap.size w w') : RatLens w' T m ln ld := fun i hi => by
  obtain ⟨b, off, s, A, c, A2, c2, e, h1, h2, h3, h4⟩ := h i hi
  exact ⟨b, off, s, A, c, A2, c2, e, Nat.lt_of_lt_of_le h1 hb.size, (hb.cell (p := ⟨b, _, none⟩) h1).trans h2, (hb.cell (p := ⟨b, _, none⟩) h1).trans h3, (hb.cell (p := ⟨b, _, none⟩) h1).trans h4⟩
/-- All are short. -/
def shortsB (ln ld : Nat → Nat) : Nat → Bool
  | 0 => true
  | k + 1 => shortsB ln ld k && (decide (ln k ≤ 4) && decide (ld k ≤ 4))
theorem shortsB_false {ln ld : Nat → Nat} {k m : Nat} (hk : k < m) (h : (decide (ln k ≤ 4) && decide (ld k ≤ 4)) = false) : shortsB ln ld m = false := by
  induction m with
  | zero => omega
  | succ m ih =>
    show (shortsB ln ld m && _) = false
    rcases Nat.lt_or_ge k m with e | e
    · rw [ih e]; rfl
    · obtain rfl : k = m := by omega
      rw [h]; simp
theorem shortsB_true {ln ld : Nat → Nat} {m : Nat} (h : shortsB ln ld m = true) (k : Nat) (hk : k < m) : ln k ≤ 4 ∧ ld k ≤ 4 := by
  cases hx : (decide (ln k ≤ 4) && decide (ld k ≤ 4))
  · rw [shortsB_false hk hx] at h; cases h
  · simpa using hx

set_option maxRecDepth 100000 in
set_option maxHeartbeats 4000000 in
theorem lawShorts_any (T : Option Addr) (m c : Nat) (ln ld : Nat → Nat) (w : World) (h : RatLens w T m ln ld) (hm : m ≤ 1048576) :
    Calls Try.prog 11 #[.slice T m c] w fun e w' => e = .returned (.bool (shortsB ln ld m)) ∧ Below w.heap.size w w' := by
  go_enter Try.func11, Try.ntmps11
  go_wp2
  go_loopg [3] m (fun gg iv wx => ∃ k : Nat, iv = .int .i64 (k : Nat) ∧ k ≤ m ∧ m ≤ k + gg ∧ shortsB ln ld k = true ∧ Below w.heap.size w wx)
  case atStart => exact ⟨0, rfl, by omega, by omega, rfl, Below.refl _ _⟩
  case round =>
    obtain ⟨k, rfl, hk, hkg, hsh, hB⟩ := hrel
    have hk0 : (0 : Int) ≤ (k : Int) := by omega
    by_cases hlt : k < m
    · have hlt' : (k : Int) < (m : Int) := by omega
      obtain ⟨b, off, s, A, d, A2, d2, rfl, hb, t0, t1, t2⟩ := h.on hB k hlt
      have HSH := hid hsh
      clear hsh
      go_wp2_with fail
      refine (lawShort_any s A A2 (ln k) d (ld k) d2 _).mono ?_
      rintro e w1 ⟨rfl, kb⟩
      replace hB := onS hB kb
      obtain ⟨v, hv⟩ : ∃ v, v = (decide (ln k ≤ 4) && decide (ld k ≤ 4)) := ⟨_, rfl⟩
      rw [← hv]
      have HV := hid hv
      clear hv t0 t1 t2
      cases v
      · go_wp2
        go_ret
        exact ⟨by rw [shortsB_false hlt HV.out.symm]; rfl, hB⟩
      · go_wp2
        go_roundg (gk - 1)
        case measure => omega
        case rel => exact ⟨k + 1, by go_num, by omega, by omega, (show (shortsB ln ld k && _) = true by rw [HSH.out, ← HV.out]; rfl), hB⟩
    · have hlt' : ¬ (k : Int) < (m : Int) := by omega
      obtain rfl : k = m := by omega
      have HSH := hid hsh
      clear hsh
      go_wp2
      go_ret
      exact ⟨by rw [HSH.out]; rfl, hB⟩
end Go.Proofs.Ytlfmnaepcndhiaa

namespace Go.Proofs.Ytlfmnaepcndhiaa
open Go.RowKit

/-- m fractions from the block's start on; cell j of element i is f i j; no cell holds a limb. -/
structure RatRow (w : World) (g : Nat) (T : TypeId) (m : Nat) (f : Nat → Nat → Value) : Prop where
  row : w.rowIs g T (m * 3) (fun i => f (i / 3) (i % 3))
  noInt : ∀ i j k, f i j ≠ .int .u32 k
/-- Element k anew. -/
def putRat (f : Nat → Nat → Value) (k : Nat) (a b c : Value) (i j : Nat) : Value := if i = k then ratCell a b c j else f i j
structure RatPut (w : World) (g : Nat) (T : TypeId) (m : Nat) (f : Nat → Nat → Value) (k : Nat) (a b c : Value) (w3 : World) : Prop where
  row : RatRow w3 g T m (putRat f k a b c)
  nat : ∀ B A' x, NatOk w B A' x → NatOk w3 B A' x
  rawn : ∀ B A' n' x, NatRaw w B A' n' x → NatRaw w3 B A' n' x
  size : w3.heap.size = w.heap.size
  grown : w.grownBy w3 (some g)
theorem row_congr3 {w : World} {g : Nat} {T : TypeId} {n : Nat} {f f' : Nat → Value} (h : w.rowIs g T n f) (e : ∀ i, i < n → f i = f' i) : w.rowIs g T n f' := h.congr e
theorem rat_put {w : World} {g : Nat} {T : TypeId} {m : Nat} {f : Nat → Nat → Value} (h : RatRow w g T m f) (k : Nat) (s : Bool) (A : Option Addr) (n c : Nat) (A2 : Option Addr) (p c2 : Nat) :
    RatPut w g T m f k (.bool s) (.slice A n c) (.slice A2 p c2) (((w.setCell ⟨g, k * 3, none⟩ (.bool s)).setCell ⟨g, k * 3 + 1, none⟩ (.slice A n c)).setCell ⟨g, k * 3 + 2, none⟩ (.slice A2 p c2)) := by
  have r0 := NoInt.row h.row fun i hi q => h.noInt _ _ q
  have h1 := h.row.set (k * 3) (.bool s)
  have r1 := NoInt.row h1 fun i hi q => by
    first
    | (split
       · intro e; cases e
       · exact h.noInt _ _ q)
    | (simp only [Function.update]; split
       · intro e; cases e
       · exact h.noInt _ _ q)
  have h2 := h1.set (k * 3 + 1) (.slice A n c)
  have r2 := NoInt.row h2 fun i hi q => by
    split
    · intro e; cases e
    · split
      · intro e; cases e
      · exact h.noInt _ _ q
  have h3 := h2.set (k * 3 + 2) (.slice A2 p c2)
  refine ⟨⟨h3.congr fun i hi => ?_, fun i j q => ?_⟩, fun B A' x hx => ((hx.set r0 _ _).set r1 _ _).set r2 _ _, fun B A' n' x hx => ((hx.set r0 _ _).set r1 _ _).set r2 _ _, by simp, grown_setCell (grown_setCell (grown_setCell (grown_refl w _) _) _) _⟩
  · unfold putRat ratCell
    by_cases e : i / 3 = k
    · rw [if_pos e]
      rcases (by omega : i = k * 3 ∨ i = k * 3 + 1 ∨ i = k * 3 + 2) with rfl | rfl | rfl
      · rw [if_neg (by omega), if_neg (by omega), if_pos rfl, if_pos (by omega)]
      · rw [if_neg (by omega), if_pos rfl, if_neg (by omega), if_pos (by omega)]
      · rw [if_pos rfl, if_neg (by omega), if_neg (by omega)]
    · rw [if_neg e, if_neg (by omega), if_neg (by omega), if_neg (by omega)]
  · unfold putRat ratCell
    split
    · split
      · intro e; cases e
      · split
        · intro e; cases e
        · intro e; cases e
    · exact h.noInt _ _ q
theorem RatPut.below {w w3 w0 : World} {g B : Nat} {T : TypeId} {m k : Nat} {f : Nat → Nat → Value} {a b c : Value} (h : RatPut w g T m f k a b c w3) (hB : Below B w0 w) (hg : B ≤ g) (hs : B ≤ w.heap.size) : Below B w0 w3 :=
  hB.grown h.grown hs (fun q e => by injection e with e; omega)
theorem RatRow.on {w w' : World} {g : Nat} {T : TypeId} {m : Nat} {f : Nat → Nat → Value} (h : RatRow w g T m f) (hb : Below w.heap.size w w') : RatRow w' g T m f := ⟨rowIs_on h.row hb, h.noInt⟩
theorem RatRow.cell {w : World} {g : Nat} {T : TypeId} {m : Nat} {f : Nat → Nat → Value} (h : RatRow w g T m f) {i j : Nat} (hi : i < m) (hj : j < 3) : w.cell? ⟨g, i * 3 + j, none⟩ = some (f i j) := by
  have := h.row.cell (i := i * 3 + j) (by omega)
  rw [show (i * 3 + j) / 3 = i by omega, show (i * 3 + j) % 3 = j by omega] at this
  exact this
end Go.Proofs.Ytlfmnaepcndhiaa

namespace Go.Proofs.Ytlfmnaepcndhiaa
open Go.RowKit

def pairR (r r' : Rat) (i : Nat) : Rat := if i = 0 then r else r'
theorem ratTab_pair {w : World} (T : TypeId) {s s' : Bool} {A A2 A' A2' : Option Addr} {n c k c2 n' c' k' c2' N : Nat} {r r' : Rat}
    (h : RatRaw w w.heap.size (.agg #[.bool s, .slice A n c, .slice A2 k c2]) r N) (h' : RatRaw w w.heap.size (.agg #[.bool s', .slice A' n' c', .slice A2' k' c2']) r' N) :
    RatTab (w.alloc (.cells #[.bool s, .slice A n c, .slice A2 k c2, .bool s', .slice A' n' c', .slice A2' k' c2'] T)) (w.alloc (.cells #[.bool s, .slice A n c, .slice A2 k c2, .bool s', .slice A' n' c', .slice A2' k' c2'] T)).heap.size (some ⟨w.heap.size, 0, none⟩) 2 (pairR r r') N := fun i hi => by
  have hb := below_one w (.cells #[.bool s, .slice A n c, .slice A2 k c2, .bool s', .slice A' n' c', .slice A2' k' c2'] T)
  have hs : w.heap.size < (w.alloc (.cells #[.bool s, .slice A n c, .slice A2 k c2, .bool s', .slice A' n' c', .slice A2' k' c2'] T)).heap.size := by simp
  have hg := heap_alloc_new w (.cells #[.bool s, .slice A n c, .slice A2 k c2, .bool s', .slice A' n' c', .slice A2' k' c2'] T)
  match i, hi with
  | 0, _ => exact ⟨w.heap.size, 0, s, A, n, c, A2, k, c2, rfl, hs, by rw [cell_of_row _ _ _ _ T (0, 0) hg]; rfl, by rw [cell_of_row _ _ _ _ T (0, 0) hg]; rfl, by rw [cell_of_row _ _ _ _ T (0, 0) hg]; rfl, h.on hb⟩
  | 1, _ => exact ⟨w.heap.size, 0, s', A', n', c', A2', k', c2', rfl, hs, by rw [cell_of_row _ _ _ _ T (0, 0) hg]; rfl, by rw [cell_of_row _ _ _ _ T (0, 0) hg]; rfl, by rw [cell_of_row _ _ _ _ T (0, 0) hg]; rfl, h'.on hb⟩
theorem ratMul_tab {w : World} {T : Option Addr} {r r' : Rat} {N : Nat} (h : RatTab w w.heap.size T 2 (pairR r r') N) (hN : N ≤ 33554432) (h1 : 1 ≤ N) (d1 : rsz r N) (d2 : rsz r' N) (d3 : rsz (r * r') N) :
    Calls Try.prog 43 #[.slice T 2 2] w (RatPost (r * r') w) := by
  have e : prodR (pairR r r') 2 = r * r' := by simp [prodR, pairR]
  have e1 : prodR (pairR r r') 1 = r := by simp [prodR, pairR]
  have := ratMul_any T 2 2 N (pairR r r') w h (by omega) hN (hid fun k hk => ?_) (hid fun k hk => ?_)
  · rwa [e] at this
  · match k, hk with
    | 0, _ => exact ⟨by show dl 1 ≤ N; rw [dl_one]; exact h1, by show dl 1 ≤ N; rw [dl_one]; exact h1⟩
    | 1, _ => rw [e1]; exact d1
    | 2, _ => rw [e]; exact d3
  · match k, hk with
    | 0, _ => exact d1
    | 1, _ => exact d2
theorem ratAdd_tab {w : World} {T : Option Addr} {r r' : Rat} {N : Nat} (h : RatTab w w.heap.size T 2 (pairR r r') N) (hN : N ≤ 33554432) (h1 : 1 ≤ N) (d1 : rsz r N) (d2 : rsz r' N) (d3 : rsz (r + r') N) :
    Calls Try.prog 40 #[.slice T 2 2] w (RatPost (r + r') w) := by
  have e : sumR (pairR r r') 2 = r + r' := by simp [sumR, pairR, Rat.zero_add]
  have e1 : sumR (pairR r r') 1 = r := by simp [sumR, pairR, Rat.zero_add]
  have := ratAdd_any T 2 2 N (pairR r r') w h (by omega) hN (hid fun k hk => ?_) (hid fun k hk => ?_)
  · rwa [e] at this
  · match k, hk with
    | 0, _ => exact ⟨by show dl 0 ≤ N; rw [dl_zero]; omega, by show dl 1 ≤ N; rw [dl_one]; exact h1⟩
    | 1, _ => rw [e1]; exact d1
    | 2, _ => rw [e]; exact d3
  · match k, hk with
    | 0, _ => exact d1
    | 1, _ => exact d2
end Go.Proofs.Ytlfmnaepcndhiaa
