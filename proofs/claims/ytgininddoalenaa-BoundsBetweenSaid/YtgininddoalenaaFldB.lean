/- codewrightref04: Is, In, Digits, Value, Add. -/
import Derived.Test.YtgininddoalenaaFldA
import Derived.Deep.RegionHeld3
namespace Go.Proofs.Ytgininddoalenaa
open Go.RowKit

def fldCell (a b c : Value) (i : Nat) : Value := if i = 0 then a else if i = 1 then b else c
theorem fldBox_row {w : World} {a b c : Value} {T : TypeId} : (w.alloc (.cells #[a, b, c] T)).rowIs w.heap.size T 3 (fldCell a b c) :=
  ⟨_, heap_alloc_new w _, rfl, fun i hi => by match i, hi with | 0, _ => rfl | 1, _ => rfl | 2, _ => rfl⟩
theorem rowIs_grownF {w w' : World} {g g2 : Nat} {t : TypeId} {n : Nat} {f : Nat → Value} (h : w.rowIs g2 t n f) (hg : w.grownBy w' (some g)) (hne : g2 ≠ g) : w'.rowIs g2 t n f := h.of_block (hg.block g2 h.lt (by simp; omega))
theorem grown_one (w : World) (g i : Nat) (v : Value) : w.grownBy (w.setCell ⟨g, i, none⟩ v) (some g) := by
  refine ⟨rfl, rfl, rfl, by simp, fun k hk hne => ?_⟩
  simp only [World.setCell, Array.getElem?_modify]
  rw [if_neg (fun e => hne (by rw [e]))]
def isB (q : Nat) (x : Int) : Bool := decide (0 ≤ x ∧ x < q)
/-- An element, or 0. -/
def inV (q : Nat) (x : Int) : Nat := if 0 ≤ x ∧ x < q then x.toNat else 0
theorem inV_lt {q : Nat} (hq : 0 < q) (x : Int) : inV q x < q := by unfold inV; split <;> omega
theorem inV_nat {q x : Nat} (h : x < q) : inV q (x : Int) = x := by unfold inV; rw [if_pos ⟨by omega, by omega⟩]; simp

set_option maxRecDepth 100000 in
set_option maxHeartbeats 4000000 in
theorem is04_any (P M : Nat) (A : Option Addr) (k c : Nat) (x : Int) (w : World) (hf : FldOk P M) :
    Calls Try.prog 106 #[.agg #[.int .i64 (P : Nat), .int .i64 (M : Nat), .slice A k c], .int .i64 x] w fun e w' => e = .returned (.bool (isB (P ^ M) x)) ∧ Below w.heap.size w w' := by
  by_cases h0 : 0 ≤ x
  · have hv : Hid (isB (P ^ M) x = decide (x < (P ^ M : Nat))) := by show _ = _; simp [isB, h0]
    have ho := hid (ordV_ok hf)
    have hB : Below w.heap.size w (w.alloc (.cells #[.int .i64 (P : Nat), .int .i64 (M : Nat), .slice A k c] 29)) := (Below.refl _ _).alloc (Nat.le_refl _) _
    have rf := fldBox_row (w := w) (a := .int .i64 (P : Nat)) (b := .int .i64 (M : Nat)) (c := .slice A k c) (T := 29)
    obtain ⟨w0, hw0⟩ : ∃ W, W = w.alloc (.cells #[.int .i64 (P : Nat), .int .i64 (M : Nat), .slice A k c] 29) := ⟨_, rfl⟩
    rw [← hw0] at hB rf
    go_enter Try.func106, Try.ntmps106
    go_upto_region 1 with fail
    rw [← hw0]
    clear hw0
    have q0 : w0.cell? ⟨w.heap.size, 0, none⟩ = some (.int .i64 (P : Nat)) := rf.cell (i := 0) (by omega)
    have q1 : w0.cell? ⟨w.heap.size, 1, none⟩ = some (.int .i64 (M : Nat)) := rf.cell (i := 1) (by omega)
    have q2 : w0.cell? ⟨w.heap.size, 2, none⟩ = some (.slice A k c) := rf.cell (i := 2) (by omega)
    go_wp2_with fail
    refine (order_any (P : Int) (M : Int) A k c _).mono ?_
    rintro e w1 ⟨rfl, kb⟩
    rw [ho.out]
    replace hB := onS hB kb
    clear kb q0 q1 q2
    obtain ⟨Q, hQ⟩ : ∃ Q, Q = P ^ M := ⟨_, rfl⟩
    rw [← hQ] at hv
    rw [← hQ]
    have HQ := hid hQ
    clear hQ
    go_wp2
    go_ret
    exact ⟨by rw [← HQ.out, hv.out]; rfl, hB⟩
  · have hv : Hid (isB (P ^ M) x = false) := by show _ = _; simp [isB]; omega
    have hB : Below w.heap.size w (w.alloc (.cells #[.int .i64 (P : Nat), .int .i64 (M : Nat), .slice A k c] 29)) := (Below.refl _ _).alloc (Nat.le_refl _) _
    have rf := fldBox_row (w := w) (a := .int .i64 (P : Nat)) (b := .int .i64 (M : Nat)) (c := .slice A k c) (T := 29)
    obtain ⟨w0, hw0⟩ : ∃ W, W = w.alloc (.cells #[.int .i64 (P : Nat), .int .i64 (M : Nat), .slice A k c] 29) := ⟨_, rfl⟩
    rw [← hw0] at hB rf
    go_enter Try.func106, Try.ntmps106
    go_upto_region 1 with fail
    rw [← hw0]
    clear hw0
    go_wp2
    go_ret
    exact ⟨by rw [hv.out]; rfl, hB⟩
set_option maxRecDepth 100000 in
set_option maxHeartbeats 4000000 in
theorem in04_any (P M : Nat) (A : Option Addr) (k c : Nat) (x : Int) (w : World) (hf : FldOk P M) :
    Calls Try.prog 72 #[.agg #[.int .i64 (P : Nat), .int .i64 (M : Nat), .slice A k c], .int .i64 x] w fun e w' => e = .returned (.int .i64 (inV (P ^ M) x : Nat)) ∧ Below w.heap.size w w' := by
  have hB : Below w.heap.size w (w.alloc (.cells #[.int .i64 (P : Nat), .int .i64 (M : Nat), .slice A k c] 29)) := (Below.refl _ _).alloc (Nat.le_refl _) _
  have rf := fldBox_row (w := w) (a := .int .i64 (P : Nat)) (b := .int .i64 (M : Nat)) (c := .slice A k c) (T := 29)
  obtain ⟨w0, hw0⟩ : ∃ W, W = w.alloc (.cells #[.int .i64 (P : Nat), .int .i64 (M : Nat), .slice A k c] 29) := ⟨_, rfl⟩
  rw [← hw0] at hB rf
  go_enter Try.func72, Try.ntmps72
  go_upto_region 1 with fail
  rw [← hw0]
  clear hw0
  have q0 : w0.cell? ⟨w.heap.size, 0, none⟩ = some (.int .i64 (P : Nat)) := rf.cell (i := 0) (by omega)
  have q1 : w0.cell? ⟨w.heap.size, 1, none⟩ = some (.int .i64 (M : Nat)) := rf.cell (i := 1) (by omega)
  have q2 : w0.cell? ⟨w.heap.size, 2, none⟩ = some (.slice A k c) := rf.cell (i := 2) (by omega)
  go_wp2_with fail
  refine (is04_any P M A k c x _ hf).mono ?_
  rintro e w1 ⟨rfl, kb⟩
  replace hB := onS hB kb
  clear kb q0 q1 q2
  by_cases hx : 0 ≤ x ∧ x < (P ^ M : Nat)
  · have hv : Hid ((inV (P ^ M) x : Int) = x) := by show _ = _; unfold inV; rw [if_pos hx]; omega
    have hd : isB (P ^ M) x = true := by unfold isB; simpa using hx
    rw [hd]
    clear hx hd
    go_wp2
    go_ret
    exact ⟨by rw [hv.out]; rfl, hB⟩
  · have hv : Hid (inV (P ^ M) x = 0) := by show _ = _; unfold inV; rw [if_neg hx]
    have hd : isB (P ^ M) x = false := by unfold isB; simpa using hx
    rw [hd]
    clear hx hd
    go_wp2
    go_ret
    exact ⟨by rw [hv.out]; rfl, hB⟩
/-- What a function leaves that returns a new row of one-cell elements. -/
def RowPost (n : Nat) (f : Nat → Value) (w : World) (e : Ending) (w' : World) : Prop := ∃ g, e = .returned (.slice (some ⟨g, 0, none⟩) n n) ∧ w.heap.size ≤ g ∧ w'.rowIs g 3 n f ∧ Below w.heap.size w w'
set_option maxRecDepth 100000 in
set_option maxHeartbeats 4000000 in
theorem digits04_any (P M : Nat) (A : Option Addr) (k c : Nat) (x : Int) (w : World) (hf : FldOk P M) :
    Calls Try.prog 101 #[.agg #[.int .i64 (P : Nat), .int .i64 (M : Nat), .slice A k c], .int .i64 x] w (RowPost M (fun i => .int .i64 (dig P (inV (P ^ M) x) i : Nat)) w) := by
  have hP2 := hf.1
  have hP := hf.P_le
  have hM8 := hf.2.2.1
  have hin := inV_lt (q := P ^ M) (Nat.pow_pos (by omega)) x
  have hq := hf.2.2.2
  have hB : Below w.heap.size w (w.alloc (.cells #[.int .i64 (P : Nat), .int .i64 (M : Nat), .slice A k c] 29)) := (Below.refl _ _).alloc (Nat.le_refl _) _
  have rf := fldBox_row (w := w) (a := .int .i64 (P : Nat)) (b := .int .i64 (M : Nat)) (c := .slice A k c) (T := 29)
  obtain ⟨w0, hw0⟩ : ∃ W, W = w.alloc (.cells #[.int .i64 (P : Nat), .int .i64 (M : Nat), .slice A k c] 29) := ⟨_, rfl⟩
  rw [← hw0] at hB rf
  go_enter Try.func101, Try.ntmps101
  go_upto_region 1 with fail
  rw [← hw0]
  clear hw0
  have HS : Hid (∀ w' : World, w'.rowIs w.heap.size 29 3 (fldCell (.int .i64 (P : Nat)) (.int .i64 (M : Nat)) (.slice A k c)) → w'.cell? ⟨w.heap.size, 0, none⟩ = some (.int .i64 (P : Nat)) ∧ w'.cell? ⟨w.heap.size, 1, none⟩ = some (.int .i64 (M : Nat)) ∧ w'.cell? ⟨w.heap.size, 2, none⟩ = some (.slice A k c)) := fun w' hf  => ⟨hf.cell (i := 0) (by omega), hf.cell (i := 1) (by omega), hf.cell (i := 2) (by omega)⟩
  refine wp_region_held_drew (S := fun w' => w'.cell? ⟨w.heap.size, 0, none⟩ = some (.int .i64 (P : Nat)) ∧ w'.cell? ⟨w.heap.size, 1, none⟩ = some (.int .i64 (M : Nat)) ∧ w'.cell? ⟨w.heap.size, 2, none⟩ = some (.slice A k c)) (by kernel_rfl) (HS.out _ (show World.rowIs (World.drew _) _ _ _ _ from rf)) (fun hHeld => ?_)
  obtain ⟨w1, hw⟩ : ∃ W, W = World.drew w0 := ⟨_, rfl⟩
  have kb : Below w0.heap.size w0 w1 := by rw [hw]; exact (Below.refl _ _).drew
  rw [← hw] at hHeld ⊢
  clear hw
  replace rf := rowIs_on rf kb
  replace hB := onS hB kb
  clear kb
  refine wpAnyH_take (i := 0) (v := ?_) (by simp only [List.getElem?_toArray, List.getElem?_cons_zero]; rfl) (by kernel_rfl) (by kernel_rfl) (by kernel_rfl) (by exact fun _ _ _ h => h) (Or.inl ⟨by rfl, ?_⟩) (by assumption) ?_
  rotate_left
  · (intro w hSw; (try dsimp only at hSw); go_simp); first | done | with_reducible rfl
  try simp only [Act.put, List.setIfInBounds_toArray, List.set_cons_zero, List.set_cons_succ]
  refine wpAnyH_take (i := 1) (v := ?_) (by simp only [List.getElem?_toArray, List.getElem?_cons_succ, List.getElem?_cons_zero]; rfl) (by kernel_rfl) (by kernel_rfl) (by kernel_rfl) (by exact fun _ _ _ h => h) (Or.inl ⟨by rfl, ?_⟩) (by assumption) ?_
  rotate_left
  · (intro w hSw; (try dsimp only at hSw); go_simp); first | done | with_reducible rfl
  try simp only [Act.put, List.setIfInBounds_toArray, List.set_cons_zero, List.set_cons_succ]
  refine wpAnyH_take (i := 3) (v := ?_) (by simp only [List.getElem?_toArray, List.getElem?_cons_succ, List.getElem?_cons_zero]; rfl) (by kernel_rfl) (by kernel_rfl) (by kernel_rfl) (by exact fun _ _ _ h => h) (Or.inl ⟨by rfl, ?_⟩) (by assumption) ?_
  rotate_left
  · (intro w hSw; (try dsimp only at hSw); go_simp); first | done | with_reducible rfl
  try simp only [Act.put, List.setIfInBounds_toArray, List.set_cons_zero, List.set_cons_succ]
  refine wpAnyH_take (i := 4) (v := ?_) (by simp only [List.getElem?_toArray, List.getElem?_cons_succ, List.getElem?_cons_zero]; rfl) (by kernel_rfl) (by kernel_rfl) (by kernel_rfl) (by exact fun _ _ _ h => h) (Or.inl ⟨by rfl, ?_⟩) (by assumption) ?_
  rotate_left
  · (intro w hSw; (try dsimp only at hSw); go_simp); first | done | with_reducible rfl
  try simp only [Act.put, List.setIfInBounds_toArray, List.set_cons_zero, List.set_cons_succ]
  refine wpAnyH_take (i := 5) (v := ?_) (by simp only [List.getElem?_toArray, List.getElem?_cons_succ, List.getElem?_cons_zero]; rfl) (by kernel_rfl) (by kernel_rfl) (by kernel_rfl) (by exact fun _ _ _ h => h) (Or.inl ⟨by rfl, ?_⟩) (by assumption) ?_
  rotate_left
  · (intro w hSw; (try dsimp only at hSw); go_simp); first | done | with_reducible rfl
  try simp only [Act.put, List.setIfInBounds_toArray, List.set_cons_zero, List.set_cons_succ]
  refine wpAnyH_take (i := 6) (v := ?_) (by simp only [List.getElem?_toArray, List.getElem?_cons_succ, List.getElem?_cons_zero]; rfl) (by kernel_rfl) (by kernel_rfl) (by kernel_rfl) (by exact fun _ _ _ h => h) (Or.inl ⟨by rfl, ?_⟩) (by assumption) ?_
  rotate_left
  · (intro w hSw; (try dsimp only at hSw); go_simp); first | done | with_reducible rfl
  try simp only [Act.put, List.setIfInBounds_toArray, List.set_cons_zero, List.set_cons_succ]
  refine wpAnyH_ready (rs := [2]) (by kernel_rfl) (by simp) ?_
  refine AllReadyH.cons (by simp only [List.getElem?_toArray, List.getElem?_cons_succ, List.getElem?_cons_zero]; rfl) (fun K hK => ?_) AllReadyH.nil
  go_simp
  go_wp2_with fail
  refine (in04_any P M A k c x _ hf).mono ?_
  rintro e w2 ⟨rfl, kb⟩
  replace rf := rowIs_on rf kb
  replace hB := onS hB kb
  clear kb
  obtain ⟨y, hy⟩ : ∃ y, y = inV (P ^ M) x := ⟨_, rfl⟩
  rw [← hy] at hin
  rw [← hy]
  have HY := hid hy
  clear hy
  refine hK.out _ _ (HS.out _ rf) (fun hHeld => ?_)
  clear hK K
  try simp only [Act.put, List.setIfInBounds_toArray, List.set_cons_zero, List.set_cons_succ]
  refine wpAnyH_ready (rs := [7]) (by kernel_rfl) (by simp) ?_
  refine AllReadyH.cons (by simp only [List.getElem?_toArray, List.getElem?_cons_succ, List.getElem?_cons_zero]; rfl) (fun K hK => ?_) AllReadyH.nil
  go_simp
  go_wp2_with fail
  refine (digits_any y P M _ (by omega) (by omega) (by omega) (by omega)).mono ?_
  have hgt := hB.size
  obtain ⟨g, hg⟩ : ∃ g, g = w2.heap.size := ⟨_, rfl⟩
  rw [← hg] at hgt ⊢
  rintro e w3 ⟨rfl, rd, kb⟩
  rw [hg] at kb
  replace rf := rowIs_on rf kb
  replace hB := onS hB kb
  clear kb
  clear hg
  refine hK.out _ _ (HS.out _ rf) (fun hHeld => ?_)
  clear hK K
  try simp only [Act.put, List.setIfInBounds_toArray, List.set_cons_zero, List.set_cons_succ]
  refine wpAnyH_take (i := 8) (v := ?_) (by simp only [List.getElem?_toArray, List.getElem?_cons_succ, List.getElem?_cons_zero]; rfl) (by kernel_rfl) (by kernel_rfl) (by kernel_rfl) (by exact fun _ _ _ h => h) (Or.inl ⟨by rfl, ?_⟩) (by assumption) ?_
  rotate_left
  · (intro w hSw; (try dsimp only at hSw); go_simp); first | done | with_reducible rfl
  try simp only [Act.put, List.setIfInBounds_toArray, List.set_cons_zero, List.set_cons_succ]
  refine wpAnyH_done (by kernel_rfl) ?_ _
  clear hHeld
  clear HS
  go_wp2
  go_ret
  exact ⟨g, rfl, hgt, by rw [← HY.out]; exact rd, hB⟩
/-- The number with these digits. -/
def valN (p : Nat) (f : Nat → Nat) : Nat → Nat
  | 0 => 0
  | n + 1 => f 0 + p * valN p (fun i => f (i + 1)) n
theorem valN_lt {p : Nat} : ∀ {n : Nat} {f : Nat → Nat}, (∀ i, i < n → f i < p) → valN p f n < p ^ n
  | 0, _, _ => by show 0 < 1; omega
  | n + 1, f, h => by
    have h1 := valN_lt (p := p) (n := n) (f := fun i => f (i + 1)) fun i hi => h (i + 1) (by omega)
    have h0 := h 0 (by omega)
    show f 0 + p * _ < p ^ (n + 1)
    have h2 : p * (valN p (fun i => f (i + 1)) n + 1) ≤ p * p ^ n := Nat.mul_le_mul_left p h1
    rw [Nat.mul_add, Nat.mul_one] at h2
    rw [Nat.pow_succ, Nat.mul_comm (p ^ n) p]
    omega
theorem valN_congr {p : Nat} : ∀ {n : Nat} {f g : Nat → Nat}, (∀ i, i < n → f i = g i) → valN p f n = valN p g n
  | 0, _, _, _ => rfl
  | n + 1, f, g, h => by
    show f 0 + p * _ = g 0 + p * _
    rw [h 0 (by omega), valN_congr fun i hi => h (i + 1) (by omega)]
set_option maxRecDepth 100000 in
set_option maxHeartbeats 4000000 in
theorem value04_any (P M : Nat) (A : Option Addr) (k c : Nat) (T : Option Addr) (n d : Nat) (f : Nat → Nat) (w : World) (hP2 : 2 ≤ P) (hP : P ≤ 256) (h : IntsR w w.heap.size T n (fun i => (f i : Nat))) (hd : Hid (∀ i, i < n → f i < P)) (hn : P ^ n ≤ 256) (hn8 : n ≤ 8) :
    Calls Try.prog 102 #[.agg #[.int .i64 (P : Nat), .int .i64 (M : Nat), .slice A k c], .slice T n d] w fun e w' => e = .returned (.int .i64 (valN P f n : Nat)) ∧ Below w.heap.size w w' := by
  have hB : Below w.heap.size w (w.alloc (.cells #[.int .i64 (P : Nat), .int .i64 (M : Nat), .slice A k c] 29)) := (Below.refl _ _).alloc (Nat.le_refl _) _
  have rf := fldBox_row (w := w) (a := .int .i64 (P : Nat)) (b := .int .i64 (M : Nat)) (c := .slice A k c) (T := 29)
  obtain ⟨w0, hw0⟩ : ∃ W, W = w.alloc (.cells #[.int .i64 (P : Nat), .int .i64 (M : Nat), .slice A k c] 29) := ⟨_, rfl⟩
  rw [← hw0] at hB rf
  go_enter Try.func102, Try.ntmps102
  go_upto_region 1 with fail
  rw [← hw0]
  clear hw0
  go_wp2
  go_loopg [5, 6] n (fun gg xv iv wx => ∃ j : Nat, iv = .int .i64 ((n : Int) - 1 - (j : Nat)) ∧ xv = .int .i64 (valN P (fun i => f (n - j + i)) j : Nat) ∧ j ≤ n ∧ n ≤ j + gg ∧ wx.rowIs w.heap.size 29 3 (fldCell (.int .i64 (P : Nat)) (.int .i64 (M : Nat)) (.slice A k c)) ∧ Below w.heap.size w wx)
  case atStart => exact ⟨0, by go_num, rfl, by omega, by omega, rf, hB⟩
  case round =>
    clear rf hB
    obtain ⟨j, rfl, rfl, hj, hjg, rf, hB⟩ := hrel
    have hvl := valN_lt (p := P) (n := j) (f := fun i => f (n - j + i)) (fun i hi => hd.out _ (by omega))
    have hpw : P ^ j ≤ P ^ n := Nat.pow_le_pow_right (by omega) hj
    by_cases hlt : j < n
    · have hge : (0 : Int) ≤ (n : Int) - 1 - (j : Int) := by omega
      obtain ⟨i, hi⟩ : ∃ i : Nat, i = n - 1 - j := ⟨_, rfl⟩
      have hii : (n : Int) - 1 - (j : Int) = (i : Int) := by omega
      have hin : i < n := by omega
      have hin' : (i : Int) < (n : Int) := by omega
      have hi0 : (0 : Int) ≤ (i : Int) := by omega
      rw [hii]
      obtain ⟨b, o, rfl, hb, e0⟩ := (h.on hB).at hin
      have hfi := hd.out i hin
      have hnx : valN P (fun t => f (n - (j + 1) + t)) (j + 1) = f i + P * valN P (fun t => f (n - j + t)) j := by
        show f (n - (j + 1) + 0) + P * valN P (fun t => f (n - (j + 1) + (t + 1))) j = _
        rw [show n - (j + 1) + 0 = i by omega]
        congr 2
        exact valN_congr fun t _ => by rw [show n - (j + 1) + (t + 1) = n - j + t by omega]
      obtain ⟨V, hV⟩ : ∃ V, V = valN P (fun t => f (n - j + t)) j := ⟨_, rfl⟩
      obtain ⟨D, hD⟩ : ∃ D, D = f i := ⟨_, rfl⟩
      rw [← hV] at hvl hnx
      rw [← hD] at e0 hfi hnx
      rw [← hV]
      have HNX := hid hnx
      have HI := hid hi
      have HII := hid hii
      clear hV hD hnx hi hii hge
      have hV0 : (0 : Int) ≤ (V : Int) := by omega
      have hV1 : (V : Int) ≤ 256 := by omega
      have hD0 : (0 : Int) ≤ (D : Int) := by omega
      have hD1 : (D : Int) ≤ 256 := by omega
      have hVP : V * P ≤ 256 * 256 := Nat.mul_le_mul (by omega) hP
      have hmul : (V : Int) * (P : Int) = ((V * P : Nat) : Int) := by simp
      obtain ⟨R, hR⟩ : ∃ R, R = V * P := ⟨_, rfl⟩
      rw [← hR] at hVP hmul
      have HR := hid hR
      clear hR
      have hw1 : IntKind.i64.wrap ((V : Int) * (P : Int)) = (R : Int) := by rw [hmul]; exact IntWalk.i64_in _ (by omega)
      have hw2 : IntKind.i64.wrap ((R : Int) + (D : Int)) = (R : Int) + (D : Int) := IntWalk.i64_in _ (by omega)
      have hw3 : IntKind.i64.wrap (R : Int) = (R : Int) := IntWalk.i64_in _ (by omega)
      have q0 : wr.cell? ⟨w.heap.size, 0, none⟩ = some (.int .i64 (P : Nat)) := rf.cell (i := 0) (by omega)
      have q1 : wr.cell? ⟨w.heap.size, 1, none⟩ = some (.int .i64 (M : Nat)) := rf.cell (i := 1) (by omega)
      have q2 : wr.cell? ⟨w.heap.size, 2, none⟩ = some (.slice A k c) := rf.cell (i := 2) (by omega)
      go_wp2
      go_quiet (fail)
      clear q0 q1 q2
      go_wp2
      go_roundg (gk - 1)
      case measure => omega
      case rel => exact ⟨j + 1, by have := HII.out; go_num, by rw [HNX.out, Nat.mul_comm P V, ← HR.out]; go_num, by omega, by omega, rowIs_drewN rf _, below_drewN hB _⟩
    · obtain rfl : j = n := by omega
      have hge : ¬ (0 : Int) ≤ (j : Int) - 1 - (j : Int) := by omega
      have hge2 : ¬ (j : Int) ≤ (j : Int) - 1 := by omega
      have hv : valN P (fun i => f (j - j + i)) j = valN P f j := valN_congr fun i _ => by rw [show j - j + i = i by omega]
      rw [hv] at hvl ⊢
      obtain ⟨V, hV⟩ : ∃ V, V = valN P f j := ⟨_, rfl⟩
      rw [← hV] at hvl ⊢
      have HV := hid hV
      clear hV hv rf
      go_wp2
      go_ret
      exact ⟨by rw [HV.out]; rfl, hB⟩
end Go.Proofs.Ytgininddoalenaa
