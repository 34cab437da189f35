/- Are two layered graphs the same: codewrightref11.Same, codewrightref47.Same, slices.Equal, slices.EqualFunc. -/
import Derived.Test.YtnocbkhnmdmfhaaVisMem
import Derived.Laws.StructEq
namespace Go.Proofs.Ytnocbkhnmdmfhaa
open Go.RowKit

def EqRow (n m : Nat) (f g : Nat → Int) : Prop := n = m ∧ ∀ i, i < n → f i = g i
/-- A bool is returned that says whether p. -/
def Says (p : Prop) (w : World) (e : Ending) (w' : World) : Prop := ∃ b : Bool, e = .returned (.bool b) ∧ (b = true ↔ p) ∧ Below w.heap.size w w'
theorem Says.yes {p : Prop} {w w' : World} (h : p) (hb : Below w.heap.size w w') : Says p w (.returned (.bool true)) w' := ⟨true, rfl, by simpa using h, hb⟩
theorem Says.no {p : Prop} {w w' : World} (h : ¬ p) (hb : Below w.heap.size w w') : Says p w (.returned (.bool false)) w' := ⟨false, rfl, by simpa using h, hb⟩
set_option maxHeartbeats 4000000 in
theorem compare11_any (A B : Option Addr) (n m c d : Nat) (f g : Nat → Int) (w : World) (ha : IntsR w w.heap.size A n f) (hb : IntsR w w.heap.size B m g) (hn : n ≤ 140737488351232) (hm : m ≤ 140737488351232) :
    Calls Try.prog 46 #[.slice A n c, .slice B m d] w fun e w' => ∃ r : Int, e = .returned (.int .i64 r) ∧ (r = 0 ↔ EqRow n m f g) ∧ Below w.heap.size w w' := by
  have HA := hid ha
  have HB := hid hb
  clear ha hb
  go_enter Try.func46, Try.ntmps46
  go_wp2
  go_loopg [5] n (fun gg iv wx => ∃ k : Nat, iv = .int .i64 (k : Nat) ∧ k ≤ n ∧ k ≤ m ∧ n ≤ k + gg ∧ (∀ i, i < k → f i = g i) ∧ Below w.heap.size w wx)
  case atStart => exact ⟨0, rfl, by omega, by omega, by omega, fun i hi => absurd hi (by omega), Below.refl _ _⟩
  case round =>
    obtain ⟨k, rfl, hk, hkm, hkg, heq, hW⟩ := hrel
    have hk0 : (0 : Int) ≤ (k : Int) := by omega
    have HEQ := hid heq
    clear heq
    by_cases hlt : k < n
    · have hlt' : (k : Int) < (n : Int) := by omega
      by_cases hlm : k < m
      · have hlm' : (k : Int) < (m : Int) := by omega
        have hd : decide ((k : Int) < (n : Int)) = true := by simp; omega
        have hd2 : decide ((k : Int) < (m : Int)) = true := by simp; omega
        obtain ⟨ab, ao, rfl, hab, x0⟩ := (HA.out.on hW).at hlt
        obtain ⟨bb, bo, rfl, hbb, y0⟩ := (HB.out.on hW).at hlm
        obtain ⟨x, hx⟩ : ∃ x, x = f k := ⟨_, rfl⟩
        obtain ⟨y, hy⟩ : ∃ y, y = g k := ⟨_, rfl⟩
        rw [← hx] at x0
        rw [← hy] at y0
        have HX := hid hx
        have HY := hid hy
        clear hx hy
        by_cases h1 : x < y
        · go_wp2
          go_quiet (fail)
          go_wp2
          go_ret
          exact ⟨-1, rfl, ⟨fun h => absurd h (by omega), fun h => absurd (h.2 k hlt) (by rw [← HX.out, ← HY.out]; omega)⟩, below_drewN hW _⟩
        · by_cases h2 : y < x
          · have h2' : x > y := h2
            go_wp2
            go_quiet (fail)
            go_wp2
            go_quiet (fail)
            go_wp2
            go_ret
            exact ⟨1, rfl, ⟨fun h => absurd h (by omega), fun h => absurd (h.2 k hlt) (by rw [← HX.out, ← HY.out]; omega)⟩, below_drewN (below_drewN hW _) _⟩
          · have h2' : ¬ x > y := h2
            go_wp2
            go_quiet (fail)
            go_wp2
            go_quiet (fail)
            go_wp2
            go_roundg (gk - 1)
            case measure => omega
            case rel =>
              refine ⟨k + 1, by go_num, by omega, by omega, by omega, fun i hi => ?_, below_drewN hW _⟩
              by_cases e : i = k
              · subst e; rw [← HX.out, ← HY.out]; omega
              · exact HEQ.out i (by omega)
      · have hlm' : ¬ (k : Int) < (m : Int) := by omega
        have hd : decide ((k : Int) < (n : Int)) = true := by simp; omega
        have hd2 : decide ((k : Int) < (m : Int)) = false := by simp; omega
        have h3 : ¬ (n : Int) < (m : Int) := by omega
        have h4 : (n : Int) > (m : Int) := by omega
        go_wp2
        go_ret
        exact ⟨1, rfl, ⟨fun h => absurd h (by omega), fun h => absurd h.1 (by omega)⟩, hW⟩
    · have hlt' : ¬ (k : Int) < (n : Int) := by omega
      have hd : decide ((k : Int) < (n : Int)) = false := by simp; omega
      by_cases h3 : (n : Int) < (m : Int)
      · go_wp2
        go_ret
        exact ⟨-1, rfl, ⟨fun h => absurd h (by omega), fun h => absurd h.1 (by omega)⟩, hW⟩
      · have h4 : ¬ (n : Int) > (m : Int) := by omega
        go_wp2
        go_ret
        exact ⟨0, rfl, ⟨fun _ => ⟨by omega, fun i hi => HEQ.out i (by omega)⟩, fun _ => rfl⟩, hW⟩
theorem same11_any (A B : Option Addr) (n m c d : Nat) (f g : Nat → Int) (w : World) (ha : IntsR w w.heap.size A n f) (hb : IntsR w w.heap.size B m g) (hn : n ≤ 140737488351232) (hm : m ≤ 140737488351232) :
    Calls Try.prog 15 #[.slice A n c, .slice B m d] w (Says (EqRow n m f g) w) := by
  go_enter Try.func15, Try.ntmps15
  go_wp2_with fail
  refine (compare11_any A B n m c d f g w ha hb hn hm).mono ?_
  rintro e w1 ⟨r, rfl, hr, hb1⟩
  by_cases h0 : r = 0
  · have hc : (r == 0) = true := by simp [h0]
    go_wp2
    go_ret
    exact Says.yes (hr.1 h0) hb1
  · have hc : (r == 0) = false := by simp [h0]
    go_wp2
    go_ret
    exact Says.no (fun h => h0 (hr.2 h)) hb1
set_option maxHeartbeats 4000000 in
theorem equalInts_any (A B : Option Addr) (n m c d : Nat) (f g : Nat → Int) (w : World) (ha : IntsR w w.heap.size A n f) (hb : IntsR w w.heap.size B m g) (hn : n ≤ 140737488351232) :
    Calls Try.prog 74 #[.slice A n c, .slice B m d] w (Says (EqRow n m f g) w) := by
  have HA := hid ha
  have HB := hid hb
  clear ha hb
  go_enter Try.func74, Try.ntmps74
  by_cases hnm : n = m
  · subst hnm
    have hc : ((n : Int) != (n : Int)) = false := by simp
    go_wp2
    go_loopg [13] n (fun gg iv wx => ∃ k : Nat, iv = .int .i64 (k : Nat) ∧ k ≤ n ∧ n ≤ k + gg ∧ (∀ i, i < k → f i = g i) ∧ Below w.heap.size w wx)
    case atStart => exact ⟨0, rfl, by omega, by omega, fun i hi => absurd hi (by omega), Below.refl _ _⟩
    case round =>
      obtain ⟨k, rfl, hk, hkg, heq, hW⟩ := hrel
      have hk0 : (0 : Int) ≤ (k : Int) := by omega
      have HEQ := hid heq
      clear heq
      by_cases hlt : k < n
      · have hlt' : (k : Int) < (n : Int) := by omega
        obtain ⟨ab, ao, rfl, hab, x0⟩ := (HA.out.on hW).at hlt
        obtain ⟨bb, bo, rfl, hbb, y0⟩ := (HB.out.on hW).at hlt
        obtain ⟨x, hx⟩ : ∃ x, x = f k := ⟨_, rfl⟩
        obtain ⟨y, hy⟩ : ∃ y, y = g k := ⟨_, rfl⟩
        rw [← hx] at x0
        rw [← hy] at y0
        have HX := hid hx
        have HY := hid hy
        clear hx hy
        by_cases h1 : x = y
        · have h1' : (x != y) = false := by simp [h1]
          go_wp2
          go_quiet (fail)
          go_wp2
          go_roundg (gk - 1)
          case measure => omega
          case rel =>
            refine ⟨k + 1, by go_num, by omega, by omega, fun i hi => ?_, below_drewN hW _⟩
            by_cases e : i = k
            · subst e; rw [← HX.out, ← HY.out]; exact h1
            · exact HEQ.out i (by omega)
        · have h1' : (x != y) = true := by simpa using h1
          go_wp2
          go_quiet (fail)
          go_wp2
          go_ret
          exact Says.no (fun h => h1 (by rw [HX.out, HY.out]; exact h.2 k hlt)) (below_drewN hW _)
      · have hlt' : ¬ (k : Int) < (n : Int) := by omega
        go_wp2
        go_ret
        exact Says.yes ⟨rfl, fun i hi => HEQ.out i (by omega)⟩ hW
  · have hc : ((n : Int) != (m : Int)) = true := by simp; omega
    go_wp2
    go_ret
    exact Says.no (fun h => hnm h.1) (Below.refl _ _)
theorem neqEdge (a0 a1 a2 b0 b1 b2 : Int) (w : World) : (binOp .neq 72 (.agg #[.int .i64 a0, .int .i64 a1, .int .i64 a2]) (.agg #[.int .i64 b0, .int .i64 b1, .int .i64 b2])).run Try.prog w = .ok (.bool (!decide (a0 = b0 ∧ a1 = b1 ∧ a2 = b2))) w := by
  have u3 := Try.underlying3
  have hS : Try.prog.underlying 72 = some (.struct (Try.prog.fieldsOf 72)) := by kernel_rfl
  have hp : Try.prog.stoodInHeld 72 = false := by kernel_rfl
  rw [run_neq_struct, show (10000 : Nat) = 9999 + 1 from rfl, run_equalIn_agg w 9999 72 _ _ hS hp]
  simp only [Program.fieldsOf, Try.underlying72]
  go_simp
  by_cases h1 : a0 = b0 <;> by_cases h2 : a1 = b1 <;> by_cases h3 : a2 = b2 <;> simp [h1, h2, h3]
theorem guardEdge : Try.prog.eqGuardType Try.prog.depth 72 = false := by kernel_rfl
def EqEdges (n m : Nat) (x y : Nat → Int × Int × Int) : Prop := n = m ∧ ∀ i, i < n → x i = y i
set_option maxHeartbeats 4000000 in
theorem equalEdges_any (A B : Option Addr) (n m c d : Nat) (x y : Nat → Int × Int × Int) (w : World) (ha : Rd w w.heap.size A n 3 (edgeCell x)) (hb : Rd w w.heap.size B m 3 (edgeCell y)) (hn : n ≤ 140737488351232) :
    Calls Try.prog 76 #[.slice A n c, .slice B m d] w (Says (EqEdges n m x y) w) := by
  have HA := hid ha
  have HB := hid hb
  clear ha hb
  go_enter Try.func76, Try.ntmps76
  by_cases hnm : n = m
  · subst hnm
    have hc : ((n : Int) != (n : Int)) = false := by simp
    go_wp2
    go_loopg [13] n (fun gg iv wx => ∃ k : Nat, iv = .int .i64 (k : Nat) ∧ k ≤ n ∧ n ≤ k + gg ∧ (∀ i, i < k → x i = y i) ∧ Below w.heap.size w wx)
    case atStart => exact ⟨0, rfl, by omega, by omega, fun i hi => absurd hi (by omega), Below.refl _ _⟩
    case round =>
      obtain ⟨k, rfl, hk, hkg, heq, hW⟩ := hrel
      have hk0 : (0 : Int) ≤ (k : Int) := by omega
      have HEQ := hid heq
      clear heq
      by_cases hlt : k < n
      · have hlt' : (k : Int) < (n : Int) := by omega
        obtain ⟨ab, ao, rfl, hab, x0, x1, x2⟩ := Rd.at3 ((Rd.below HA.out hW (Nat.le_refl _)).mono hW.size) hlt
        obtain ⟨bb, bo, rfl, hbb, y0, y1, y2⟩ := Rd.at3 ((Rd.below HB.out hW (Nat.le_refl _)).mono hW.size) hlt
        change wr.cell? _ = some (.int .i64 (x k).1) at x0
        change wr.cell? _ = some (.int .i64 (x k).2.1) at x1
        change wr.cell? _ = some (.int .i64 (x k).2.2) at x2
        change wr.cell? _ = some (.int .i64 (y k).1) at y0
        change wr.cell? _ = some (.int .i64 (y k).2.1) at y1
        change wr.cell? _ = some (.int .i64 (y k).2.2) at y2
        have HXY : Hid (x k = y k ↔ (x k).1 = (y k).1 ∧ (x k).2.1 = (y k).2.1 ∧ (x k).2.2 = (y k).2.2) := by
          show _ ↔ _
          constructor
          · intro e; rw [e]; exact ⟨rfl, rfl, rfl⟩
          · rintro ⟨e1, e2, e3⟩
            exact Prod.ext e1 (Prod.ext e2 e3)
        generalize (x k).1 = a0 at *
        generalize (x k).2.1 = a1 at *
        generalize (x k).2.2 = a2 at *
        generalize (y k).1 = b0 at *
        generalize (y k).2.1 = b1 at *
        generalize (y k).2.2 = b2 at *
        have hne := fun W => neqEdge a0 a1 a2 b0 b1 b2 W
        have hgu := guardEdge
        by_cases h1 : a0 = b0 ∧ a1 = b1 ∧ a2 = b2
        · have hq := HXY.out.2 h1
          have HQ := hid hq
          have hde : decide (a0 = b0 ∧ a1 = b1 ∧ a2 = b2) = true := decide_eq_true h1
          rw [hde] at hne
          clear hq HXY h1 hde
          go_wp2
          go_quiet (fail)
          go_wp2
          go_roundg (gk - 1)
          case measure => omega
          case rel =>
            refine ⟨k + 1, by go_num, by omega, by omega, fun i hi => ?_, below_drewN hW _⟩
            by_cases e : i = k
            · subst e; exact HQ.out
            · exact HEQ.out i (by omega)
        · have hq : ¬ x k = y k := fun e => h1 (HXY.out.1 e)
          have HQ := hid hq
          have hde : decide (a0 = b0 ∧ a1 = b1 ∧ a2 = b2) = false := decide_eq_false h1
          rw [hde] at hne
          clear hq HXY h1 hde
          go_wp2
          go_quiet (fail)
          go_wp2
          go_ret
          exact Says.no (fun h => HQ.out (h.2 k hlt)) (below_drewN hW _)
      · have hlt' : ¬ (k : Int) < (n : Int) := by omega
        go_wp2
        go_ret
        exact Says.yes ⟨rfl, fun i hi => HEQ.out i (by omega)⟩ hW
  · have hc : ((n : Int) != (m : Int)) = true := by simp; omega
    go_wp2
    go_ret
    exact Says.no (fun h => hnm h.1) (Below.refl _ _)
/-- Edge j of section i. -/
def Trel.ed (T : Trel) (i j : Nat) : Int × Int × Int := (T.fr i j, T.lb i j, T.to i j)
def EqSecs (T U : Trel) : Prop := T.n = U.n ∧ ∀ i, i < T.n → EqEdges (T.el i) (U.el i) (T.ed i) (U.ed i)
def SameT (T U : Trel) : Prop := EqRow T.nw U.nw T.W U.W ∧ EqSecs T U
theorem Trel.Reads.sec' {T : Trel} {w : World} {A B : Option Addr} (h : T.Reads w A B) {i : Nat} (hi : i < T.n) : ∃ b off E c, B = some ⟨b, off, none⟩ ∧ b < w.heap.size ∧ w.cell? ⟨b, off + i, none⟩ = some (.slice E (T.el i) c) ∧ Rd w w.heap.size E (T.el i) 3 (edgeCell (T.ed i)) := by
  obtain ⟨b, off, E, c, e, h1, h2, _, _, h3, _⟩ := h.sec hi
  exact ⟨b, off, E, c, e, h1, h2, h3⟩
set_option maxHeartbeats 4000000 in
theorem equalSecs_any (T U : Trel) (A B A' B' : Option Addr) (d d' : Nat) (w : World) (hT : T.Reads w A B) (hU : U.Reads w A' B') :
    Calls Try.prog 75 #[.slice B T.n d, .slice B' U.n d', .func (.func 76) #[] #[]] w (Says (EqSecs T U) w) := by
  have HT := hid hT
  have HU := hid hU
  have hn := hT.2.2.2.2.1
  have heg : ∀ args w, (callFunc 76 args).run Try.prog w = .ok (.enter 76 args) w := enters_of Try.func76 (by kernel_rfl) rfl
  clear hT hU
  go_enter Try.func75, Try.ntmps75
  by_cases hnm : T.n = U.n
  · have HNM := hid hnm
    rw [← hnm]
    clear hnm
    have hc : ((T.n : Int) != (T.n : Int)) = false := by simp
    go_wp2
    go_loopg [17] T.n (fun gg iv wx => ∃ k : Nat, iv = .int .i64 (k : Nat) ∧ k ≤ T.n ∧ T.n ≤ k + gg ∧ (∀ i, i < k → EqEdges (T.el i) (U.el i) (T.ed i) (U.ed i)) ∧ Below w.heap.size w wx)
    case atStart => exact ⟨0, rfl, by omega, by omega, fun i hi => absurd hi (by omega), Below.refl _ _⟩
    case round =>
      obtain ⟨k, rfl, hk, hkg, heq, hW⟩ := hrel
      have hk0 : (0 : Int) ≤ (k : Int) := by omega
      have HEQ := hid heq
      clear heq
      by_cases hlt : k < T.n
      · have hlt' : (k : Int) < (T.n : Int) := by omega
        obtain ⟨ab, ao, E, ec, rfl, hab, x0, x1⟩ := (HT.out.on hW).sec' hlt
        obtain ⟨bb, bo, F, fc, rfl, hbb, y0, y1⟩ := (HU.out.on hW).sec' (by rw [← HNM.out]; exact hlt)
        have hel := HT.out.2.2.2.2.2 k hlt
        obtain ⟨el, hele⟩ : ∃ n, n = T.el k := ⟨_, rfl⟩
        obtain ⟨fl, hfle⟩ : ∃ n, n = U.el k := ⟨_, rfl⟩
        have HE := hid hele
        have HF := hid hfle
        rw [← hele] at x0 x1 hel
        rw [← hfle] at y0 y1
        clear hele hfle
        go_wp2_with fail
        refine (equalEdges_any E F el fl ec fc (T.ed k) (U.ed k) wr x1 y1 hel).mono ?_
        rintro e w1 ⟨b, rfl, hb, hb1⟩
        have hW1 := onS hW hb1
        cases b
        · go_wp2
          go_ret
          exact Says.no (fun h => absurd (hb.2 (by rw [HE.out, HF.out]; exact h.2 k hlt)) (by decide)) hW1
        · have HEK : Hid (EqEdges (T.el k) (U.el k) (T.ed k) (U.ed k)) := by rw [← HE.out, ← HF.out]; exact hb.1 rfl
          clear hb hb1 x0 x1 y0 y1
          go_wp2
          go_roundg (gk - 1)
          case measure => omega
          case rel =>
            refine ⟨k + 1, by go_num, by omega, by omega, fun i hi => ?_, hW1⟩
            by_cases e : i = k
            · subst e; exact HEK.out
            · exact HEQ.out i (by omega)
      · have hlt' : ¬ (k : Int) < (T.n : Int) := by omega
        go_wp2
        go_ret
        exact Says.yes ⟨HNM.out, fun i hi => HEQ.out i (by omega)⟩ hW
  · have hc : ((T.n : Int) != (U.n : Int)) = true := by simp; omega
    go_wp2
    go_ret
    exact Says.no (fun h => hnm h.1) (Below.refl _ _)
set_option maxRecDepth 100000 in
set_option maxHeartbeats 8000000 in
theorem refSame47_any (T U : Trel) (A B A' B' : Option Addr) (c d c' d' : Nat) (w : World) (hT : T.Reads w A B) (hU : U.Reads w A' B') :
    Calls Try.prog 36 #[.agg #[.slice A T.nw c, .slice B T.n d], .agg #[.slice A' U.nw c', .slice B' U.n d']] w (Says (SameT T U) w) := by
  obtain ⟨R1, hR1⟩ : ∃ o, o = (Obj.cells #[.slice A T.nw c, .slice B T.n d] 25) := ⟨_, rfl⟩
  obtain ⟨R2, hR2⟩ : ∃ o, o = (Obj.cells #[.slice A' U.nw c', .slice B' U.n d'] 25) := ⟨_, rfl⟩
  have hB0 : Below (w.heap.size + 2) ((w.alloc R1).alloc R2) ((w.alloc R1).alloc R2) := Below.refl _ _
  have HS : Hid (∀ w', Below (w.heap.size + 2) ((w.alloc R1).alloc R2) w' → (w'.cell? ⟨w.heap.size, 0, none⟩ = some (.slice A T.nw c) ∧ w'.cell? ⟨w.heap.size, 1, none⟩ = some (.slice B T.n d) ∧ w'.cell? ⟨w.heap.size + 1, 0, none⟩ = some (.slice A' U.nw c') ∧ w'.cell? ⟨w.heap.size + 1, 1, none⟩ = some (.slice B' U.n d')) ∧ Below w.heap.size w w') := fun w' hB => by
    have k1 := box2_one hB
    have k2 : w'.rowIs (w.heap.size + 1) 25 2 (fun i => (#[Value.slice A' U.nw c', .slice B' U.n d'] : Array Value).getD i undef) := by subst hR2; exact box2_two hB
    have hB' := tbox_below k1
    subst hR1
    exact ⟨⟨tbox k1 rfl, tbox k1 rfl, k2.cell (i := 0) (by omega), k2.cell (i := 1) (by omega)⟩, hB'⟩
  have HT := hid hT
  have HU := hid hU
  have hn := hT.2.2.2.2.1
  have hnw := hT.2.2.2.1
  have hnw2 := hU.2.2.2.1
  clear hT hU
  obtain ⟨⟨p0, p1, p2, p3⟩, hW⟩ := HS.out _ hB0
  go_enter Try.func36, Try.ntmps36
  go_wp2_with fail
  rw [← hR1, ← hR2]
  refine (same11_any A A' T.nw U.nw c c' T.W U.W _ (HT.out.on hW).1 (HU.out.on hW).1 hnw hnw2).mono ?_
  rintro e w1 ⟨b, rfl, hb, hb1⟩
  have hB1 := hB0.trans (hb1.mono (by simp))
  have HEW := hid hb
  clear hW p0 p1 p2 p3 hB0 hb hb1 hR1 hR2
  obtain ⟨⟨p0, p1, p2, p3⟩, hW⟩ := HS.out _ hB1
  cases b
  · go_wp2
    go_ret
    exact Says.no (fun h => absurd (HEW.out.2 h.1) (by decide)) hW
  · by_cases hnm : T.n = U.n
    · have HNM := hid hnm
      rw [← hnm] at p3 ⊢
      clear hnm
      have hc : ((T.n : Int) != (T.n : Int)) = false := by simp
      go_wp2
      go_loopg [5] T.n (fun gg iv wx => ∃ i : Nat, iv = .int .i64 (i : Nat) ∧ i ≤ T.n ∧ T.n ≤ i + gg ∧ (∀ k, k < i → EqEdges (T.el k) (U.el k) (T.ed k) (U.ed k)) ∧ Below (w.heap.size + 2) ((w.alloc R1).alloc R2) wx)
      case atStart => exact ⟨0, rfl, by omega, by omega, fun i hi => absurd hi (by omega), hB1⟩
      case round =>
        clear p0 p1 p2 p3 hW hB1
        obtain ⟨gI, hgI⟩ : ∃ g, g = gk := ⟨_, rfl⟩
        subst hgI
        obtain ⟨i, rfl, hi, hig, heq, hB⟩ := hrel
        have hi0 : (0 : Int) ≤ (i : Int) := by omega
        have HEQ := hid heq
        clear heq
        obtain ⟨⟨p0, p1, p2, p3⟩, hW⟩ := HS.out _ hB
        rw [← HNM.out] at p3
        by_cases hlt : i < T.n
        · have hlt' : (i : Int) < (T.n : Int) := by omega
          obtain ⟨ab, ao, E, ec, rfl, hab, x0, x1⟩ := HT.out.sec' hlt
          obtain ⟨bb, bo, F, fc, rfl, hbb, y0, y1⟩ := HU.out.sec' (by rw [← HNM.out]; exact hlt)
          have hel := HT.out.2.2.2.2.2 i hlt
          obtain ⟨el, hele⟩ : ∃ n, n = T.el i := ⟨_, rfl⟩
          obtain ⟨fl, hfle⟩ : ∃ n, n = U.el i := ⟨_, rfl⟩
          have HE := hid hele
          have HF := hid hfle
          rw [← hele] at x0 x1 hel
          rw [← hfle] at y0 y1
          have HX1 := hid x1
          have HY1 := hid y1
          have HX0 := hid x0
          have HY0 := hid y0
          have xr := (hW.cell (p := ⟨ab, ao + i, none⟩) hab).trans x0
          have yr := (hW.cell (p := ⟨bb, bo + i, none⟩) hbb).trans y0
          clear hele hfle x0 x1 y0 y1
          by_cases hlen : el = fl
          · subst hlen
            have hc2 : ((el : Int) != (el : Int)) = false := by simp
            go_wp2
            go_quiet (fail)
            have HB := hid (below_drewN hB nq)
            have hB2 := HB.out
            clear hB hW p0 p1 p2 p3 xr yr
            go_wp2
            go_loopg [6] el (fun gg jv wx => ∃ j : Nat, jv = .int .i64 (j : Nat) ∧ j ≤ el ∧ el ≤ j + gg ∧ (∀ k, k < j → T.ed i k = U.ed i k) ∧ Below (w.heap.size + 2) ((w.alloc R1).alloc R2) wx)
            case atStart => exact ⟨0, rfl, by omega, by omega, fun i hi => absurd hi (by omega), hB2⟩
            case round =>
              clear hB2 HB
              obtain ⟨j, rfl, hj, hjg, heq, hB⟩ := hrel
              have hj0 : (0 : Int) ≤ (j : Int) := by omega
              have HEJ := hid heq
              clear heq
              obtain ⟨⟨p0, p1, p2, p3⟩, hW⟩ := HS.out _ hB
              rw [← HNM.out] at p3
              have xr := (hW.cell (p := ⟨ab, ao + i, none⟩) hab).trans HX0.out
              have yr := (hW.cell (p := ⟨bb, bo + i, none⟩) hbb).trans HY0.out
              by_cases hltj : j < el
              · have hltj' : (j : Int) < (el : Int) := by omega
                obtain ⟨cb, co, rfl, hcb, x0, x1, x2⟩ := Rd.at3 ((Rd.below HX1.out hW (Nat.le_refl _)).mono hW.size) hltj
                obtain ⟨db, dof, rfl, hdb, y0, y1, y2⟩ := Rd.at3 ((Rd.below HY1.out hW (Nat.le_refl _)).mono hW.size) hltj
                change wr.cell? _ = some (.int .i64 (T.ed i j).1) at x0
                change wr.cell? _ = some (.int .i64 (T.ed i j).2.1) at x1
                change wr.cell? _ = some (.int .i64 (T.ed i j).2.2) at x2
                change wr.cell? _ = some (.int .i64 (U.ed i j).1) at y0
                change wr.cell? _ = some (.int .i64 (U.ed i j).2.1) at y1
                change wr.cell? _ = some (.int .i64 (U.ed i j).2.2) at y2
                have HXY : Hid (T.ed i j = U.ed i j ↔ (T.ed i j).1 = (U.ed i j).1 ∧ (T.ed i j).2.1 = (U.ed i j).2.1 ∧ (T.ed i j).2.2 = (U.ed i j).2.2) := by
                  show _ ↔ _
                  constructor
                  · intro e; rw [e]; exact ⟨rfl, rfl, rfl⟩
                  · rintro ⟨e1, e2, e3⟩
                    exact Prod.ext e1 (Prod.ext e2 e3)
                generalize (T.ed i j).1 = a0 at *
                generalize (T.ed i j).2.1 = a1 at *
                generalize (T.ed i j).2.2 = a2 at *
                generalize (U.ed i j).1 = b0 at *
                generalize (U.ed i j).2.1 = b1 at *
                generalize (U.ed i j).2.2 = b2 at *
                have hne := fun W => neqEdge a0 a1 a2 b0 b1 b2 W
                have hgu := guardEdge
                by_cases h1 : a0 = b0 ∧ a1 = b1 ∧ a2 = b2
                · have HQ := hid (HXY.out.2 h1)
                  have hde : decide (a0 = b0 ∧ a1 = b1 ∧ a2 = b2) = true := decide_eq_true h1
                  rw [hde] at hne
                  clear HXY h1 hde
                  go_wp2
                  go_quiet (fail)
                  go_wp2
                  go_roundg (gk - 1)
                  case measure => omega
                  case rel =>
                    refine ⟨j + 1, by go_num, by omega, by omega, fun k hk => ?_, below_drewN hB _⟩
                    by_cases e : k = j
                    · subst e; exact HQ.out
                    · exact HEJ.out k (by omega)
                · have HQ : Hid (¬ T.ed i j = U.ed i j) := fun e => h1 (HXY.out.1 e)
                  have hde : decide (a0 = b0 ∧ a1 = b1 ∧ a2 = b2) = false := decide_eq_false h1
                  rw [hde] at hne
                  clear HXY h1 hde
                  go_wp2
                  go_quiet (fail)
                  go_wp2
                  go_ret
                  exact Says.no (fun h => HQ.out ((h.2.2 i hlt).2 j (by rw [← HE.out]; exact hltj))) (below_drewN hW _)
              · have hltj' : ¬ (j : Int) < (el : Int) := by omega
                go_wp2
                go_roundg (gI - 1)
                case measure => omega
                case rel =>
                  refine ⟨i + 1, by go_num, by omega, by omega, fun k hk => ?_, hB⟩
                  by_cases e : k = i
                  · subst e; exact ⟨by rw [← HE.out, ← HF.out], fun q hq => HEJ.out q (by rw [← HE.out] at hq; omega)⟩
                  · exact HEQ.out k (by omega)
          · have hc2 : ((el : Int) != (fl : Int)) = true := by simp; omega
            go_wp2
            go_quiet (fail)
            go_wp2
            go_ret
            exact Says.no (fun h => hlen (by rw [HE.out, HF.out]; exact (h.2.2 i hlt).1)) (below_drewN hW _)
        · have hlt' : ¬ (i : Int) < (T.n : Int) := by omega
          go_wp2
          go_ret
          exact Says.yes ⟨HEW.out.1 (by first | rfl | trivial), HNM.out, fun k hk => HEQ.out k (by omega)⟩ hW
    · have hc : ((T.n : Int) != (U.n : Int)) = true := by simp; omega
      go_wp2
      go_ret
      exact Says.no (fun h => hnm h.2.1) hW
end Go.Proofs.Ytnocbkhnmdmfhaa
