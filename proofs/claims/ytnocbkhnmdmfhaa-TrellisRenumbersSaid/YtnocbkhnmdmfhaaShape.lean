/- The error of a layered graph: codewrightref46.Shape and semiring.Shape return it. -/
import Derived.Test.YtnocbkhnmdmfhaaTrel
import Derived.Test.YtnocbkhnmdmfhaaTac
namespace Go.Proofs.Ytnocbkhnmdmfhaa
open Go.RowKit

/-- The box of a graph, behind an allocation. -/
theorem tbox {w wr : World} {cs : Array Value} {X : TypeId} (h : Below (w.heap.size + 1) (w.alloc (.cells cs X)) wr) {i : Nat} {v : Value} (hi : cs[i]? = some v) : wr.cell? ⟨w.heap.size, i, none⟩ = some v := by
  rw [h.cell (by simp), World.cell?_alloc_at _ _ _ _ rfl]
  exact hi
theorem tbox_below {w wr : World} {o : Obj} (h : Below (w.heap.size + 1) (w.alloc o) wr) : Below w.heap.size w wr := ((Below.refl _ _).alloc (Nat.le_refl _) _).trans (h.mono (by omega))
theorem tbox_lt {w wr : World} {o : Obj} (h : Below (w.heap.size + 1) (w.alloc o) wr) : w.heap.size < wr.heap.size := by have := h.size; simp at this; omega
theorem tbox_on {w wr w' : World} {o : Obj} (h : Below (w.heap.size + 1) (w.alloc o) wr) (hb : Below wr.heap.size wr w') : Below (w.heap.size + 1) (w.alloc o) w' := h.trans (hb.mono (tbox_lt h))

section
variable (T : Trel)
theorem Trel.shapeE_w (hs : ¬ (64 < T.n ∨ T.nw ≠ T.n + 1)) {k : Nat} (hk : k < T.nw) (h : T.W k < 1) : T.shapeE = 6 := by
  unfold Trel.shapeE
  rw [if_neg hs, if_pos fun h1 => by have := h1 k hk; omega]
variable (hs : ¬ (64 < T.n ∨ T.nw ≠ T.n + 1)) (h1 : ∀ i, i < T.nw → 1 ≤ T.W i)
include hs h1
theorem Trel.shapeE_big {k : Nat} (hk : k ≤ T.nw) (h : 65536 < T.sumW k) : T.shapeE = 8 := by
  have h2 := Trel.sumW_mono h1 k (T.nw - k) (by omega)
  rw [show k + (T.nw - k) = T.nw by omega] at h2
  unfold Trel.shapeE
  rw [if_neg hs, if_neg (by simpa using h1), if_pos (by omega)]
variable (h2 : T.sumW T.nw ≤ 65536)
include h2
theorem Trel.shapeE_bigE {k : Nat} (hk : k ≤ T.n) (h : 262144 < T.sumE k) : T.shapeE = 8 := by
  have h3 := Trel.sumE_mono (T := T) k (T.n - k)
  rw [show k + (T.n - k) = T.n by omega] at h3
  unfold Trel.shapeE
  rw [if_neg hs, if_neg (by simpa using h1), if_neg (by omega), if_pos (by omega)]
variable (h3 : T.sumE T.n ≤ 262144)
include h3
theorem Trel.shapeE_in {i j : Nat} (hi : i < T.n) (hj : j < T.el i) (h : ¬ T.inside i j) : T.shapeE = 6 := by
  unfold Trel.shapeE
  rw [if_neg hs, if_neg (by simpa using h1), if_neg (by omega), if_neg (by omega), if_pos fun h4 => h (h4 i hi j hj)]
theorem Trel.shapeE_ok (h : ∀ i, i < T.n → ∀ j, j < T.el i → T.inside i j) : T.shapeE = 0 := by
  unfold Trel.shapeE
  rw [if_neg hs, if_neg (by simpa using h1), if_neg (by omega), if_neg (by omega), if_neg fun h4 => h4 h]
end

set_option maxRecDepth 100000 in
set_option maxHeartbeats 16000000 in
theorem refShape_any (T : Trel) (A B : Option Addr) (c d : Nat) (w : World) (h : T.Reads w A B) :
    Calls Try.prog 16 #[.agg #[.slice A T.nw c, .slice B T.n d]] w fun e w' => e = .returned (.int .i64 T.shapeE) ∧ Below w.heap.size w w' := by
  obtain ⟨RB, hRB⟩ : ∃ o, o = (Obj.cells #[.slice A T.nw c, .slice B T.n d] 25) := ⟨_, rfl⟩
  have hB0 : Below (w.heap.size + 1) (w.alloc RB) (w.alloc RB) := Below.refl _ _
  have HS : Hid (∀ w', Below (w.heap.size + 1) (w.alloc RB) w' → (w'.cell? ⟨w.heap.size, 0, none⟩ = some (.slice A T.nw c) ∧ w'.cell? ⟨w.heap.size, 1, none⟩ = some (.slice B T.n d)) ∧ Below w.heap.size w w') := fun w' hB => by
    have hB' := tbox_below hB
    subst hRB
    exact ⟨⟨tbox hB rfl, tbox hB rfl⟩, hB'⟩
  obtain ⟨⟨p0, p1⟩, hW⟩ := HS.out _ hB0
  have hnm := h.2.2.2
  by_cases hs : 64 < T.n ∨ T.nw ≠ T.n + 1
  · have hE : Hid (T.shapeE = 3) := by show _ = _; unfold Trel.shapeE; rw [if_pos hs]
    go_enter Try.func16, Try.ntmps16
    by_cases h64 : 64 < T.n
    · have h64' : (T.n : Int) > 64 := by omega
      clear hs
      go_wp2_with fail
      rw [← hRB]
      go_wp2
      go_ret
      exact ⟨ret_int hE.out.symm, hW⟩
    · have h64' : ¬ (T.n : Int) > 64 := by omega
      have hne : ((T.nw : Int) != (T.n : Int) + 1) = true := by simp; omega
      clear hs
      go_wp2_with fail
      rw [← hRB]
      go_wp2
      go_ret
      exact ⟨ret_int hE.out.symm, hW⟩
  · have h64 : T.n ≤ 64 := by omega
    have hnw : T.nw = T.n + 1 := by omega
    have HS3 := hid hs
    have HNW := hid hnw
    have h64' : ¬ (T.n : Int) > 64 := by omega
    have hne : ((T.nw : Int) != (T.n : Int) + 1) = false := by simp; omega
    have hne2 : ((T.nw : Int) == (T.n : Int) + 1) = true := by simp; omega
    clear hs hnw
    go_enter Try.func16, Try.ntmps16
    go_wp2_with fail
    rw [← hRB]
    have HR := hid h
    clear h hRB
    go_wp2
    go_loopg [4] T.nw (fun gg iv wx => ∃ k : Nat, iv = .int .i64 (k : Nat) ∧ k ≤ T.nw ∧ T.nw ≤ k + gg ∧ (∀ i, i < k → 1 ≤ T.W i) ∧ Below (w.heap.size + 1) (w.alloc RB) wx)
    case atStart => exact ⟨0, rfl, by omega, by omega, fun i hi => absurd hi (by omega), hB0⟩
    case round =>
      obtain ⟨k, rfl, hk, hkg, hall, hB⟩ := hrel
      have hk0 : (0 : Int) ≤ (k : Int) := by omega
      have HB := hid hB
      have hwz := tbox_lt hB
      clear hW p0 p1 hB
      obtain ⟨⟨p0, p1⟩, hW⟩ := HS.out _ HB.out
      have HALL := hid hall
      clear hall
      by_cases hlt : k < T.nw
      · have hlt' : (k : Int) < (T.nw : Int) := by omega
        obtain ⟨b, o, rfl, hb, x0, hx1, hx2⟩ := (HR.out.on hW).width hlt
        by_cases h1 : T.W k < 1
        · have hE := hid (T.shapeE_w HS3.out hlt h1)
          go_wp2
          go_ret
          exact ⟨ret_int hE.out.symm, hW⟩
        · have HA : Hid (∀ i, i < k + 1 → 1 ≤ T.W i) := fun i hi => by
            by_cases e : i = k
            · subst e; omega
            · exact HALL.out i (by omega)
          go_wp2
          go_roundg (gk - 1)
          case measure => omega
          case rel => exact ⟨k + 1, by go_num, by omega, by omega, HA.out, HB.out⟩
      · have hlt' : ¬ (k : Int) < (T.nw : Int) := by omega
        have HA : Hid (∀ i, i < T.nw → 1 ≤ T.W i) := fun i hi => HALL.out i (by omega)
        have hken : (k : Int) = (T.nw : Int) := by omega
        go_wp2
        go_loopg [3, 5] T.nw (fun gg sv iv wx => ∃ k : Nat, iv = .int .i64 (k : Nat) ∧ k ≤ T.nw ∧ T.nw ≤ k + gg ∧ sv = .int .i64 (T.sumW k) ∧ T.sumW k ≤ 65536 ∧ Below (w.heap.size + 1) (w.alloc RB) wx)
        case atStart => exact ⟨0, rfl, by omega, by omega, rfl, by simp [Trel.sumW], HB.out⟩
        case round =>
          clear hW p0 p1 hlt hlt' hken hwz HB HALL hk hk0 hkg
          obtain ⟨k2, rfl, hk, hkg, rfl, hs1, hB⟩ := hrel
          have hk0 : (0 : Int) ≤ (k2 : Int) := by omega
          have HB := hid hB
          have hwz := tbox_lt hB
          clear hB
          obtain ⟨⟨p0, p1⟩, hW⟩ := HS.out _ HB.out
          have hs0 := Trel.sumW_mono (m := T.nw) HA.out 0 k2 (by omega)
          simp only [Trel.sumW, Nat.zero_add] at hs0
          have hnx : Hid (T.sumW (k2 + 1) = T.sumW k2 + T.W k2) := rfl
          obtain ⟨sm, hsm⟩ : ∃ s, s = T.sumW k2 := ⟨_, rfl⟩
          rw [← hsm] at hs0 hs1 hnx
          rw [← hsm]
          clear hsm
          by_cases hlt : k2 < T.nw
          · have hlt' : (k2 : Int) < (T.nw : Int) := by omega
            obtain ⟨b, o, rfl, hb, x0, hx1, hx2⟩ := (HR.out.on hW).width hlt
            by_cases h1 : T.W k2 > 65536 - sm
            · have hE := hid (T.shapeE_big HS3.out HA.out (k := k2 + 1) (by omega) (by rw [hnx.out]; omega))
              go_wp2
              go_ret
              exact ⟨ret_int hE.out.symm, hW⟩
            · go_wp2
              go_roundg (gk - 1)
              case measure => omega
              case rel => exact ⟨k2 + 1, by go_num, by omega, by omega, by rw [hnx.out], by rw [hnx.out]; omega, HB.out⟩
          · have hlt' : ¬ (k2 : Int) < (T.nw : Int) := by omega
            have hken : k2 = T.nw := by omega
            have HSW : Hid (T.sumW T.nw ≤ 65536) := by
              show _ ≤ _
              rw [← hken]
              have := hnx.out
              have e : T.sumW (k2 + 1) = T.sumW k2 + T.W k2 := rfl
              omega
            clear hken
            go_wp2
            go_loopg [6, 7] T.n (fun gg sv iv wx => ∃ k : Nat, iv = .int .i64 (k : Nat) ∧ k ≤ T.n ∧ T.n ≤ k + gg ∧ sv = .int .i64 (T.sumE k : Nat) ∧ T.sumE k ≤ 262144 ∧ Below (w.heap.size + 1) (w.alloc RB) wx)
            case atStart => exact ⟨0, rfl, by omega, by omega, rfl, by simp [Trel.sumE], HB.out⟩
            case round =>
              clear hW p0 p1 hlt hlt' hwz HB hk hk0 hkg hs0 hs1 hnx
              obtain ⟨k3, rfl, hk, hkg, rfl, hs1, hB⟩ := hrel
              have hk0 : (0 : Int) ≤ (k3 : Int) := by omega
              have HB := hid hB
              have hwz := tbox_lt hB
              clear hB
              obtain ⟨⟨p0, p1⟩, hW⟩ := HS.out _ HB.out
              have hnx : Hid (T.sumE (k3 + 1) = T.sumE k3 + T.el k3) := rfl
              obtain ⟨sm, hsm⟩ : ∃ s, s = T.sumE k3 := ⟨_, rfl⟩
              have HSM := hid hsm
              rw [← hsm] at hs1 hnx
              rw [← hsm]
              clear hsm
              by_cases hlt : k3 < T.n
              · have hlt' : (k3 : Int) < (T.n : Int) := by omega
                obtain ⟨b, o, E, ec, rfl, hb, x0, he1, he2, he3, he4⟩ := (HR.out.on hW).sec hlt
                unfold maxLen at he2
                have hel47 := HR.out.2.2.2.2.2 k3 hlt
                obtain ⟨el, hel⟩ : ∃ l, l = T.el k3 := ⟨_, rfl⟩
                rw [← hel] at x0 he1 hnx hel47
                clear he3 he4 hel
                by_cases h1 : sm + el > 262144
                · have hE := hid (T.shapeE_bigE HS3.out HA.out HSW.out (k := k3 + 1) (by omega) (by rw [hnx.out]; omega))
                  have h1' : (el : Int) > 262144 - (sm : Int) := by omega
                  go_wp2
                  go_ret
                  exact ⟨ret_int hE.out.symm, hW⟩
                · have h1' : ¬ (el : Int) > 262144 - (sm : Int) := by omega
                  go_wp2
                  go_roundg (gk - 1)
                  case measure => omega
                  case rel => exact ⟨k3 + 1, by go_num, by omega, by omega, by rw [hnx.out]; go_num, by rw [hnx.out]; omega, HB.out⟩
              · have hlt' : ¬ (k3 : Int) < (T.n : Int) := by omega
                have hken : k3 = T.n := by omega
                have HSE : Hid (T.sumE T.n ≤ 262144) := by
                  show _ ≤ _
                  rw [← hken, ← HSM.out]
                  exact hs1
                clear hken
                go_wp2
                go_loopg [8] T.n (fun gg iv wx => ∃ k : Nat, iv = .int .i64 (k : Nat) ∧ k ≤ T.n ∧ T.n ≤ k + gg ∧ (∀ i, i < k → ∀ j, j < T.el i → T.inside i j) ∧ Below (w.heap.size + 1) (w.alloc RB) wx)
                case atStart => exact ⟨0, rfl, by omega, by omega, fun i hi => absurd hi (by omega), HB.out⟩
                case round =>
                  clear hW p0 p1 hlt hlt' hwz HB hk hk0 hkg hs1 hnx HSM
                  obtain ⟨gK, hgK⟩ : ∃ g, g = gk := ⟨_, rfl⟩
                  subst hgK
                  obtain ⟨k4, rfl, hk, hkg, hall, hB⟩ := hrel
                  have hk0 : (0 : Int) ≤ (k4 : Int) := by omega
                  have HB := hid hB
                  have hwz := tbox_lt hB
                  clear hB
                  obtain ⟨⟨p0, p1⟩, hW⟩ := HS.out _ HB.out
                  have HALL := hid hall
                  clear hall
                  by_cases hlt : k4 < T.n
                  · have hlt' : (k4 : Int) < (T.n : Int) := by omega
                    obtain ⟨b, o, E, ec, rfl, hb, x0, he1, he2, he3, he4⟩ := (HR.out.on hW).sec hlt
                    unfold maxLen at he2
                    have HX0 := hid x0
                    go_wp2
                    go_loopg [9] (T.el k4) (fun gg jv wx => ∃ j : Nat, jv = .int .i64 (j : Nat) ∧ j ≤ T.el k4 ∧ T.el k4 ≤ j + gg ∧ (∀ i, i < j → T.inside k4 i) ∧ Below (w.heap.size + 1) (w.alloc RB) wx ∧ Below wr.heap.size wr wx)
                    case atStart => exact ⟨0, rfl, by omega, by omega, fun i hi => absurd hi (by omega), HB.out, Below.refl _ _⟩
                    case round =>
                      clear hW p0 p1 hwz x0
                      obtain ⟨j, rfl, hj, hjg, hall, hB, hBr⟩ := hrel
                      have hj0 : (0 : Int) ≤ (j : Int) := by omega
                      have x0 := cellS hBr HX0.out
                      have HBr := hid hBr
                      have HB2 := hid hB
                      have hwz := tbox_lt hB
                      clear hB hBr
                      obtain ⟨⟨p0, p1⟩, hW⟩ := HS.out _ HB2.out
                      have HALL2 := hid hall
                      clear hall
                      by_cases hltj : j < T.el k4
                      · have hltj' : (j : Int) < (T.el k4 : Int) := by omega
                        obtain ⟨eb, eo, rfl, heb, e0, e1, e2⟩ := edge_at ((Rd.below he3 HBr.out (Nat.le_refl _)).mono HBr.out.size) hltj
                        obtain ⟨wb, wo, hA, hwb, y0, hy1, hy2⟩ := (HR.out.on hW).width (i := k4) (by have := HNW.out; omega)
                        obtain ⟨_, _, hA2, _, y1, hy3, hy4⟩ := (HR.out.on hW).width (i := k4 + 1) (by have := HNW.out; omega)
                        rw [hA] at hA2
                        injection hA2 with hA2; injection hA2 with hA2 hA3; subst hA2 hA3
                        subst hA
                        have hk1 : k4 + 1 < T.nw := by have := HNW.out; omega
                        have hk1' : (k4 : Int) + 1 < (T.nw : Int) := by omega
                        have hk2' : (k4 : Int) < (T.nw : Int) := by omega
                        obtain ⟨⟨i1, i2⟩, _, ⟨i3, i4⟩⟩ := he4 j hltj
                        have HIN : Hid (T.inside k4 j ↔ 0 ≤ T.fr k4 j ∧ T.fr k4 j < T.W k4 ∧ 0 ≤ T.to k4 j ∧ T.to k4 j < T.W (k4 + 1)) := Iff.rfl
                        have HBAD : Hid (¬ T.inside k4 j → T.shapeE = 6) := fun hb => T.shapeE_in HS3.out HA.out HSW.out HSE.out hlt hltj hb
                        obtain ⟨fr, hfr⟩ : ∃ x, x = T.fr k4 j := ⟨_, rfl⟩
                        obtain ⟨tq, hto⟩ : ∃ x, x = T.to k4 j := ⟨_, rfl⟩
                        obtain ⟨lb, hlb⟩ : ∃ x, x = T.lb k4 j := ⟨_, rfl⟩
                        obtain ⟨u, hu⟩ : ∃ x, x = T.W k4 := ⟨_, rfl⟩
                        obtain ⟨v, hv⟩ : ∃ x, x = T.W (k4 + 1) := ⟨_, rfl⟩
                        rw [← hfr] at e0 HIN i1 i2
                        rw [← hlb] at e1
                        rw [← hto] at e2 HIN i3 i4
                        rw [← hu] at y0 HIN hy1 hy2
                        rw [← hv] at y1 HIN hy3 hy4
                        clear hfr hto hlb hu hv he3 he4
                        by_cases h1 : fr < 0
                        · clear HALL2
                          have b1 : decide (fr < 0) = true := by simp; omega
                          go_wp2
                          go_quiet (fail)
                          go_wp2
                          go_ret
                          exact ⟨ret_int (HBAD.out fun hi => by have := HIN.out.1 hi; omega).symm, below_drewN (hW.alloc (by omega) _) _⟩
                        have b1 : decide (fr < 0) = false := by simp; omega
                        by_cases h2 : fr ≥ u
                        · clear HALL2
                          have b2 : decide (fr ≥ u) = true := by simp; omega
                          have b3 : decide (u ≤ fr) = true := by simp; omega
                          go_wp2
                          go_quiet (fail)
                          go_wp2
                          go_ret
                          exact ⟨ret_int (HBAD.out fun hi => by have := HIN.out.1 hi; omega).symm, below_drewN (hW.alloc (by omega) _) _⟩
                        have b2 : decide (fr ≥ u) = false := by simp; omega
                        have b3 : decide (u ≤ fr) = false := by simp; omega
                        by_cases h3 : tq < 0
                        · clear HALL2
                          have b4 : decide (tq < 0) = true := by simp; omega
                          go_wp2
                          go_quiet (fail)
                          go_wp2
                          go_ret
                          exact ⟨ret_int (HBAD.out fun hi => by have := HIN.out.1 hi; omega).symm, below_drewN (hW.alloc (by omega) _) _⟩
                        have b4 : decide (tq < 0) = false := by simp; omega
                        by_cases h4 : tq ≥ v
                        · clear HALL2
                          have b5 : decide (tq ≥ v) = true := by simp; omega
                          have b6 : decide (v ≤ tq) = true := by simp; omega
                          go_wp2
                          go_quiet (fail)
                          go_wp2
                          go_ret
                          exact ⟨ret_int (HBAD.out fun hi => by have := HIN.out.1 hi; omega).symm, below_drewN (hW.alloc (by omega) _) _⟩
                        have b5 : decide (tq ≥ v) = false := by simp; omega
                        have b6 : decide (v ≤ tq) = false := by simp; omega
                        have HN : Hid (∀ i, i < j + 1 → T.inside k4 i) := fun i hi => by
                          by_cases e : i = j
                          · subst e; exact HIN.out.2 (by omega)
                          · exact HALL2.out i (by omega)
                        go_wp2
                        go_quiet (fail)
                        go_wp2
                        go_roundg (gk - 1)
                        case measure => omega
                        case rel => exact ⟨j + 1, by go_num, by omega, by omega, HN.out, below_drewN (HB2.out.alloc (by omega) _) _, below_drewN (HBr.out.alloc HBr.out.size _) _⟩
                      · have hltj' : ¬ (j : Int) < (T.el k4 : Int) := by omega
                        have HN : Hid (∀ i, i < k4 + 1 → ∀ j, j < T.el i → T.inside i j) := fun i hi => by
                          by_cases e : i = k4
                          · subst e; exact fun q hq => HALL2.out q (by omega)
                          · exact HALL.out i (by omega)
                        clear he3 he4
                        go_wp2
                        go_roundg (gK - 1)
                        case measure => omega
                        case rel => exact ⟨k4 + 1, by go_num, by omega, by omega, HN.out, HB2.out⟩
                  · have hlt' : ¬ (k4 : Int) < (T.n : Int) := by omega
                    have hE := hid (T.shapeE_ok HS3.out HA.out HSW.out HSE.out fun i hi => HALL.out i (by omega))
                    go_wp2
                    go_ret
                    exact ⟨ret_int hE.out.symm, hW⟩
set_option maxRecDepth 100000 in
set_option maxHeartbeats 16000000 in
theorem shape_any (T : Trel) (A B : Option Addr) (c d : Nat) (w : World) (h : T.Reads w A B) :
    Calls Try.prog 47 #[.agg #[.slice A T.nw c, .slice B T.n d]] w fun e w' => e = .returned (.int .i64 T.shapeE) ∧ Below w.heap.size w w' := by
  obtain ⟨RB, hRB⟩ : ∃ o, o = (Obj.cells #[.slice A T.nw c, .slice B T.n d] 25) := ⟨_, rfl⟩
  have hB0 : Below (w.heap.size + 1) (w.alloc RB) (w.alloc RB) := Below.refl _ _
  have HS : Hid (∀ w', Below (w.heap.size + 1) (w.alloc RB) w' → (w'.cell? ⟨w.heap.size, 0, none⟩ = some (.slice A T.nw c) ∧ w'.cell? ⟨w.heap.size, 1, none⟩ = some (.slice B T.n d)) ∧ Below w.heap.size w w') := fun w' hB => by
    have hB' := tbox_below hB
    subst hRB
    exact ⟨⟨tbox hB rfl, tbox hB rfl⟩, hB'⟩
  obtain ⟨⟨p0, p1⟩, hW⟩ := HS.out _ hB0
  have hnm := h.2.2.2
  by_cases hs : 64 < T.n ∨ T.nw ≠ T.n + 1
  · have hE : Hid (T.shapeE = 3) := by show _ = _; unfold Trel.shapeE; rw [if_pos hs]
    go_enter Try.func47, Try.ntmps47
    by_cases h64 : 64 < T.n
    · have h64' : (T.n : Int) > 64 := by omega
      clear hs
      go_wp2_with fail
      rw [← hRB]
      go_wp2
      go_ret
      exact ⟨ret_int hE.out.symm, hW⟩
    · have h64' : ¬ (T.n : Int) > 64 := by omega
      have hne : ((T.nw : Int) != (T.n : Int) + 1) = true := by simp; omega
      clear hs
      go_wp2_with fail
      rw [← hRB]
      go_wp2
      go_ret
      exact ⟨ret_int hE.out.symm, hW⟩
  · have h64 : T.n ≤ 64 := by omega
    have hnw : T.nw = T.n + 1 := by omega
    have HS3 := hid hs
    have HNW := hid hnw
    have h64' : ¬ (T.n : Int) > 64 := by omega
    have hne : ((T.nw : Int) != (T.n : Int) + 1) = false := by simp; omega
    have hne2 : ((T.nw : Int) == (T.n : Int) + 1) = true := by simp; omega
    clear hs hnw
    go_enter Try.func47, Try.ntmps47
    go_wp2_with fail
    rw [← hRB]
    have HR := hid h
    clear h hRB
    go_wp2
    go_loopg [4, 32] T.nw (fun gg xv iv wx => ∃ k : Nat, iv = .int .i64 (k : Nat) ∧ k ≤ T.nw ∧ T.nw ≤ k + gg ∧ (∀ i, i < k → 1 ≤ T.W i) ∧ Below (w.heap.size + 1) (w.alloc RB) wx)
    case atStart => exact ⟨0, rfl, by omega, by omega, fun i hi => absurd hi (by omega), hB0⟩
    case round =>
      obtain ⟨k, rfl, hk, hkg, hall, hB⟩ := hrel
      have hk0 : (0 : Int) ≤ (k : Int) := by omega
      have HB := hid hB
      have hwz := tbox_lt hB
      clear hW p0 p1 hB
      obtain ⟨⟨p0, p1⟩, hW⟩ := HS.out _ HB.out
      have HALL := hid hall
      clear hall
      by_cases hlt : k < T.nw
      · have hlt' : (k : Int) < (T.nw : Int) := by omega
        obtain ⟨b, o, rfl, hb, x0, hx1, hx2⟩ := (HR.out.on hW).width hlt
        by_cases h1 : T.W k < 1
        · have hE := hid (T.shapeE_w HS3.out hlt h1)
          go_wp2
          go_ret
          exact ⟨ret_int hE.out.symm, hW⟩
        · have HA : Hid (∀ i, i < k + 1 → 1 ≤ T.W i) := fun i hi => by
            by_cases e : i = k
            · subst e; omega
            · exact HALL.out i (by omega)
          go_wp2
          go_roundg (gk - 1)
          case measure => omega
          case rel => exact ⟨k + 1, by go_num, by omega, by omega, HA.out, HB.out⟩
      · have hlt' : ¬ (k : Int) < (T.nw : Int) := by omega
        have HA : Hid (∀ i, i < T.nw → 1 ≤ T.W i) := fun i hi => HALL.out i (by omega)
        have hken : (k : Int) = (T.nw : Int) := by omega
        go_wp2
        go_loopg [5, 8, 42] T.nw (fun gg sv xv iv wx => ∃ k : Nat, iv = .int .i64 (k : Nat) ∧ k ≤ T.nw ∧ T.nw ≤ k + gg ∧ sv = .int .i64 (T.sumW k) ∧ T.sumW k ≤ 65536 ∧ Below (w.heap.size + 1) (w.alloc RB) wx)
        case atStart => exact ⟨0, rfl, by omega, by omega, rfl, by simp [Trel.sumW], HB.out⟩
        case round =>
          clear hW p0 p1 hlt hlt' hken hwz HB HALL hk hk0 hkg
          obtain ⟨k2, rfl, hk, hkg, rfl, hs1, hB⟩ := hrel
          have hk0 : (0 : Int) ≤ (k2 : Int) := by omega
          have HB := hid hB
          have hwz := tbox_lt hB
          clear hB
          obtain ⟨⟨p0, p1⟩, hW⟩ := HS.out _ HB.out
          have hs0 := Trel.sumW_mono (m := T.nw) HA.out 0 k2 (by omega)
          simp only [Trel.sumW, Nat.zero_add] at hs0
          have hnx : Hid (T.sumW (k2 + 1) = T.sumW k2 + T.W k2) := rfl
          obtain ⟨sm, hsm⟩ : ∃ s, s = T.sumW k2 := ⟨_, rfl⟩
          rw [← hsm] at hs0 hs1 hnx
          rw [← hsm]
          clear hsm
          by_cases hlt : k2 < T.nw
          · have hlt' : (k2 : Int) < (T.nw : Int) := by omega
            obtain ⟨b, o, rfl, hb, x0, hx1, hx2⟩ := (HR.out.on hW).width hlt
            by_cases h1 : T.W k2 > 65536 - sm
            · have hE := hid (T.shapeE_big HS3.out HA.out (k := k2 + 1) (by omega) (by rw [hnx.out]; omega))
              go_wp2
              go_ret
              exact ⟨ret_int hE.out.symm, hW⟩
            · go_wp2
              go_roundg (gk - 1)
              case measure => omega
              case rel => exact ⟨k2 + 1, by go_num, by omega, by omega, by rw [hnx.out], by rw [hnx.out]; omega, HB.out⟩
          · have hlt' : ¬ (k2 : Int) < (T.nw : Int) := by omega
            have hken : k2 = T.nw := by omega
            have HSW : Hid (T.sumW T.nw ≤ 65536) := by
              show _ ≤ _
              rw [← hken]
              have := hnx.out
              have e : T.sumW (k2 + 1) = T.sumW k2 + T.W k2 := rfl
              omega
            clear hken
            go_wp2
            go_loopg [6, 10, 57] T.n (fun gg sv xv iv wx => ∃ k : Nat, iv = .int .i64 (k : Nat) ∧ k ≤ T.n ∧ T.n ≤ k + gg ∧ sv = .int .i64 (T.sumE k : Nat) ∧ T.sumE k ≤ 262144 ∧ Below (w.heap.size + 1) (w.alloc RB) wx)
            case atStart => exact ⟨0, rfl, by omega, by omega, rfl, by simp [Trel.sumE], HB.out⟩
            case round =>
              clear hW p0 p1 hlt hlt' hwz HB hk hk0 hkg hs0 hs1 hnx
              obtain ⟨k3, rfl, hk, hkg, rfl, hs1, hB⟩ := hrel
              have hk0 : (0 : Int) ≤ (k3 : Int) := by omega
              have HB := hid hB
              have hwz := tbox_lt hB
              clear hB
              obtain ⟨⟨p0, p1⟩, hW⟩ := HS.out _ HB.out
              have hnx : Hid (T.sumE (k3 + 1) = T.sumE k3 + T.el k3) := rfl
              obtain ⟨sm, hsm⟩ : ∃ s, s = T.sumE k3 := ⟨_, rfl⟩
              have HSM := hid hsm
              rw [← hsm] at hs1 hnx
              rw [← hsm]
              clear hsm
              by_cases hlt : k3 < T.n
              · have hlt' : (k3 : Int) < (T.n : Int) := by omega
                obtain ⟨b, o, E, ec, rfl, hb, x0, he1, he2, he3, he4⟩ := (HR.out.on hW).sec hlt
                unfold maxLen at he2
                have hel47 := HR.out.2.2.2.2.2 k3 hlt
                obtain ⟨el, hel⟩ : ∃ l, l = T.el k3 := ⟨_, rfl⟩
                rw [← hel] at x0 he1 hnx hel47
                clear he3 he4 hel
                by_cases h1 : sm + el > 262144
                · have hE := hid (T.shapeE_bigE HS3.out HA.out HSW.out (k := k3 + 1) (by omega) (by rw [hnx.out]; omega))
                  have h1' : (sm : Int) + (el : Int) > 262144 := by omega
                  go_wp2
                  go_ret
                  exact ⟨ret_int hE.out.symm, hW⟩
                · have h1' : ¬ (sm : Int) + (el : Int) > 262144 := by omega
                  go_wp2
                  go_roundg (gk - 1)
                  case measure => omega
                  case rel => exact ⟨k3 + 1, by go_num, by omega, by omega, by rw [hnx.out]; go_num, by rw [hnx.out]; omega, HB.out⟩
              · have hlt' : ¬ (k3 : Int) < (T.n : Int) := by omega
                have hken : k3 = T.n := by omega
                have HSE : Hid (T.sumE T.n ≤ 262144) := by
                  show _ ≤ _
                  rw [← hken, ← HSM.out]
                  exact hs1
                clear hken
                go_wp2
                go_loopg [11, 12, 71] T.n (fun gg xv yv iv wx => ∃ k : Nat, iv = .int .i64 (k : Nat) ∧ k ≤ T.n ∧ T.n ≤ k + gg ∧ (∀ i, i < k → ∀ j, j < T.el i → T.inside i j) ∧ Below (w.heap.size + 1) (w.alloc RB) wx)
                case atStart => exact ⟨0, rfl, by omega, by omega, fun i hi => absurd hi (by omega), HB.out⟩
                case round =>
                  clear hW p0 p1 hlt hlt' hwz HB hk hk0 hkg hs1 hnx HSM
                  obtain ⟨gK, hgK⟩ : ∃ g, g = gk := ⟨_, rfl⟩
                  subst hgK
                  obtain ⟨k4, rfl, hk, hkg, hall, hB⟩ := hrel
                  have hk0 : (0 : Int) ≤ (k4 : Int) := by omega
                  have HB := hid hB
                  have hwz := tbox_lt hB
                  clear hB
                  obtain ⟨⟨p0, p1⟩, hW⟩ := HS.out _ HB.out
                  have HALL := hid hall
                  clear hall
                  by_cases hlt : k4 < T.n
                  · have hlt' : (k4 : Int) < (T.n : Int) := by omega
                    obtain ⟨b, o, E, ec, rfl, hb, x0, he1, he2, he3, he4⟩ := (HR.out.on hW).sec hlt
                    unfold maxLen at he2
                    have HX0 := hid x0
                    go_wp2
                    go_loopg [78] (T.el k4) (fun gg jv wx => ∃ j : Nat, jv = .int .i64 (j : Nat) ∧ j ≤ T.el k4 ∧ T.el k4 ≤ j + gg ∧ (∀ i, i < j → T.inside k4 i) ∧ Below (w.heap.size + 1) (w.alloc RB) wx ∧ Below wr.heap.size wr wx)
                    case atStart => exact ⟨0, rfl, by omega, by omega, fun i hi => absurd hi (by omega), HB.out, Below.refl _ _⟩
                    case round =>
                      clear hW p0 p1 hwz x0
                      obtain ⟨j, rfl, hj, hjg, hall, hB, hBr⟩ := hrel
                      have hj0 : (0 : Int) ≤ (j : Int) := by omega
                      have x0 := cellS hBr HX0.out
                      have HBr := hid hBr
                      have HB2 := hid hB
                      have hwz := tbox_lt hB
                      clear hB hBr
                      obtain ⟨⟨p0, p1⟩, hW⟩ := HS.out _ HB2.out
                      have HALL2 := hid hall
                      clear hall
                      by_cases hltj : j < T.el k4
                      · have hltj' : (j : Int) < (T.el k4 : Int) := by omega
                        obtain ⟨eb, eo, rfl, heb, e0, e1, e2⟩ := edge_at ((Rd.below he3 HBr.out (Nat.le_refl _)).mono HBr.out.size) hltj
                        obtain ⟨wb, wo, hA, hwb, y0, hy1, hy2⟩ := (HR.out.on hW).width (i := k4) (by have := HNW.out; omega)
                        obtain ⟨_, _, hA2, _, y1, hy3, hy4⟩ := (HR.out.on hW).width (i := k4 + 1) (by have := HNW.out; omega)
                        rw [hA] at hA2
                        injection hA2 with hA2; injection hA2 with hA2 hA3; subst hA2 hA3
                        subst hA
                        have hk1 : k4 + 1 < T.nw := by have := HNW.out; omega
                        have hk1' : (k4 : Int) + 1 < (T.nw : Int) := by omega
                        have hk2' : (k4 : Int) < (T.nw : Int) := by omega
                        obtain ⟨⟨i1, i2⟩, _, ⟨i3, i4⟩⟩ := he4 j hltj
                        have HIN : Hid (T.inside k4 j ↔ 0 ≤ T.fr k4 j ∧ T.fr k4 j < T.W k4 ∧ 0 ≤ T.to k4 j ∧ T.to k4 j < T.W (k4 + 1)) := Iff.rfl
                        have HBAD : Hid (¬ T.inside k4 j → T.shapeE = 6) := fun hb => T.shapeE_in HS3.out HA.out HSW.out HSE.out hlt hltj hb
                        obtain ⟨fr, hfr⟩ : ∃ x, x = T.fr k4 j := ⟨_, rfl⟩
                        obtain ⟨tq, hto⟩ : ∃ x, x = T.to k4 j := ⟨_, rfl⟩
                        obtain ⟨lb, hlb⟩ : ∃ x, x = T.lb k4 j := ⟨_, rfl⟩
                        obtain ⟨u, hu⟩ : ∃ x, x = T.W k4 := ⟨_, rfl⟩
                        obtain ⟨v, hv⟩ : ∃ x, x = T.W (k4 + 1) := ⟨_, rfl⟩
                        rw [← hfr] at e0 HIN i1 i2
                        rw [← hlb] at e1
                        rw [← hto] at e2 HIN i3 i4
                        rw [← hu] at y0 HIN hy1 hy2
                        rw [← hv] at y1 HIN hy3 hy4
                        clear hfr hto hlb hu hv he3 he4
                        by_cases h1 : fr < 0
                        · clear HALL2
                          have b1 : decide (fr < 0) = true := by simp; omega
                          go_wp2
                          go_quiet (fail)
                          go_wp2
                          go_ret
                          exact ⟨ret_int (HBAD.out fun hi => by have := HIN.out.1 hi; omega).symm, below_drewN (hW.alloc (by omega) _) _⟩
                        have b1 : decide (fr < 0) = false := by simp; omega
                        by_cases h2 : fr ≥ u
                        · clear HALL2
                          have b2 : decide (fr ≥ u) = true := by simp; omega
                          have b3 : decide (u ≤ fr) = true := by simp; omega
                          go_wp2
                          go_quiet (fail)
                          go_wp2
                          go_ret
                          exact ⟨ret_int (HBAD.out fun hi => by have := HIN.out.1 hi; omega).symm, below_drewN (hW.alloc (by omega) _) _⟩
                        have b2 : decide (fr ≥ u) = false := by simp; omega
                        have b3 : decide (u ≤ fr) = false := by simp; omega
                        by_cases h3 : tq < 0
                        · clear HALL2
                          have b4 : decide (tq < 0) = true := by simp; omega
                          go_wp2
                          go_quiet (fail)
                          go_wp2
                          go_ret
                          exact ⟨ret_int (HBAD.out fun hi => by have := HIN.out.1 hi; omega).symm, below_drewN (hW.alloc (by omega) _) _⟩
                        have b4 : decide (tq < 0) = false := by simp; omega
                        by_cases h4 : tq ≥ v
                        · clear HALL2
                          have b5 : decide (tq ≥ v) = true := by simp; omega
                          have b6 : decide (v ≤ tq) = true := by simp; omega
                          go_wp2
                          go_quiet (fail)
                          go_wp2
                          go_ret
                          exact ⟨ret_int (HBAD.out fun hi => by have := HIN.out.1 hi; omega).symm, below_drewN (hW.alloc (by omega) _) _⟩
                        have b5 : decide (tq ≥ v) = false := by simp; omega
                        have b6 : decide (v ≤ tq) = false := by simp; omega
                        have HN : Hid (∀ i, i < j + 1 → T.inside k4 i) := fun i hi => by
                          by_cases e : i = j
                          · subst e; exact HIN.out.2 (by omega)
                          · exact HALL2.out i (by omega)
                        go_wp2
                        go_quiet (fail)
                        go_wp2
                        go_roundg (gk - 1)
                        case measure => omega
                        case rel => exact ⟨j + 1, by go_num, by omega, by omega, HN.out, below_drewN (HB2.out.alloc (by omega) _) _, below_drewN (HBr.out.alloc HBr.out.size _) _⟩
                      · have hltj' : ¬ (j : Int) < (T.el k4 : Int) := by omega
                        have HN : Hid (∀ i, i < k4 + 1 → ∀ j, j < T.el i → T.inside i j) := fun i hi => by
                          by_cases e : i = k4
                          · subst e; exact fun q hq => HALL2.out q (by omega)
                          · exact HALL.out i (by omega)
                        clear he3 he4
                        go_wp2
                        go_roundg (gK - 1)
                        case measure => omega
                        case rel => exact ⟨k4 + 1, by go_num, by omega, by omega, HN.out, HB2.out⟩
                  · have hlt' : ¬ (k4 : Int) < (T.n : Int) := by omega
                    have hE := hid (T.shapeE_ok HS3.out HA.out HSW.out HSE.out fun i hi => HALL.out i (by omega))
                    go_wp2
                    go_ret
                    exact ⟨ret_int hE.out.symm, hW⟩
end Go.Proofs.Ytnocbkhnmdmfhaa
