/- ViterbiAlong returns true. -/
import Derived.Test.YtnocbkhnmdmfhaaAlive49
import Derived.Test.YtnocbkhnmdmfhaaRefAlong
import Derived.Test.YtnocbkhnmdmfhaaFewT
namespace Go.Proofs.Ytnocbkhnmdmfhaa
open Go.RowKit

theorem same11_any (A B : Option Addr) (n c d : Nat) (f : Nat → Int) (w : World) (ha : IntsR w w.heap.size A n f) (hb : IntsR w w.heap.size B n f) (hn : n ≤ 1048576) :
    Calls Try.prog 15 #[.slice A n c, .slice B n d] w fun e w' => e = .returned (.bool true) ∧ Below w.heap.size w w' := by
  go_enter Try.func15, Try.ntmps15
  go_wp2_with fail
  refine (compare_same A B n c d f w ha hb hn).mono ?_
  rintro e w1 ⟨rfl, hB⟩
  clear ha hb
  go_wp2
  go_ret
  exact ⟨rfl, hB⟩
set_option maxRecDepth 100000 in
set_option maxHeartbeats 8000000 in
theorem viterbiAlongLaw_any (T : Trel) (A B CA : Option Addr) (c d M cc : Nat) (ln : Nat → Nat) (C : Nat → Nat → Int) (w : World) (h : T.Reads w A B) (hC : IntRows w CA M ln C) :
    Calls Try.prog 3 #[.agg #[.slice A T.nw c, .slice B T.n d], .slice CA M cc] w fun e w' => e = .returned (.bool true) ∧ Below w.heap.size w w' := by
  obtain ⟨RB, hRB⟩ : ∃ o, o = (Obj.cells #[.slice A T.nw c, .slice B T.n d] 25) := ⟨_, rfl⟩
  have hB0 : Below (w.heap.size + 1) (w.alloc RB) (w.alloc RB) := Below.refl _ _
  have HS : Hid (∀ w', Below (w.heap.size + 1) (w.alloc RB) w' → (w'.cell? ⟨w.heap.size, 0, none⟩ = some (.slice A T.nw c) ∧ w'.cell? ⟨w.heap.size, 1, none⟩ = some (.slice B T.n d)) ∧ Below w.heap.size w w') := fun w' hB => by
    have hB' := tbox_below hB
    subst hRB
    exact ⟨⟨tbox hB rfl, tbox hB rfl⟩, hB'⟩
  obtain ⟨⟨p0, p1⟩, hW⟩ := HS.out _ hB0
  have HR := hid h
  have HC := hid hC
  clear h hC
  go_enter Try.func3, Try.ntmps3
  go_wp2_with fail
  rw [← hRB]
  refine (fewT_any T A B c d 3000 (by omega) _ (HR.out.on hW)).mono ?_
  rintro e w1 ⟨⟨r, rfl⟩, hb⟩
  have hB1 := tbox_on hB0 hb
  clear hW p0 p1 hb hB0 hRB
  obtain ⟨⟨p0, p1⟩, hW⟩ := HS.out _ hB1
  cases r
  · go_wp2_with fail
    refine (alive49_any _).mono ?_
    rintro e w2 ⟨rfl, hb⟩
    have hW2 := onS hW hb
    clear hb
    go_wp2
    go_ret
    exact ⟨rfl, hW2⟩
  go_wp2_with fail
  refine (viterbiAlong_any T A B CA c d M cc ln C w1 (HR.out.on hW) (HC.out.on hW)).mono ?_
  rintro e w2 ⟨kb, hpost⟩
  have hB2 := tbox_on hB1 kb
  clear hW p0 p1 kb hB1
  obtain ⟨⟨p0, p1⟩, hW⟩ := HS.out _ hB2
  rcases hpost with ⟨hx, rfl⟩ | ⟨hx, gw, rfl, hrow⟩
  · obtain ⟨x, hxe⟩ : ∃ x, x = T.alongE M ln C := ⟨_, rfl⟩
    have HX := hid hxe
    rw [← hxe] at hx ⊢
    have b2 : (x != x) = false := by simp
    have b3 : (x != 0) = true := by simpa using hx
    clear hx hxe
    go_wp2_with fail
    refine (alongArgs_any T A B CA c d M cc ln C w2 (HR.out.on hW) (HC.out.on hW)).mono ?_
    rintro e w3 ⟨rfl, kb⟩
    have hW3 := onS hW kb
    rw [← HX.out]
    clear hW p0 p1 kb hB2
    go_wp2_with fail
    refine (alive49_any w3).mono ?_
    rintro e w4 ⟨rfl, kb⟩
    have hW4 := onS hW3 kb
    clear hW3 kb
    go_wp2
    go_ret
    exact ⟨rfl, hW4⟩
  · have HX := hid hx
    obtain ⟨hp, hM, hF, hpr⟩ := Trel.alongE_zero hx
    have HP := hid (Trel.proper_of hp)
    have HSE := hid (Trel.shapeE_of hp)
    have HM := hid hM
    have HPR := hid hpr
    have HF : Hid (T.Fit ln) := fun i hi j hj => ⟨((HP.out.sec i hi).1 j hj).1, hF i hi j hj⟩
    have HROW := hid hrow
    have hn64 := HP.out.shape.n64
    have b0 : ((0 : Int) != 0) = false := rfl
    obtain ⟨bv, hbv⟩ : ∃ z, z = T.bw (T.yOf C) T.n 0 := ⟨_, rfl⟩
    have HBV := hid hbv
    rw [← hbv]
    clear hx hp hM hF hpr hrow hbv
    go_wp2_with fail
    refine (alongArgs_any T A B CA c d M cc ln C w2 (HR.out.on hW) (HC.out.on hW)).mono ?_
    rintro e w3 ⟨rfl, kb⟩
    have hB3 := tbox_on hB2 kb
    rw [HX.out]
    have HROW3 := hid (rowIs_on HROW.out kb)
    clear hW p0 p1 kb hB2 HROW
    obtain ⟨⟨p0, p1⟩, hW⟩ := HS.out _ hB3
    go_wp2_with fail
    refine (alive49_any w3).mono ?_
    rintro e w4 ⟨rfl, kb⟩
    have hB4 := tbox_on hB3 kb
    have HROW4 := hid (rowIs_on HROW3.out kb)
    clear hW p0 p1 kb hB3 HROW3
    obtain ⟨⟨p0, p1⟩, hW⟩ := HS.out _ hB4
    go_wp2_with fail
    refine (refAlong_any T A B CA c d M cc ln C w4 (HR.out.on hW) HP.out HSE.out (HC.out.on hW) HM.out HF.out HPR.out).mono ?_
    rintro e w5 ⟨kb, v, rfl, hOL⟩
    have hW5 := onS hW kb
    rw [← HBV.out]
    have HROW5 := hid (rowIs_on HROW4.out kb)
    obtain ⟨VA, vc, rfl⟩ := Own.shape hOL
    have hOL2 : IntsR w5 w5.heap.size VA T.n (T.wd (T.yOf C)) := by
      have h1 := Own.rd hOL rfl
      rw [pre_len] at h1
      exact fun i hi => by
        obtain ⟨b, o, e, hb, hc⟩ := h1 i hi
        refine ⟨b, o, e, hb, fun j hj => ?_⟩
        rw [hc j hj]
        show some (Value.int .i64 ((pre (T.wd (T.yOf C)) T.n).getD i 0)) = _
        rw [pre_get _ hi]
    have hRI : IntsR w5 w5.heap.size (some ⟨gw, 0, none⟩) T.n (T.wd (T.yOf C)) := Rd_of_row HROW5.out
    rw [pre_len]
    have bb : (bv == bv) = true := by simp
    clear hW p0 p1 kb hB4 HROW4 hOL
    go_wp2_with fail
    refine (same11_any _ _ T.n _ _ _ w5 hRI hOL2 (by omega)).mono ?_
    rintro e w6 ⟨rfl, kb⟩
    have hW6 := onS hW5 kb
    clear hRI hOL2 hW5 kb HROW5
    go_wp2
    go_ret
    exact ⟨rfl, hW6⟩
theorem viterbiAlong_law {H : Type} {enc : TypeId × Value → H} {w : World} {cs : Array Value} {v : Value} (h : SeesW enc Try.prog w 0 (fun _ => true) true 25 cs.toList) (hv : Sees enc Try.prog w 0 (fun _ => true) true 26 [v]) :
    Calls Try.prog 3 #[.agg cs, v] w fun e w' => e = .returned (.bool true) ∧ Below w.heap.size w w' := by
  obtain ⟨cs⟩ := cs
  obtain ⟨T, A, B, c, d, rfl, hT, _⟩ := sees_trel h
  obtain ⟨CA, M, cc, ln, C, e, _, _, hR⟩ := sees_rows hv
  injection e with e _
  subst e
  exact viterbiAlongLaw_any T A B CA c d M cc ln C w hT hR
end Go.Proofs.Ytnocbkhnmdmfhaa
