/- FlowDuality returns true. -/
import Derived.Test.YthdeldaeghhfgaaFlowMath
import Derived.Test.YthdeldaeghhfgaaRawOpen
namespace Go.Proofs.Ythdeldaeghhfgaa
open Go.RowKit

set_option maxHeartbeats 4000000 in
theorem flowDuality_any (N : Net) (A F S : Option Addr) (c m d ms ds : Nat) (s t : Int) (f : Nat → Int) (sd : Nat → Bool) (x0 x1 x2 : Value) (w : World) (h : N.Reads w w.heap.size A) (hf : Ints w w.heap.size F m f) (hs : Bools w w.heap.size S ms sd) :
    Calls Try.prog 6 #[.agg #[.int .i64 N.V, .slice A N.n c, .int .i64 s, .int .i64 t, x0, x1, x2, .slice F m d, .slice S ms ds]] w fun e w' => e = .returned (.bool true) ∧ Below w.heap.size w w' := by
  go_enter Try.func6, Try.ntmps6
  go_wp2_with fail
  refine (alive_any _).mono ?_
  rintro e w1 ⟨rfl, hb⟩
  have hB : Below (w.heap.size + 1) (w.alloc (.cells #[.int .i64 N.V, .slice A N.n c, .int .i64 s, .int .i64 t, x0, x1, x2, .slice F m d, .slice S ms ds] 41)) w1 := box_on (Below.refl _ _) hb
  have hB' := box_below hB
  have p0 := box_cell hB 0 rfl
  have p1 := box_cell hB 1 rfl
  have p2 := box_cell hB 2 rfl
  have p3 := box_cell hB 3 rfl
  clear hb
  go_wp2_with fail
  refine (refEnds_any N A c s t w1 (h.on hB')).mono ?_
  rintro e w2 ⟨rfl, hb⟩
  have hB2 := box_on hB hb
  have hB2' := box_below hB2
  clear p0 p1 p2 p3 hb hB hB'
  by_cases he : N.endsE s t = 0
  · have hE := ends_of he
    have he' : (N.endsE s t != 0) = false := by simp [he]
    clear he
    have p0 := box_cell hB2 0 rfl
    have p1 := box_cell hB2 1 rfl
    have p2 := box_cell hB2 2 rfl
    have p3 := box_cell hB2 3 rfl
    have p7 := box_cell hB2 7 rfl
    go_wp2_with fail
    refine (isFlow_any N A F c m d s t f w2 (h.on hB2') (hf.on hB2') hE).mono ?_
    rintro e w3 ⟨⟨b, hbb, rfl⟩, hb⟩
    have hB3 := box_on hB2 hb
    have hB3' := box_below hB3
    clear p0 p1 p2 p3 p7 hb hB2 hB2'
    cases b
    · clear hbb
      go_wp2
      go_ret
      exact ⟨rfl, hB3'⟩
    · have hF := hid (hbb.1 rfl)
      clear hbb
      have p0 := box_cell hB3 0 rfl
      have p1 := box_cell hB3 1 rfl
      have p2 := box_cell hB3 2 rfl
      have p3 := box_cell hB3 3 rfl
      have p8 := box_cell hB3 8 rfl
      go_wp2_with fail
      refine (isCut_any N A S c ms ds s t sd w3 (hs.on hB3') hE).mono ?_
      rintro e w4 ⟨⟨b, hbb, rfl⟩, hb⟩
      have hB4 := box_on hB3 hb
      have hB4' := box_below hB4
      clear p0 p1 p2 p3 p8 hb hB3 hB3'
      cases b
      · clear hbb
        go_wp2
        go_ret
        exact ⟨rfl, hB4'⟩
      · have hC := hid (hbb.1 rfl)
        clear hbb
        have p0 := box_cell hB4 0 rfl
        have p1 := box_cell hB4 1 rfl
        have p2 := box_cell hB4 2 rfl
        have p7 := box_cell hB4 7 rfl
        go_wp2_with fail
        refine (value_any N A F c m d f s w4 (h.on hB4') (hf.on hB4')).mono ?_
        rintro e w5 ⟨rfl, hb⟩
        obtain ⟨e1, e2⟩ := flowP_vals hE hF.out hE.s0 hE.s1
        rw [e1, e2]
        have hB5 := box_on hB4 hb
        have hB5' := box_below hB5
        clear p0 p1 p2 p7 hb hB4 hB4' e1 e2
        have p0 := box_cell hB5 0 rfl
        have p1 := box_cell hB5 1 rfl
        have p3 := box_cell hB5 3 rfl
        have p7 := box_cell hB5 7 rfl
        go_wp2_with fail
        refine (value_any N A F c m d f t w5 (h.on hB5') (hf.on hB5')).mono ?_
        rintro e w6 ⟨rfl, hb⟩
        obtain ⟨e1, e2⟩ := flowP_vals hE hF.out hE.t0 hE.t1
        rw [e1, e2]
        have hB6 := box_on hB5 hb
        have hB6' := box_below hB6
        clear p0 p1 p3 p7 hb hB5 hB5' e1 e2
        have p0 := box_cell hB6 0 rfl
        have p1 := box_cell hB6 1 rfl
        have p8 := box_cell hB6 8 rfl
        go_wp2_with fail
        refine (cut_any N A S c ms ds sd w6 (h.on hB6') (hs.on hB6')).mono ?_
        rintro e w7 ⟨rfl, hb⟩
        obtain ⟨e1, e2⟩ := cutP_vals hE hC.out
        rw [e1, e2]
        have hB7' := box_below (box_on hB6 hb)
        clear p0 p1 p8 hb hB6 hB6' e1 e2
        have hle := Net.duality hE hF.out hC.out
        have hbal := Net.balance hE hF.out
        obtain ⟨b1, b2⟩ := netAt_small (v := t) hE hF.out
        have heq : (N.netAt f s N.n == -N.netAt f t N.n) = true := by simp [hbal]
        clear hbal
        go_wp2
        go_ret
        exact ⟨rfl, hB7'⟩
  · have he' : (N.endsE s t != 0) = true := by simpa using he
    clear he
    go_wp2
    go_ret
    exact ⟨rfl, hB2'⟩

theorem flowDuality_law {H : Type} {enc : TypeId × Value → H} {w : World} {cs : Array Value} (h : Sees enc Try.prog w 0 (fun _ => true) true 41 cs.toList) :
    Calls Try.prog 6 #[.agg cs] w fun e w' => e = .returned (.bool true) ∧ Below w.heap.size w w' := by
  obtain ⟨cs⟩ := cs
  obtain ⟨N, A, c, s, t, val, F, m, d, f, S, ms, ds, sd, F', m', d', f', S', ms', ds', sd', rfl, hN, _, _, hf, hs, _⟩ := sees_raw h
  exact flowDuality_any N A F' S' c m' d' ms' ds' s t f' sd' _ _ _ w hN hf hs
end Go.Proofs.Ythdeldaeghhfgaa
