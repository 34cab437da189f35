/- FlowSound returns true. -/
import Derived.Test.YthdeldaeghhfgaaFlowMath
import Derived.Test.YthdeldaeghhfgaaAccept
import Derived.Test.YthdeldaeghhfgaaRawOpen
namespace Go.Proofs.Ythdeldaeghhfgaa
open Go.RowKit

set_option maxHeartbeats 4000000 in
theorem flowSound_any (N : Net) (A F S F' S' : Option Addr) (c m d ms ds m' d' ms' ds' : Nat) (s t val : Int) (f f' : Nat → Int) (sd sd' : Nat → Bool) (w : World) (h : N.Reads w w.heap.size A)
    (hf : Ints w w.heap.size F m f) (hs : Bools w w.heap.size S ms sd) (hf' : Ints w w.heap.size F' m' f') (hs' : Bools w w.heap.size S' ms' sd') :
    Calls Try.prog 8 #[.agg #[.int .i64 N.V, .slice A N.n c, .int .i64 s, .int .i64 t, .int .i64 val, .slice F m d, .slice S ms ds, .slice F' m' d', .slice S' ms' ds']] w fun e w' => e = .returned (.bool true) ∧ Below w.heap.size w w' := by
  go_enter Try.func8, Try.ntmps8
  go_wp2_with fail
  refine (alive_any _).mono ?_
  rintro e w1 ⟨rfl, hb⟩
  have hB : Below (w.heap.size + 1) (w.alloc (.cells #[.int .i64 N.V, .slice A N.n c, .int .i64 s, .int .i64 t, .int .i64 val, .slice F m d, .slice S ms ds, .slice F' m' d', .slice S' ms' ds'] 41)) w1 := box_on (Below.refl _ _) hb
  have hB' := box_below hB
  have p0 := box_cell hB 0 rfl
  have p1 := box_cell hB 1 rfl
  have p2 := box_cell hB 2 rfl
  have p3 := box_cell hB 3 rfl
  have p4 := box_cell hB 4 rfl
  have p5 := box_cell hB 5 rfl
  have p6 := box_cell hB 6 rfl
  clear hb
  go_wp2_with fail
  refine (flowCheck_any N A F S c m d ms ds s t val f sd w1 (h.on hB') (hf.on hB') (hs.on hB')).mono ?_
  rintro e w2 ⟨⟨x, hx, rfl⟩, hb⟩
  have hB2 := box_on hB hb
  have hB2' := box_below hB2
  clear p0 p1 p2 p3 p4 p5 p6 hb hB hB'
  by_cases hx0 : x = 0
  · obtain ⟨he0, hC⟩ := hx.zero.1 hx0
    have hE := ends_of he0
    have HE := hid he0
    have HC := hid hC
    subst hx0
    clear he0 hC hx
    have p0 := box_cell hB2 0 rfl
    have p1 := box_cell hB2 1 rfl
    have p2 := box_cell hB2 2 rfl
    have p3 := box_cell hB2 3 rfl
    go_wp2_with fail
    refine (refEnds_any N A c s t w2 (h.on hB2')).mono ?_
    rintro e w3 ⟨rfl, hb⟩
    rw [HE.out]
    have hB3 := box_on hB2 hb
    have hB3' := box_below hB3
    clear p0 p1 p2 p3 hb hB2 hB2'
    have p0 := box_cell hB3 0 rfl
    have p1 := box_cell hB3 1 rfl
    have p2 := box_cell hB3 2 rfl
    have p3 := box_cell hB3 3 rfl
    have p7 := box_cell hB3 7 rfl
    go_wp2_with fail
    refine (isFlow_any N A F' c m' d' s t f' w3 (h.on hB3') (hf'.on hB3') hE).mono ?_
    rintro e w4 ⟨⟨b, hbb, rfl⟩, hb⟩
    have hB4 := box_on hB3 hb
    have hB4' := box_below hB4
    clear p0 p1 p2 p3 p7 hb hB3 hB3'
    have last : ∀ w5 : World, Below (w.heap.size + 1) (w.alloc (.cells #[.int .i64 N.V, .slice A N.n c, .int .i64 s, .int .i64 t, .int .i64 val, .slice F m d, .slice S ms ds, .slice F' m' d', .slice S' ms' ds'] 41)) w5 →
        Calls Try.prog 23 #[.agg #[.int .i64 N.V, .slice A N.n c], .int .i64 s, .int .i64 t, .slice S' ms' ds'] w5 fun e w' => Tells (N.CutP s t ms' sd') e ∧ Below w5.heap.size w5 w' := fun w5 h5 =>
      isCut_any N A S' c ms' ds' s t sd' w5 (hs'.on (box_below h5)) hE
    have LAST := hid last
    clear last
    cases b
    · clear hbb
      have p0 := box_cell hB4 0 rfl
      have p1 := box_cell hB4 1 rfl
      have p2 := box_cell hB4 2 rfl
      have p3 := box_cell hB4 3 rfl
      have p8 := box_cell hB4 8 rfl
      go_wp2_with fail
      refine (LAST.out w4 hB4).mono ?_
      rintro e w5 ⟨⟨b, hbb, rfl⟩, hb⟩
      have hB5 := box_on hB4 hb
      have hB5' := box_below hB5
      clear p0 p1 p2 p3 p8 hb hB4 hB4'
      cases b
      · clear hbb
        go_wp2
        go_ret
        exact ⟨rfl, hB5'⟩
      · have hQ := hid (hbb.1 rfl)
        clear hbb
        have p0 := box_cell hB5 0 rfl
        have p1 := box_cell hB5 1 rfl
        have p8 := box_cell hB5 8 rfl
        go_wp2_with fail
        refine (cut_any N A S' c ms' ds' sd' w5 (h.on hB5') (hs'.on hB5')).mono ?_
        rintro e w6 ⟨rfl, hb⟩
        obtain ⟨e1, e2⟩ := cutP_vals hE hQ.out
        rw [e1, e2]
        have hB6 := box_on hB5 hb
        have hB6' := box_below hB6
        have p4 := box_cell hB6 4 rfl
        have hle : val ≤ N.cap sd' := by rw [← HC.out.2.2.1]; exact Net.duality hE HC.out.1 hQ.out
        have hle' : ¬ N.cap sd' < val := by omega
        clear p0 p1 p8 hb hB5 hB5' e1 e2 hle
        go_wp2
        go_ret
        exact ⟨rfl, hB6'⟩
    · have hF := hid (hbb.1 rfl)
      clear hbb
      have p0 := box_cell hB4 0 rfl
      have p1 := box_cell hB4 1 rfl
      have p2 := box_cell hB4 2 rfl
      have p7 := box_cell hB4 7 rfl
      go_wp2_with fail
      refine (value_any N A F' c m' d' f' s w4 (h.on hB4') (hf'.on hB4')).mono ?_
      rintro e w5 ⟨rfl, hb⟩
      obtain ⟨e1, e2⟩ := flowP_vals hE hF.out hE.s0 hE.s1
      rw [e1, e2]
      have hB5 := box_on hB4 hb
      have hB5' := box_below hB5
      clear p0 p1 p2 p7 hb hB4 hB4' e1 e2
      have hle : N.netAt f' s N.n ≤ val := by rw [← HC.out.2.2.2]; exact Net.duality hE hF.out HC.out.2.1
      have hle' : ¬ val < N.netAt f' s N.n := by omega
      clear hle
      have p4 := box_cell hB5 4 rfl
      have p0 := box_cell hB5 0 rfl
      have p1 := box_cell hB5 1 rfl
      have p2 := box_cell hB5 2 rfl
      have p3 := box_cell hB5 3 rfl
      have p8 := box_cell hB5 8 rfl
      go_wp2_with fail
      refine (LAST.out w5 hB5).mono ?_
      rintro e w6 ⟨⟨b, hbb, rfl⟩, hb⟩
      have hB6 := box_on hB5 hb
      have hB6' := box_below hB6
      clear p0 p1 p2 p3 p4 p8 hb hB5 hB5'
      cases b
      · clear hbb
        go_wp2
        go_ret
        exact ⟨rfl, hB6'⟩
      · have hQ := hid (hbb.1 rfl)
        clear hbb
        have p0 := box_cell hB6 0 rfl
        have p1 := box_cell hB6 1 rfl
        have p8 := box_cell hB6 8 rfl
        go_wp2_with fail
        refine (cut_any N A S' c ms' ds' sd' w6 (h.on hB6') (hs'.on hB6')).mono ?_
        rintro e w7 ⟨rfl, hb⟩
        obtain ⟨e1, e2⟩ := cutP_vals hE hQ.out
        rw [e1, e2]
        have hB7 := box_on hB6 hb
        have hB7' := box_below hB7
        have p4 := box_cell hB7 4 rfl
        have hle : val ≤ N.cap sd' := by rw [← HC.out.2.2.1]; exact Net.duality hE HC.out.1 hQ.out
        have hle2 : ¬ N.cap sd' < val := by omega
        clear p0 p1 p8 hb hB6 hB6' e1 e2 hle
        go_wp2
        go_ret
        exact ⟨rfl, hB7'⟩
  · have hx' : (x != 0) = true := by simpa using hx0
    clear hx0 hx
    go_wp2
    go_ret
    exact ⟨rfl, hB2'⟩

theorem flowSound_law {H : Type} {enc : TypeId × Value → H} {w : World} {cs : Array Value} (h : Sees enc Try.prog w 0 (fun _ => true) true 41 cs.toList) :
    Calls Try.prog 8 #[.agg cs] w fun e w' => e = .returned (.bool true) ∧ Below w.heap.size w w' := by
  obtain ⟨cs⟩ := cs
  obtain ⟨N, A, c, s, t, val, F, m, d, f, S, ms, ds, sd, F', m', d', f', S', ms', ds', sd', rfl, hN, hf, hs, hf', hs', _⟩ := sees_raw h
  exact flowSound_any N A F S F' S' c m d ms ds m' d' ms' ds' s t val f f' sd sd' w hN hf hs hf' hs'
end Go.Proofs.Ythdeldaeghhfgaa
