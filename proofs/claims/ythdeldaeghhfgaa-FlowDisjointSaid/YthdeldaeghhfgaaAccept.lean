/- flow.Check and codewrightref51.Accept accept just the certified flows. -/
import Derived.Test.YthdeldaeghhfgaaCertified
namespace Go.Proofs.Ythdeldaeghhfgaa
open Go.RowKit

/-- The error code of a check of P behind the check of the ends. -/
def AccE (e0 : Int) (P : Prop) (x : Int) : Prop := (e0 ≠ 0 ∧ x = e0) ∨ (e0 = 0 ∧ P ∧ x = 0) ∨ (e0 = 0 ∧ ¬ P ∧ x = 13)
theorem AccE.same {e0 x y : Int} {P : Prop} (h : AccE e0 P x) (k : AccE e0 P y) : x = y := by
  rcases h with ⟨h1, h2⟩ | ⟨h1, h2, h3⟩ | ⟨h1, h2, h3⟩ <;> rcases k with ⟨k1, k2⟩ | ⟨k1, k2, k3⟩ | ⟨k1, k2, k3⟩ <;> first | omega | exact absurd h2 k2 | exact absurd k2 h2 | exact absurd h1 k1 | exact absurd k1 h1
theorem AccE.zero {e0 x : Int} {P : Prop} (h : AccE e0 P x) : x = 0 ↔ e0 = 0 ∧ P := by
  rcases h with ⟨h1, h2⟩ | ⟨h1, h2, h3⟩ | ⟨h1, h2, h3⟩
  · exact ⟨fun h => absurd (h2 ▸ h) h1, fun h => absurd h.1 h1⟩
  · exact ⟨fun _ => ⟨h1, h2⟩, fun _ => h3⟩
  · exact ⟨fun h => by omega, fun h => absurd h.2 h2⟩
def Codes (e0 : Int) (P : Prop) (e : Ending) : Prop := ∃ x, AccE e0 P x ∧ e = .returned (.int .i64 x)

set_option maxHeartbeats 2000000 in
theorem flowCheck_any (N : Net) (A F S : Option Addr) (c m d ms ds : Nat) (s t val : Int) (f : Nat → Int) (sd : Nat → Bool) (w : World) (h : N.Reads w w.heap.size A) (hf : Ints w w.heap.size F m f) (hs : Bools w w.heap.size S ms sd) :
    Calls Try.prog 24 #[.agg #[.int .i64 N.V, .slice A N.n c], .int .i64 s, .int .i64 t, .agg #[.int .i64 val, .slice F m d, .slice S ms ds]] w fun e w' => Codes (N.endsE s t) (N.Cert s t val m f ms sd) e ∧ Below w.heap.size w w' := by
  have hb0 : Below w.heap.size w (boxed w N A c val F m d S ms ds) := boxed_below boxed_start
  by_cases he : N.endsE s t = 0
  · have hE := ends_of he
    have HE := hid he
    have he' : (N.endsE s t != 0) = false := by simp [he]
    clear he
    go_enter Try.func24, Try.ntmps24
    go_wp2_with fail
    refine (ends_any N A c s t (boxed w N A c val F m d S ms ds) (h.on hb0)).mono ?_
    rintro e w1 ⟨rfl, hb⟩
    have hB := boxed_on boxed_start hb
    obtain ⟨p0, p1, p2, p3, p4⟩ := boxed_cells hB
    have hB' := boxed_below hB
    clear hb
    go_wp2_with fail
    refine (certified_any N A F S c m d ms ds s t val f sd w1 (h.on hB') (hf.on hB') (hs.on hB') hE).mono ?_
    rintro e w2 ⟨⟨b, hbb, rfl⟩, hb⟩
    have hB2 := onS hB' hb
    clear p0 p1 p2 p3 p4 hb
    cases b
    · have HC := hid (show AccE (N.endsE s t) (N.Cert s t val m f ms sd) 13 from .inr (.inr ⟨HE.out, fun hP => by simpa using hbb.2 hP, rfl⟩))
      clear hbb
      go_wp2
      go_ret
      exact ⟨⟨_, HC.out, rfl⟩, hB2⟩
    · have HC := hid (show AccE (N.endsE s t) (N.Cert s t val m f ms sd) 0 from .inr (.inl ⟨HE.out, hbb.1 rfl, rfl⟩))
      clear hbb
      go_wp2
      go_ret
      exact ⟨⟨_, HC.out, rfl⟩, hB2⟩
  · have HC := hid (show AccE (N.endsE s t) (N.Cert s t val m f ms sd) (N.endsE s t) from .inl ⟨he, rfl⟩)
    have he' : (N.endsE s t != 0) = true := by simpa using he
    clear he
    go_enter Try.func24, Try.ntmps24
    go_wp2_with fail
    refine (ends_any N A c s t (boxed w N A c val F m d S ms ds) (h.on hb0)).mono ?_
    rintro e w1 ⟨rfl, hb⟩
    have hB' := boxed_below (boxed_on boxed_start hb)
    clear hb
    go_wp2
    go_ret
    exact ⟨⟨_, HC.out, rfl⟩, hB'⟩

set_option maxHeartbeats 2000000 in
theorem accept_any (N : Net) (A F S : Option Addr) (c m d ms ds : Nat) (s t val : Int) (f : Nat → Int) (sd : Nat → Bool) (w : World) (h : N.Reads w w.heap.size A) (hf : Ints w w.heap.size F m f) (hs : Bools w w.heap.size S ms sd) :
    Calls Try.prog 25 #[.agg #[.int .i64 N.V, .slice A N.n c], .int .i64 s, .int .i64 t, .agg #[.int .i64 val, .slice F m d, .slice S ms ds]] w fun e w' => Codes (N.endsE s t) (N.Cert s t val m f ms sd) e ∧ Below w.heap.size w w' := by
  have hb0 : Below w.heap.size w (boxed w N A c val F m d S ms ds) := boxed_below boxed_start
  by_cases he : N.endsE s t = 0
  · have hE := ends_of he
    have HE := hid he
    have he' : (N.endsE s t != 0) = false := by simp [he]
    clear he
    go_enter Try.func25, Try.ntmps25
    go_wp2_with fail
    refine (refEnds_any N A c s t (boxed w N A c val F m d S ms ds) (h.on hb0)).mono ?_
    rintro e w1 ⟨rfl, hb⟩
    have hB := boxed_on boxed_start hb
    obtain ⟨p0, p1, p2, p3, p4⟩ := boxed_cells hB
    have hB' := boxed_below hB
    clear hb
    go_wp2_with fail
    refine (isFlow_any N A F c m d s t f w1 (h.on hB') (hf.on hB') hE).mono ?_
    rintro e w2 ⟨⟨b, hbb, rfl⟩, hb⟩
    have hB2 := boxed_on hB hb
    obtain ⟨q0, q1, q2, q3, q4⟩ := boxed_cells hB2
    have hB2' := boxed_below hB2
    clear p0 p1 p2 p3 p4 hb hB hB'
    cases b
    · have HC := hid (show AccE (N.endsE s t) (N.Cert s t val m f ms sd) 13 from .inr (.inr ⟨HE.out, fun hP => by simpa using hbb.2 hP.1, rfl⟩))
      clear hbb
      go_wp2
      go_ret
      exact ⟨⟨_, HC.out, rfl⟩, hB2'⟩
    · have hF := hbb.1 rfl
      have HFP := hid hF
      clear hbb hF
      go_wp2_with fail
      refine (isCut_any N A S c ms ds s t sd w2 (hs.on hB2') hE).mono ?_
      rintro e w3 ⟨⟨b, hbb, rfl⟩, hb⟩
      have hB3 := boxed_on hB2 hb
      obtain ⟨p0, p1, p2, p3, p4⟩ := boxed_cells hB3
      have hB3' := boxed_below hB3
      clear q0 q1 q2 q3 q4 hb hB2 hB2'
      cases b
      · have HC := hid (show AccE (N.endsE s t) (N.Cert s t val m f ms sd) 13 from .inr (.inr ⟨HE.out, fun hP => by simpa using hbb.2 hP.2.1, rfl⟩))
        clear hbb
        go_wp2
        go_ret
        exact ⟨⟨_, HC.out, rfl⟩, hB3'⟩
      · have HCP := hid (hbb.1 rfl)
        clear hbb
        go_wp2_with fail
        refine (refValue_any N A F c m d f s w3 (h.on hB3') (hf.on hB3')).mono ?_
        rintro e w4 ⟨rfl, hb⟩
        have hB4 := boxed_on hB3 hb
        obtain ⟨q0, q1, q2, q3, q4⟩ := boxed_cells hB4
        have hB4' := boxed_below hB4
        clear p0 p1 p2 p3 p4 hb hB3 hB3'
        go_wp2_with fail
        refine (refCut_any N A S c ms ds sd w4 (h.on hB4') (hs.on hB4')).mono ?_
        rintro e w5 ⟨rfl, hb⟩
        have hB5 := boxed_on hB4 hb
        obtain ⟨p0, p1, p2, p3, p4⟩ := boxed_cells hB5
        have hB5' := boxed_below hB5
        clear q0 q1 q2 q3 q4 hb hB4 hB4'
        have kv : N.valV m f s = N.netAt f s N.n := by
          obtain ⟨hmn, hr, _⟩ := HFP.out
          subst hmn
          have hni : ¬ 0 ≤ idxTo outCap f N.n := by
            have : idxTo outCap f N.n = -1 := idxTo_neg fun i hi => by
              have := hr i hi
              have := hE.good.arc i hi
              simp [outCap]; omega
            omega
          exact (valE_ok (Net.chk_of_good hE.good) hni hE.s0 hE.s1).2
        have kc : N.cutV ms sd = N.cap sd := by
          have : N.cutE ms = 0 := by simp [Net.cutE, Net.chk_of_good hE.good, HCP.out.1]
          simp [Net.cutV, this]
        by_cases g1 : N.valV m f s = val
        · have g1' : (N.valV m f s != val) = false := by simp [g1]
          by_cases g2 : N.cutV ms sd = val
          · have g2' : (N.cutV ms sd != val) = false := by simp [g2]
            have HC := hid (show AccE (N.endsE s t) (N.Cert s t val m f ms sd) 0 from .inr (.inl ⟨HE.out, ⟨HFP.out, HCP.out, by rw [← kv, g1], by rw [← kc, g2]⟩, rfl⟩))
            clear g1 g2 kv kc
            go_wp2
            go_ret
            exact ⟨⟨_, HC.out, rfl⟩, hB5'⟩
          · have g2' : (N.cutV ms sd != val) = true := by simpa using g2
            have HC := hid (show AccE (N.endsE s t) (N.Cert s t val m f ms sd) 13 from .inr (.inr ⟨HE.out, fun hP => g2 (by rw [kc]; exact hP.2.2.2), rfl⟩))
            clear g1 g2 kv kc
            go_wp2
            go_ret
            exact ⟨⟨_, HC.out, rfl⟩, hB5'⟩
        · have g1' : (N.valV m f s != val) = true := by simpa using g1
          have HC := hid (show AccE (N.endsE s t) (N.Cert s t val m f ms sd) 13 from .inr (.inr ⟨HE.out, fun hP => g1 (by rw [kv]; exact hP.2.2.1), rfl⟩))
          clear g1 kv kc
          go_wp2
          go_ret
          exact ⟨⟨_, HC.out, rfl⟩, hB5'⟩
  · have HC := hid (show AccE (N.endsE s t) (N.Cert s t val m f ms sd) (N.endsE s t) from .inl ⟨he, rfl⟩)
    have he' : (N.endsE s t != 0) = true := by simpa using he
    clear he
    go_enter Try.func25, Try.ntmps25
    go_wp2_with fail
    refine (refEnds_any N A c s t (boxed w N A c val F m d S ms ds) (h.on hb0)).mono ?_
    rintro e w1 ⟨rfl, hb⟩
    have hB' := boxed_below (boxed_on boxed_start hb)
    clear hb
    go_wp2
    go_ret
    exact ⟨⟨_, HC.out, rfl⟩, hB'⟩
end Go.Proofs.Ythdeldaeghhfgaa
