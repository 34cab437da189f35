/- BoundsWords returns true. -/
import Derived.Test.YtgininddoalenaaApart
import Derived.Test.YtgininddoalenaaWordBounds
namespace Go.Proofs.Ytgininddoalenaa
open Go.RowKit Go.ChangeShapes Go.WideShapes Go.ChangeAt

theorem dis_of {f g : Nat → Int} : ∀ n, (∀ j, j < n → 0 ≤ f j ∧ 0 ≤ g j) → dis n (fun j => (f j).toNat) (fun j => (g j).toNat) = (disN f g n : Int) := by
  intro n
  induction n with
  | zero => intro _; rfl
  | succ n ih =>
    intro h
    show sig n _ + ind ((f n).toNat ≠ (g n).toNat) = ((disN f g n + if f n = g n then 0 else 1 : Nat) : Int)
    have e := ih fun j hj => h j (by omega)
    unfold dis at e
    rw [e]
    have := h n (by omega)
    unfold ind
    by_cases h2 : f n = g n
    · rw [if_neg (by omega), if_pos h2]; omega
    · rw [if_pos (by omega), if_neg h2]; omega
theorem disN_symm (f g : Nat → Int) (n : Nat) : disN f g n = disN g f n := by
  induction n with
  | zero => rfl
  | succ n ih =>
    show _ + _ = _ + _
    rw [ih]
    by_cases h : f n = g n
    · rw [if_pos h, if_pos h.symm]
    · rw [if_neg h, if_neg (fun e => h e.symm)]
theorem words_of {q n d M : Nat} {ln : Nat → Nat} {W : Nat → Nat → Int} (hg : WordsGood (q : Int) M ln W) (hn : ln 0 = n) (hf : FarAll (d : Int) M n W) : Words q n d M (fun i j => (W i j).toNat) := by
  obtain ⟨h1, h2, h3, h4, h5, h6⟩ := hg
  rw [hn] at h6
  refine ⟨fun i j hi hj => ?_, fun i k hi hk hne => ?_⟩
  · have := (h6 i hi).2 j hj
    show (W i j).toNat < q
    omega
  · rw [dis_of n fun j hj => ⟨((h6 i hi).2 j hj).1, ((h6 k hk).2 j hj).1⟩]
    rcases Nat.lt_or_ge i k with hlt | hge
    · rw [disN_symm]; exact hf k hk i hlt
    · exact hf i hi k (by omega)

set_option maxRecDepth 100000 in
set_option maxHeartbeats 8000000 in
theorem boundsWords_any (q d : Int) (T : Option Addr) (M c : Nat) (ln : Nat → Nat) (W : Nat → Nat → Int) (w : World) (h : IntRows w T M ln W) :
    Calls Try.prog 11 #[.int .i64 q, .int .i64 d, .slice T M c] w fun e w' => e = .returned (.bool true) ∧ Below w.heap.size w w' := by
  by_cases hbig : 300 < M
  · have hbig' : (300 : Int) < (M : Int) := by omega
    clear h
    go_enter Try.func11, Try.ntmps11
    go_wp2
    go_ret
    exact ⟨rfl, Below.refl _ _⟩
  have hbig' : ¬ (300 : Int) < (M : Int) := by omega
  have hM3 : M ≤ 300 := by omega
  go_enter Try.func11, Try.ntmps11
  go_wp2_with fail
  refine (refWords_any q T M c ln W _ h hM3).mono ?_
  rintro e w1 ⟨v, rfl, hgood, hB⟩
  by_cases hv : v = 0
  rotate_left
  · have hv1 : (v != 0) = true := by simpa using hv
    have hv2 : (v == 0) = false := by simpa using hv
    clear hgood
    go_wp2
    go_ret
    exact ⟨rfl, hB⟩
  subst hv
  obtain ⟨g1, g2, g3, g4, g5, g6⟩ := hgood rfl
  have hgd : Hid (WordsGood q M ln W) := ⟨g1, g2, g3, g4, g5, g6⟩
  clear hgood
  have hln : Hid (∀ i, i < M → ln i = ln 0) := fun i hi => (g6 i hi).1
  clear g6
  obtain ⟨b, off, A0, c0, rfl, hb, t0, _, _, _⟩ := h 0 (by omega)
  rw [Nat.add_zero] at t0
  obtain ⟨n, hn⟩ : ∃ n, n = ln 0 := ⟨_, rfl⟩
  rw [← hn] at t0 g4 g5 hln
  have HN := hid hn
  clear hn
  have t1 := cellS hB t0
  have hMp : (0 : Int) < (M : Int) := by omega
  by_cases hd1 : d < 1
  · clear h
    go_wp2
    go_ret
    exact ⟨rfl, hB⟩
  by_cases hd2 : (n : Int) < d
  · have hd1' : ¬ d < 1 := hd1
    clear h
    go_wp2
    go_ret
    exact ⟨rfl, hB⟩
  have hd1' : ¬ d < 1 := hd1
  have hd2' : ¬ (n : Int) < d := hd2
  go_wp2_with fail
  refine (refApart_any d (some ⟨b, off, none⟩) M c n ln W _ (h.on hB) hM3 (by omega) hln).mono ?_
  rintro e w2 ⟨v, rfl, hfar, kb⟩
  replace hB := onS hB kb
  clear t1 kb
  have t1 := cellS hB t0
  cases v
  · clear hfar h
    go_wp2
    go_ret
    exact ⟨rfl, hB⟩
  have hf := hfar rfl
  clear hfar h
  obtain ⟨q, rfl⟩ := Int.eq_ofNat_of_zero_le (show 0 ≤ q by omega)
  obtain ⟨d, rfl⟩ := Int.eq_ofNat_of_zero_le (show 0 ≤ d by omega)
  have hW := hid (words_of hgd.out HN.out.symm hf)
  have hq2 : 2 ≤ q := by omega
  have hq256 : q ≤ 256 := by omega
  have hn64 : n ≤ 64 := by omega
  have hn1 : 1 ≤ n := g4
  have hdd1 : 1 ≤ d := by omega
  have hddn : d ≤ n := by omega
  have hro : rangeOk (q : Int) (n : Int) (d : Int) = true := by simp [rangeOk]; omega
  have HRO := hid hro
  have b1 : Hid (M ≤ q ^ (n - d + 1)) := singleton hW.out hdd1 hddn
  have b2 : Hid (M ≤ hamN q n d) := hamming hW.out hdd1
  have b4 : Hid (M ≤ eliBest q n d (eliEnd q n)) := elias_best hW.out hq2 hn1 hdd1 _ (Nat.le_refl _)
  have dl1 : dl (q ^ (n - d + 1)) ≤ 65 := dl_power (by omega) (by omega)
  have dl2 : dl (hamN q n d) ≤ 65 := Nat.le_trans (dl_mono (Nat.div_le_self _ _)) (dl_power (by omega) (by omega))
  have dl4 : dl (eliBest q n d (eliEnd q n)) ≤ 65 := dl_eli hq256 hn64
  have hM1 : 1 ≤ M := g3
  clear hf hro hgd hln hd1 hd2
  have hd1'' : (1 : Int) ≤ (d : Int) := by omega
  have hd2'' : (d : Int) ≤ (n : Int) := by omega
  clear hd1' hd2'
  have hd1' : ¬ (d : Int) < 1 := by omega
  have hd2' : ¬ (n : Int) < (d : Int) := by omega
  go_wp2_with fail
  refine (singOk_any q n d _ HRO.out hq256 hn64 hdd1 hddn).mono ?_
  rintro e w3 ⟨A1, c1, rfl, l1, l2, l3, kb⟩
  replace hB := onS hB kb
  clear kb t1
  obtain ⟨x1, hx1⟩ : ∃ x, x = q ^ (n - d + 1) := ⟨_, rfl⟩
  rw [← hx1] at l1 l3 b1 dl1 ⊢
  clear hx1
  go_wp2_with fail
  refine (hamOk_any q n d _ HRO.out (by omega) hq256 hn64 hdd1 hddn).mono ?_
  rintro e w4 ⟨A2, c2, rfl, m1, m2, m3, kb⟩
  replace hB := onS hB kb
  replace l3 := l3.on kb
  clear kb
  obtain ⟨x2, hx2⟩ : ∃ x, x = hamN q n d := ⟨_, rfl⟩
  rw [← hx2] at m1 m3 b2 dl2 ⊢
  clear hx2
  by_cases hyes : (q - 1) * n < q * d
  · have b3 : Hid (M ≤ plotN q n d) := plotkin hW.out hM1 hyes
    have dl3 : dl (plotN q n d) ≤ 65 := by
      have h1 : plotN q n d ≤ q * d := Nat.div_le_self _ _
      have h2 : q * d ≤ 256 * 64 := Nat.mul_le_mul hq256 (by omega)
      exact Nat.le_trans (dl_le (n := 1) (by omega)) (by omega)
    go_wp2_with fail
    refine (plotOk_any q n d _ HRO.out hq2 hq256 hn64 hddn hyes).mono ?_
    rintro e w5 ⟨A3, c3, rfl, p1, p2, p3, kb⟩
    replace hB := onS hB kb
    replace l3 := l3.on kb
    replace m3 := m3.on kb
    clear kb
    obtain ⟨x3, hx3⟩ : ∃ x, x = plotN q n d := ⟨_, rfl⟩
    rw [← hx3] at p1 p3 b3 dl3 ⊢
    clear hx3 hyes
    go_wp2_with fail
    refine (eliasOk_any q n d _ HRO.out hq2 hq256 hn1 hn64 hdd1 hddn).mono ?_
    rintro e w6 ⟨A4, c4, rfl, n1, n2, n3, kb⟩
    replace hB := onS hB kb
    replace l3 := l3.on kb
    replace m3 := m3.on kb
    replace p3 := p3.on kb
    clear kb
    obtain ⟨x4, hx4⟩ : ∃ x, x = eliBest q n d (eliEnd q n) := ⟨_, rfl⟩
    rw [← hx4] at n1 n3 b4 dl4 ⊢
    clear hx4
    go_wp2_with fail
    refine (holds_any A1 c1 x1 M _ l3 (by omega) (by omega) b1.out).mono ?_
    rintro e w7 ⟨rfl, kb⟩
    replace hB := onS hB kb
    replace m3 := m3.on kb
    replace p3 := p3.on kb
    replace n3 := n3.on kb
    clear kb
    go_wp2_with fail
    refine (holds_any A2 c2 x2 M _ m3 (by omega) (by omega) b2.out).mono ?_
    rintro e w7 ⟨rfl, kb⟩
    replace hB := onS hB kb
    replace p3 := p3.on kb
    replace n3 := n3.on kb
    clear kb
    go_wp2_with fail
    refine (holds_any A3 c3 x3 M _ p3 (by omega) (by omega) b3.out).mono ?_
    rintro e w7 ⟨rfl, kb⟩
    replace hB := onS hB kb
    replace n3 := n3.on kb
    clear kb
    go_wp2_with fail
    refine (holds_any A4 c4 x4 M _ n3 (by omega) (by omega) b4.out).mono ?_
    rintro e w7 ⟨rfl, kb⟩
    replace hB := onS hB kb
    clear kb
    go_wp2
    go_ret
    exact ⟨rfl, hB⟩
  · go_wp2_with fail
    refine (plotNo_any q n d _ HRO.out hq2 hq256 hn64 hddn (by omega)).mono ?_
    rintro e w5 ⟨rfl, rfl⟩
    clear hyes
    go_wp2_with fail
    refine (eliasOk_any q n d _ HRO.out hq2 hq256 hn1 hn64 hdd1 hddn).mono ?_
    rintro e w6 ⟨A4, c4, rfl, n1, n2, n3, kb⟩
    replace hB := onS hB kb
    replace l3 := l3.on kb
    replace m3 := m3.on kb
    clear kb
    obtain ⟨x4, hx4⟩ : ∃ x, x = eliBest q n d (eliEnd q n) := ⟨_, rfl⟩
    rw [← hx4] at n1 n3 b4 dl4 ⊢
    clear hx4
    go_wp2_with fail
    refine (holds_any A1 c1 x1 M _ l3 (by omega) (by omega) b1.out).mono ?_
    rintro e w7 ⟨rfl, kb⟩
    replace hB := onS hB kb
    replace m3 := m3.on kb
    replace n3 := n3.on kb
    clear kb
    go_wp2_with fail
    refine (holds_any A2 c2 x2 M _ m3 (by omega) (by omega) b2.out).mono ?_
    rintro e w7 ⟨rfl, kb⟩
    replace hB := onS hB kb
    replace n3 := n3.on kb
    clear kb
    go_wp2_with fail
    refine (holds_any A4 c4 x4 M _ n3 (by omega) (by omega) b4.out).mono ?_
    rintro e w7 ⟨rfl, kb⟩
    replace hB := onS hB kb
    clear kb
    go_wp2
    go_ret
    exact ⟨rfl, hB⟩
theorem boundsWords_law {H : Type} {enc : TypeId × Value → H} {w : World} {q d : Int} {T : Option Addr} {m c : Nat}
    (_hq : (Lit.int .i64 q).wf = true) (_hd : (Lit.int .i64 d).wf = true) (h : Sees enc Try.prog w 0 (fun _ => true) true 30 [.slice T m c]) :
    Calls Try.prog 11 #[.int .i64 q, .int .i64 d, .slice T m c] w fun e w' => e = .returned (.bool true) ∧ Below w.heap.size w w' := by
  obtain ⟨S, n, d', ln, W, e, h1, h2, h3⟩ := sees_rows h
  simp only [List.cons.injEq, Value.slice.injEq, and_true] at e
  obtain ⟨rfl, rfl, rfl⟩ := e
  exact boundsWords_any q d T m c ln W w h3
end Go.Proofs.Ytgininddoalenaa
