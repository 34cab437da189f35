/- BoundsBinary returns true. -/
import Derived.Test.YtgininddoalenaaWordsLaw
import Derived.Test.YtgininddoalenaaBinMath
import Derived.Test.YtgininddoalenaaJohnsonLaw
namespace Go.Proofs.Ytgininddoalenaa
open Go.RowKit Go.ChangeShapes Go.WideShapes Go.ChangeAt

/-- How many of the first k have the weight v. -/
def cntW (W : Nat → Nat → Int) (n : Nat) (v : Int) : Nat → Nat
  | 0 => 0
  | k + 1 => cntW W n v k + if (disN (W k) (fun _ => 0) n : Int) = v then 1 else 0
theorem cntW_le (W : Nat → Nat → Int) (n : Nat) (v : Int) (k : Nat) : cntW W n v k ≤ k := by
  induction k with
  | zero => exact Nat.le_refl _
  | succ k ih => unfold cntW; split <;> omega
theorem cntW_sig {W : Nat → Nat → Int} {n : Nat} {v : Int} : ∀ M, (∀ i, i < M → ∀ j, j < n → 0 ≤ W i j ∧ W i j < 2) → (cntW W n v M : Int) = sig M (fun i => ind (wt n (fun j => (W i j).toNat) = v)) := by
  intro M
  induction M with
  | zero => intro _; rfl
  | succ M ih =>
    intro h
    show ((cntW W n v M + if (disN (W M) (fun _ => 0) n : Int) = v then 1 else 0 : Nat) : Int) = sig M _ + ind (wt n (fun j => (W M j).toNat) = v)
    rw [← ih fun i hi => h i (by omega)]
    have e : (disN (W M) (fun _ => 0) n : Int) = wt n (fun j => (W M j).toNat) := by
      rw [← wt_zero (fun j hj => by have := h M (by omega) j hj; show (W M j).toNat < 2; omega)]
      have := dis_of (f := W M) (g := fun _ => 0) n (fun j hj => ⟨(h M (by omega) j hj).1, Int.le_refl 0⟩)
      rw [← this]
      rfl
    rw [← e]
    unfold ind
    split <;> simp

set_option maxRecDepth 100000 in
set_option maxHeartbeats 8000000 in
theorem boundsBinary_any (d v : Int) (T : Option Addr) (M c : Nat) (ln : Nat → Nat) (W : Nat → Nat → Int) (w : World) (h : IntRows w T M ln W) :
    Calls Try.prog 13 #[.int .i64 d, .int .i64 v, .slice T M c] w fun e w' => e = .returned (.bool true) ∧ Below w.heap.size w w' := by
  by_cases hbig : 300 < M
  · have hbig' : (300 : Int) < (M : Int) := by omega
    clear h
    go_enter Try.func13, Try.ntmps13
    go_wp2
    go_ret
    exact ⟨rfl, Below.refl _ _⟩
  have hbig' : ¬ (300 : Int) < (M : Int) := by omega
  have hM3 : M ≤ 300 := by omega
  go_enter Try.func13, Try.ntmps13
  go_wp2_with fail
  refine (refWords_any 2 T M c ln W _ h hM3).mono ?_
  rintro e w1 ⟨vv, rfl, hgood, hB⟩
  by_cases hv : vv = 0
  rotate_left
  · have hv1 : (vv != 0) = true := by simpa using hv
    have hv2 : (vv == 0) = false := by simpa using hv
    clear hgood
    go_wp2
    go_ret
    exact ⟨rfl, hB⟩
  subst hv
  obtain ⟨g1, g2, g3, g4, g5, g6⟩ := hgood rfl
  have hgd : Hid (WordsGood 2 M ln W) := ⟨g1, g2, g3, g4, g5, g6⟩
  clear hgood
  have hln : Hid (∀ i, i < M → ln i = ln 0) := fun i hi => (g6 i hi).1
  obtain ⟨b, off, A0, c0, rfl, hb, t0, _, _, _⟩ := h 0 (by omega)
  rw [Nat.add_zero] at t0
  obtain ⟨n, hn⟩ : ∃ n, n = ln 0 := ⟨_, rfl⟩
  rw [← hn] at t0 g4 g5 hln g6
  have HN := hid hn
  have hbin : Hid (∀ i, i < M → ∀ j, j < n → 0 ≤ W i j ∧ W i j < 2) := fun i hi => (g6 i hi).2
  clear hn g6
  have t1 := cellS hB t0
  have hMp : (0 : Int) < (M : Int) := by omega
  by_cases hd1 : d < 1
  · clear h
    go_wp2
    go_ret
    exact ⟨rfl, hB⟩
  by_cases hd2 : (n : Int) < d
  · have hd1' : ¬ d < 1 := hd1
    clear h
    go_wp2
    go_ret
    exact ⟨rfl, hB⟩
  have hd1' : ¬ d < 1 := hd1
  have hd2' : ¬ (n : Int) < d := hd2
  by_cases hv1 : v < 0
  · clear h
    go_wp2
    go_ret
    exact ⟨rfl, hB⟩
  by_cases hv2 : (n : Int) < v
  · have hv1' : ¬ v < 0 := hv1
    clear h
    go_wp2
    go_ret
    exact ⟨rfl, hB⟩
  have hv1' : ¬ v < 0 := hv1
  have hv2' : ¬ (n : Int) < v := hv2
  go_wp2_with fail
  refine (refApart_any d (some ⟨b, off, none⟩) M c n ln W _ (h.on hB) hM3 (by omega) hln).mono ?_
  rintro e w2 ⟨bb, rfl, hfar, kb⟩
  replace hB := onS hB kb
  clear t1 kb
  have t1 := cellS hB t0
  cases bb
  · clear hfar h
    go_wp2
    go_ret
    exact ⟨rfl, hB⟩
  have hf := hfar rfl
  clear hfar
  obtain ⟨d, rfl⟩ := Int.eq_ofNat_of_zero_le (show 0 ≤ d by omega)
  obtain ⟨v, rfl⟩ := Int.eq_ofNat_of_zero_le (show 0 ≤ v by omega)
  have hW := hid (words_of (q := 2) hgd.out HN.out.symm hf)
  have hn64 : n ≤ 64 := by omega
  have hn1 : 1 ≤ n := g4
  have hdd1 : 1 ≤ d := by omega
  have hddn : d ≤ n := by omega
  have hvn : v ≤ n := by omega
  have hro : rangeOk 2 (n : Int) (d : Int) = true := by simp [rangeOk]; omega
  have HRO := hid hro
  have b1 : Hid (M ≤ johA n d) := johnson hW.out hdd1 hddn
  have b2 : Hid (cntW W n (v : Int) M ≤ conN ((d + 1) / 2) n v) := by
    have h1 := constant_bound (w := v) hW.out hdd1
    rw [← cntW_sig M hbin.out] at h1
    show _ ≤ _
    omega
  have dl1 : dl (johA n d) ≤ 66 := dl_johA hn64 hddn hdd1
  have dl2 : dl (conN ((d + 1) / 2) n v) ≤ 65 := dl_con hn64
  clear hf hro hgd hd1 hd2 hv1 hv2 hbin
  have hd1'' : ¬ (d : Int) < 1 := by omega
  have hd2'' : ¬ (n : Int) < (d : Int) := by omega
  have hv1'' : ¬ (v : Int) < 0 := by omega
  have hv2'' : ¬ (n : Int) < (v : Int) := by omega
  clear hd1' hd2' hv1' hv2'
  have hmk0 := fun W => run_makeI (P := Try.prog) 27 3 _ 8 Try.underlying27 Try.infoInt rfl (n : Int) (by omega) (by omega) (by omega) W
  simp only [Int.toNat_natCast] at hmk0
  have HMK := hid hmk0
  clear hmk0
  have db1 : decide ((d : Int) < 1) = false := by simpa using hd1''
  have db2 : decide (n < d) = false := by simp; omega
  have db3 : decide ((v : Int) < 0) = false := by simp
  have db4 : decide (n < v) = false := by simp; omega
  go_wp2
  clear t1
  go_loopg [8, 9] M (fun gg ov iv wx => ∃ i : Nat, iv = .int .i64 (i : Nat) ∧ ov = .int .i64 (cntW W n (v : Int) i : Nat) ∧ i ≤ M ∧ M ≤ i + gg ∧ Below w.heap.size w wx)
  case atStart => exact ⟨0, rfl, rfl, by omega, by omega, hB⟩
  case round =>
    clear hB
    obtain ⟨i, rfl, rfl, hi, hig, hB⟩ := hrel
    have hi0 : (0 : Int) ≤ (i : Int) := by omega
    have hcl := cntW_le W n (v : Int) i
    by_cases hlt : i < M
    · have hlt' : (i : Int) < (M : Int) := by omega
      obtain ⟨b2_, off2, A, ca, e, _, t2, k1, k2, hints, _⟩ := h i hlt
      injection e with e
      injection e with e1 e2
      subst e1 e2
      rw [hln.out i hlt] at t2 hints
      have HS : Hid (∀ w' : World, Below w.heap.size w w' → w'.cell? ⟨b, off + i, none⟩ = some (.slice A n ca)) := fun w' kb => cellS kb t2
      clear t2
      have hnx : cntW W n (v : Int) (i + 1) = cntW W n (v : Int) i + if (disN (W i) (fun _ => 0) n : Int) = (v : Int) then 1 else 0 := rfl
      obtain ⟨D, hD⟩ : ∃ D, D = disN (W i) (fun _ => 0) n := ⟨_, rfl⟩
      obtain ⟨C, hC⟩ : ∃ C, C = cntW W n (v : Int) i := ⟨_, rfl⟩
      rw [← hD, ← hC] at hnx
      rw [← hC] at hcl
      rw [← hC]
      have HD := hid hD
      clear hD hC
      obtain ⟨w0, hw0⟩ : ∃ W, W = wr := ⟨_, rfl⟩
      rw [← hw0] at hB ⊢
      clear hw0
      by_cases hdv : (D : Int) = (v : Int)
      · rw [if_pos hdv] at hnx
        have HNX := hid hnx
        have hdb : ((D : Int) == (v : Int)) = true := by simpa using hdv
        have hdb2 : (D == v) = true := by simp; omega
        clear hnx hdv
        go_upto_region 8 with fail
        have hmk := HMK.out
        refine wp_region_held_drew (S := fun w' => w'.cell? ⟨b, off + i, none⟩ = some (.slice A n ca)) (by kernel_rfl) (HS.out _ hB.drew) (fun hHeld => ?_)
        obtain ⟨w1, hw⟩ : ∃ W, W = World.drew w0 := ⟨_, rfl⟩
        have kb : Below w0.heap.size w0 w1 := by rw [hw]; exact (Below.refl _ _).drew
        rw [← hw] at hHeld ⊢
        clear hw
        replace hB := onS hB kb
        clear kb
        refine wpAnyH_take (i := 0) (v := ?_) (by simp only [List.getElem?_toArray, List.getElem?_cons_zero]; rfl) (by kernel_rfl) (by kernel_rfl) (by kernel_rfl) (by exact fun _ _ _ h => h) (Or.inl ⟨by rfl, ?_⟩) (by assumption) ?_
        rotate_left
        · (intro w hSw; (try dsimp only at hSw); go_simp); first | done | with_reducible rfl
        try simp only [Act.put, List.setIfInBounds_toArray, List.set_cons_zero, List.set_cons_succ]
        refine wpAnyH_take (i := 1) (v := ?_) (by simp only [List.getElem?_toArray, List.getElem?_cons_succ, List.getElem?_cons_zero]; rfl) (by kernel_rfl) (by kernel_rfl) (by kernel_rfl) (by exact fun _ _ _ h => h) (Or.inl ⟨by rfl, ?_⟩) (by assumption) ?_
        rotate_left
        · (intro w hSw; (try dsimp only at hSw); go_simp); first | done | with_reducible rfl
        try simp only [Act.put, List.setIfInBounds_toArray, List.set_cons_zero, List.set_cons_succ]
        refine wpAnyH_take (i := 2) (v := ?_) (by simp only [List.getElem?_toArray, List.getElem?_cons_succ, List.getElem?_cons_zero]; rfl) (by kernel_rfl) (by kernel_rfl) (by kernel_rfl) (by exact fun _ _ _ h => h) (Or.inl ⟨by rfl, ?_⟩) (by assumption) ?_
        rotate_left
        · (intro w hSw; (try dsimp only at hSw); go_simp); first | done | with_reducible rfl
        try simp only [Act.put, List.setIfInBounds_toArray, List.set_cons_zero, List.set_cons_succ]
        refine wpAnyH_take (i := 3) (v := ?_) (by simp only [List.getElem?_toArray, List.getElem?_cons_succ, List.getElem?_cons_zero]; rfl) (by kernel_rfl) (by kernel_rfl) (by kernel_rfl) (by exact fun _ _ _ h => h) (Or.inl ⟨by rfl, ?_⟩) (by assumption) ?_
        rotate_left
        · (intro w hSw; (try dsimp only at hSw); go_simp); first | done | with_reducible rfl
        try simp only [Act.put, List.setIfInBounds_toArray, List.set_cons_zero, List.set_cons_succ]
        refine wpAnyH_take (i := 4) (v := ?_) (by simp only [List.getElem?_toArray, List.getElem?_cons_succ, List.getElem?_cons_zero]; rfl) (by kernel_rfl) (by kernel_rfl) (by kernel_rfl) (by exact fun _ _ _ h => h) (Or.inl ⟨by rfl, ?_⟩) (by assumption) ?_
        rotate_left
        · (intro w hSw; (try dsimp only at hSw); go_simp); first | done | with_reducible rfl
        try simp only [Act.put, List.setIfInBounds_toArray, List.set_cons_zero, List.set_cons_succ]
        refine wpAnyH_take (i := 7) (v := ?_) (by simp only [List.getElem?_toArray, List.getElem?_cons_succ, List.getElem?_cons_zero]; rfl) (by kernel_rfl) (by kernel_rfl) (by kernel_rfl) (by exact fun _ _ _ h => h) (Or.inl ⟨by rfl, ?_⟩) (by assumption) ?_
        rotate_left
        · (intro w hSw; (try dsimp only at hSw); go_simp); first | done | with_reducible rfl
        try simp only [Act.put, List.setIfInBounds_toArray, List.set_cons_zero, List.set_cons_succ]
        refine wpAnyH_ready (rs := [5]) (by kernel_rfl) (by simp) ?_
        refine AllReadyH.cons (by simp only [List.getElem?_toArray, List.getElem?_cons_succ, List.getElem?_cons_zero]; rfl) (fun K hK => ?_) AllReadyH.nil
        go_simp
        have kb := below_one w1 (.cells (madeCells #[.int .i64 0] n) 3)
        have hz : IntsR _ _ (some ⟨w1.heap.size, 0, none⟩) n (fun _ => 0) := Rd_of_row (World.rowIs_made w1 (.int .i64 0) n 3)
        obtain ⟨w2, hww⟩ : ∃ W, W = World.alloc w1 (.cells (madeCells #[.int .i64 0] n) 3) := ⟨_, rfl⟩
        rw [← hww] at kb hz ⊢
        clear hww
        replace hB := onS hB kb
        clear kb
        obtain ⟨gz, hgz⟩ : ∃ g, g = w1.heap.size := ⟨_, rfl⟩
        rw [← hgz] at hz ⊢
        clear hgz
        refine hK.out _ _ (HS.out _ hB) (fun hHeld => ?_)
        clear hK K
        try simp only [Act.put, List.setIfInBounds_toArray, List.set_cons_zero, List.set_cons_succ]
        refine wpAnyH_ready (rs := [6]) (by kernel_rfl) (by simp) ?_
        refine AllReadyH.cons (by simp only [List.getElem?_toArray, List.getElem?_cons_succ, List.getElem?_cons_zero]; rfl) (fun K hK => ?_) AllReadyH.nil
        go_simp
        go_wp2_with fail
        refine (distance_any A (some ⟨gz, 0, none⟩) n ca n (W i) (fun _ => 0) _ (hints.on hB) hz (by omega)).mono ?_
        rintro e w3 ⟨rfl, kb⟩
        replace hB := onS hB kb
        replace hz := hz.on kb
        clear kb
        clear hz
        rw [← HD.out]
        refine hK.out _ _ (HS.out _ hB) (fun hHeld => ?_)
        clear hK K
        try simp only [Act.put, List.setIfInBounds_toArray, List.set_cons_zero, List.set_cons_succ]
        refine wpAnyH_take (i := 8) (v := ?_) (by simp only [List.getElem?_toArray, List.getElem?_cons_succ, List.getElem?_cons_zero]; rfl) (by kernel_rfl) (by kernel_rfl) (by kernel_rfl) (by exact fun _ _ _ h => h) (Or.inl ⟨by rfl, ?_⟩) (by assumption) ?_
        rotate_left
        · (intro w hSw; (try dsimp only at hSw); go_simp); first | done | with_reducible rfl
        try simp only [Act.put, List.setIfInBounds_toArray, List.set_cons_zero, List.set_cons_succ]
        refine wpAnyH_done (by kernel_rfl) ?_ _
        clear hHeld
        clear HS hmk
        go_wp2
        go_roundg (gk - 1)
        case measure => omega
        case rel => exact ⟨i + 1, by go_num, by rw [HNX.out]; go_num, by omega, by omega, hB⟩
      · rw [if_neg hdv] at hnx
        have HNX := hid hnx
        have hdb : ((D : Int) == (v : Int)) = false := by simpa using hdv
        have hdb2 : (D == v) = false := by simp; omega
        clear hnx hdv
        go_upto_region 8 with fail
        have hmk := HMK.out
        refine wp_region_held_drew (S := fun w' => w'.cell? ⟨b, off + i, none⟩ = some (.slice A n ca)) (by kernel_rfl) (HS.out _ hB.drew) (fun hHeld => ?_)
        obtain ⟨w1, hw⟩ : ∃ W, W = World.drew w0 := ⟨_, rfl⟩
        have kb : Below w0.heap.size w0 w1 := by rw [hw]; exact (Below.refl _ _).drew
        rw [← hw] at hHeld ⊢
        clear hw
        replace hB := onS hB kb
        clear kb
        refine wpAnyH_take (i := 0) (v := ?_) (by simp only [List.getElem?_toArray, List.getElem?_cons_zero]; rfl) (by kernel_rfl) (by kernel_rfl) (by kernel_rfl) (by exact fun _ _ _ h => h) (Or.inl ⟨by rfl, ?_⟩) (by assumption) ?_
        rotate_left
        · (intro w hSw; (try dsimp only at hSw); go_simp); first | done | with_reducible rfl
        try simp only [Act.put, List.setIfInBounds_toArray, List.set_cons_zero, List.set_cons_succ]
        refine wpAnyH_take (i := 1) (v := ?_) (by simp only [List.getElem?_toArray, List.getElem?_cons_succ, List.getElem?_cons_zero]; rfl) (by kernel_rfl) (by kernel_rfl) (by kernel_rfl) (by exact fun _ _ _ h => h) (Or.inl ⟨by rfl, ?_⟩) (by assumption) ?_
        rotate_left
        · (intro w hSw; (try dsimp only at hSw); go_simp); first | done | with_reducible rfl
        try simp only [Act.put, List.setIfInBounds_toArray, List.set_cons_zero, List.set_cons_succ]
        refine wpAnyH_take (i := 2) (v := ?_) (by simp only [List.getElem?_toArray, List.getElem?_cons_succ, List.getElem?_cons_zero]; rfl) (by kernel_rfl) (by kernel_rfl) (by kernel_rfl) (by exact fun _ _ _ h => h) (Or.inl ⟨by rfl, ?_⟩) (by assumption) ?_
        rotate_left
        · (intro w hSw; (try dsimp only at hSw); go_simp); first | done | with_reducible rfl
        try simp only [Act.put, List.setIfInBounds_toArray, List.set_cons_zero, List.set_cons_succ]
        refine wpAnyH_take (i := 3) (v := ?_) (by simp only [List.getElem?_toArray, List.getElem?_cons_succ, List.getElem?_cons_zero]; rfl) (by kernel_rfl) (by kernel_rfl) (by kernel_rfl) (by exact fun _ _ _ h => h) (Or.inl ⟨by rfl, ?_⟩) (by assumption) ?_
        rotate_left
        · (intro w hSw; (try dsimp only at hSw); go_simp); first | done | with_reducible rfl
        try simp only [Act.put, List.setIfInBounds_toArray, List.set_cons_zero, List.set_cons_succ]
        refine wpAnyH_take (i := 4) (v := ?_) (by simp only [List.getElem?_toArray, List.getElem?_cons_succ, List.getElem?_cons_zero]; rfl) (by kernel_rfl) (by kernel_rfl) (by kernel_rfl) (by exact fun _ _ _ h => h) (Or.inl ⟨by rfl, ?_⟩) (by assumption) ?_
        rotate_left
        · (intro w hSw; (try dsimp only at hSw); go_simp); first | done | with_reducible rfl
        try simp only [Act.put, List.setIfInBounds_toArray, List.set_cons_zero, List.set_cons_succ]
        refine wpAnyH_take (i := 7) (v := ?_) (by simp only [List.getElem?_toArray, List.getElem?_cons_succ, List.getElem?_cons_zero]; rfl) (by kernel_rfl) (by kernel_rfl) (by kernel_rfl) (by exact fun _ _ _ h => h) (Or.inl ⟨by rfl, ?_⟩) (by assumption) ?_
        rotate_left
        · (intro w hSw; (try dsimp only at hSw); go_simp); first | done | with_reducible rfl
        try simp only [Act.put, List.setIfInBounds_toArray, List.set_cons_zero, List.set_cons_succ]
        refine wpAnyH_ready (rs := [5]) (by kernel_rfl) (by simp) ?_
        refine AllReadyH.cons (by simp only [List.getElem?_toArray, List.getElem?_cons_succ, List.getElem?_cons_zero]; rfl) (fun K hK => ?_) AllReadyH.nil
        go_simp
        have kb := below_one w1 (.cells (madeCells #[.int .i64 0] n) 3)
        have hz : IntsR _ _ (some ⟨w1.heap.size, 0, none⟩) n (fun _ => 0) := Rd_of_row (World.rowIs_made w1 (.int .i64 0) n 3)
        obtain ⟨w2, hww⟩ : ∃ W, W = World.alloc w1 (.cells (madeCells #[.int .i64 0] n) 3) := ⟨_, rfl⟩
        rw [← hww] at kb hz ⊢
        clear hww
        replace hB := onS hB kb
        clear kb
        obtain ⟨gz, hgz⟩ : ∃ g, g = w1.heap.size := ⟨_, rfl⟩
        rw [← hgz] at hz ⊢
        clear hgz
        refine hK.out _ _ (HS.out _ hB) (fun hHeld => ?_)
        clear hK K
        try simp only [Act.put, List.setIfInBounds_toArray, List.set_cons_zero, List.set_cons_succ]
        refine wpAnyH_ready (rs := [6]) (by kernel_rfl) (by simp) ?_
        refine AllReadyH.cons (by simp only [List.getElem?_toArray, List.getElem?_cons_succ, List.getElem?_cons_zero]; rfl) (fun K hK => ?_) AllReadyH.nil
        go_simp
        go_wp2_with fail
        refine (distance_any A (some ⟨gz, 0, none⟩) n ca n (W i) (fun _ => 0) _ (hints.on hB) hz (by omega)).mono ?_
        rintro e w3 ⟨rfl, kb⟩
        replace hB := onS hB kb
        replace hz := hz.on kb
        clear kb
        clear hz
        rw [← HD.out]
        refine hK.out _ _ (HS.out _ hB) (fun hHeld => ?_)
        clear hK K
        try simp only [Act.put, List.setIfInBounds_toArray, List.set_cons_zero, List.set_cons_succ]
        refine wpAnyH_take (i := 8) (v := ?_) (by simp only [List.getElem?_toArray, List.getElem?_cons_succ, List.getElem?_cons_zero]; rfl) (by kernel_rfl) (by kernel_rfl) (by kernel_rfl) (by exact fun _ _ _ h => h) (Or.inl ⟨by rfl, ?_⟩) (by assumption) ?_
        rotate_left
        · (intro w hSw; (try dsimp only at hSw); go_simp); first | done | with_reducible rfl
        try simp only [Act.put, List.setIfInBounds_toArray, List.set_cons_zero, List.set_cons_succ]
        refine wpAnyH_done (by kernel_rfl) ?_ _
        clear hHeld
        clear HS hmk
        go_wp2
        go_roundg (gk - 1)
        case measure => omega
        case rel => exact ⟨i + 1, by go_num, by rw [HNX.out]; rfl, by omega, by omega, hB⟩
    · obtain rfl : i = M := by omega
      have hlt' : ¬ (i : Int) < (i : Int) := by omega
      obtain ⟨C, hC⟩ : ∃ C, C = cntW W n (v : Int) i := ⟨_, rfl⟩
      rw [← hC] at b2 hcl
      rw [← hC]
      clear hC hlt h
      go_wp2_with fail
      refine (johnsonOk_any n d _ HRO.out hn64 hdd1 hddn).mono ?_
      rintro e w3 ⟨A1, c1, rfl, l1, l2, l3, kb⟩
      replace hB := onS hB kb
      clear kb
      obtain ⟨x1, hx1⟩ : ∃ x, x = johA n d := ⟨_, rfl⟩
      rw [← hx1] at l1 l3 b1 dl1 ⊢
      clear hx1
      go_wp2_with fail
      refine (constantOk_any n d v _ HRO.out hn64 hdd1 hddn hvn).mono ?_
      rintro e w4 ⟨A2, c2, rfl, m1, m2, m3, kb⟩
      replace hB := onS hB kb
      replace l3 := l3.on kb
      clear kb
      obtain ⟨x2, hx2⟩ : ∃ x, x = conN ((d + 1) / 2) n v := ⟨_, rfl⟩
      rw [← hx2] at m1 m3 b2 dl2 ⊢
      clear hx2
      go_wp2_with fail
      refine (holds_any A1 c1 x1 i _ l3 (by omega) (by omega) b1.out).mono ?_
      rintro e w7 ⟨rfl, kb⟩
      replace hB := onS hB kb
      replace m3 := m3.on kb
      clear kb
      go_wp2_with fail
      refine (holds_any A2 c2 x2 C _ m3 (by omega) (by omega) b2.out).mono ?_
      rintro e w8 ⟨rfl, kb⟩
      replace hB := onS hB kb
      clear kb
      go_wp2
      go_ret
      exact ⟨rfl, hB⟩
theorem boundsBinary_law {H : Type} {enc : TypeId × Value → H} {w : World} {d v : Int} {T : Option Addr} {m c : Nat}
    (_hd : (Lit.int .i64 d).wf = true) (_hv : (Lit.int .i64 v).wf = true) (h : Sees enc Try.prog w 0 (fun _ => true) true 30 [.slice T m c]) :
    Calls Try.prog 13 #[.int .i64 d, .int .i64 v, .slice T m c] w fun e w' => e = .returned (.bool true) ∧ Below w.heap.size w w' := by
  obtain ⟨S, n, d', ln, W, e, h1, h2, h3⟩ := sees_rows h
  simp only [List.cons.injEq, Value.slice.injEq, and_true] at e
  obtain ⟨rfl, rfl, rfl⟩ := e
  exact boundsBinary_any d v T m c ln W w h3
end Go.Proofs.Ytgininddoalenaa
