/- Sums of polynomials: semiring.Enumerators.Add and codewrightref46.PolyAdd. -/
import Derived.Test.YtnocbkhnmdmfhaaEnumer
namespace Go.Proofs.Ytnocbkhnmdmfhaa
open Go.RowKit

/-- The sum of two polynomials of a and b coefficients. -/
def addP (a b : Nat) (p q : Nat → Nat) (k : Nat) : Nat := (if k < a then p k else 0) + if k < b then q k else 0
theorem PolPost.back {d : Nat} {x : Nat → Nat} {X w : World} {e : Ending} {w' : World} (hX : Below w.heap.size w X) (h : PolPost d x X e w') : PolPost d x w e w' := by
  obtain ⟨v, e1, e2, e3⟩ := h
  exact ⟨v, e1, e2.monoB hX.size, onS hX e3⟩
theorem natTab_at {w : World} {A : Option Addr} {n : Nat} {x : Nat → Nat} (h : NatTab w w.heap.size A n x) {i : Nat} (hi : i < n) : ∃ b o A' c, A = some ⟨b, o, none⟩ ∧ b < w.heap.size ∧ w.cell? ⟨b, o + i, none⟩ = some (.slice A' (dl (x i)) c) ∧ dl (x i) ≤ c ∧ c ≤ maxLen ∧ NatOk w w.heap.size A' (x i) := h i hi
set_option maxRecDepth 100000 in
set_option maxHeartbeats 8000000 in
theorem eAdd_any (A A2 : Option Addr) (a b c c2 : Nat) (p q : Nat → Nat) (w : World) (h : NatTab w w.heap.size A a p) (h2 : NatTab w w.heap.size A2 b q) (ha : a ≤ 2048) (hb : b ≤ 2048)
    (hp : Hid (∀ k, k < a → dl (p k) ≤ 1000000)) (hq : Hid (∀ k, k < b → dl (q k) ≤ 1000000)) (hs : Hid (∀ k, dl (addP a b p q k) ≤ 1000000)) :
    Calls Try.prog 153 #[.agg #[], .slice A a c, .slice A2 b c2] w (PolPost (plen (addP a b p q) (max a b)) (addP a b p q) w) := by
  have HT1 := hid h
  have HT2 := hid h2
  obtain ⟨m, hm⟩ : ∃ m, m = max a b := ⟨_, rfl⟩
  have ham : a ≤ m := by omega
  have hbm : b ≤ m := by omega
  have hmx : max (a : Int) (b : Int) = (m : Int) := by omega
  have hm20 : m ≤ 2048 := by omega
  rw [← hm]
  have hmk := fun W => run_makeI (P := Try.prog) 39 43 _ 24 Try.underlying39 Try.infoNat rfl (m : Int) (by omega) (by omega) (by omega) W
  simp only [Int.toNat_natCast] at hmk
  clear h h2 hm
  go_enter Try.func153, Try.ntmps153
  obtain ⟨RB, hRB⟩ : ∃ o, o = (Obj.cells #[] 82) := ⟨_, rfl⟩
  have hB0 : Below w.heap.size w (w.alloc RB) := (Below.refl _ _).alloc (Nat.le_refl _) _
  go_wp2_with fail
  rw [← hRB]
  obtain ⟨w0, hw0⟩ : ∃ W, W = w.alloc RB := ⟨_, rfl⟩
  have hsz : w0.heap.size = w.heap.size + 1 := by rw [hw0]; simp
  rw [← hw0] at hB0 ⊢
  rw [← hsz]
  clear hRB hw0
  have hO := natOwn_made (w := w0) (base := w.heap.size) (n := m) hB0.size (by unfold maxLen; omega)
  have hB := onS hB0 ((Below.refl w0.heap.size w0).alloc (Nat.le_refl _) (Obj.cells (madeCells #[Value.slice none 0 0] m) 43))
  go_upto_region 2 with fail
  obtain ⟨w1, hw1⟩ : ∃ W, W = w0.alloc (Obj.cells (madeCells #[Value.slice none 0 0] m) 43) := ⟨_, rfl⟩
  obtain ⟨g, hg⟩ : ∃ b, b = w0.heap.size := ⟨_, rfl⟩
  have HG : Hid (w.heap.size ≤ g) := by show _ ≤ g; omega
  rw [← hw1] at hO hB ⊢
  rw [← hg]
  have hO0 : NatOwn w1 w.heap.size (.slice (some ⟨g, 0, none⟩) m m) m (fun k => if k < 0 then addP a b p q k else 0) := by
    rw [hg]
    exact hO.congr fun i _ => (if_neg (by omega)).symm
  clear hw1 hO hmk hg hB0 hsz
  go_wp2
  go_loopg [17] m (fun gg iv wx => ∃ i : Nat, iv = .int .i64 (i : Nat) ∧ i ≤ m ∧ m ≤ i + gg ∧ NatOwn wx w.heap.size (.slice (some ⟨g, 0, none⟩) m m) m (fun k => if k < i then addP a b p q k else 0) ∧ Below w.heap.size w wx)
  case atStart => exact ⟨0, rfl, by omega, by omega, hO0, hB⟩
  case round =>
    clear hO0 hB
    obtain ⟨i, rfl, hi, hig, hO, hB⟩ := hrel
    have hi0 : (0 : Int) ≤ (i : Int) := by omega
    obtain ⟨w2, hw2⟩ : ∃ W, W = wr := ⟨_, rfl⟩
    subst hw2
    by_cases hlt : i < m
    · have hlt' : (i : Int) < (m : Int) := by omega
      have HFIN : Hid (∀ (W : World) (X : Nat → Nat), NatOwn W w.heap.size (.slice (some ⟨g, 0, none⟩) m m) m X → X i = addP a b p q i → (∀ k, k ≠ i → X k = if k < i then addP a b p q k else 0) → NatOwn W w.heap.size (.slice (some ⟨g, 0, none⟩) m m) m (fun k => if k < i + 1 then addP a b p q k else 0)) := fun W X h1 h2 h3 => h1.congr fun k _ => by
        by_cases e : k = i
        · rw [e, h2, if_pos (Nat.lt_succ_self _)]
        · rw [h3 k e]
          by_cases e2 : k < i
          · rw [if_pos e2, if_pos (by omega)]
          · rw [if_neg e2, if_neg (by omega)]
      have hsi := hs.out i
      by_cases hia : i < a
      · have hia' : (i : Int) < (a : Int) := by omega
        obtain ⟨sb, so, As, ds, rfl, hsb, y0, y1, y2, y3⟩ := natTab_at (HT1.out.on hB) hia
        have hsg : sb ≠ g := by
          obtain ⟨b9, o9, A9, c9, e9, h9, _⟩ := HT1.out i hia
          injection e9 with e9
          injection e9 with e9
          have := HG.out
          omega
        have hdv := hp.out i hia
        obtain ⟨v, hv⟩ : ∃ v, v = p i := ⟨_, rfl⟩
        have HV := hid hv
        rw [← hv] at y0 y1 y3 hdv
        clear hv
        obtain ⟨X, hX⟩ : ∃ X : Nat → Nat, X = fun k => if k < i then addP a b p q k else 0 := ⟨_, rfl⟩
        have HXo : Hid (∀ k, k ≠ i → X k = if k < i then addP a b p q k else 0) := by rw [hX]; exact hid fun _ _ => rfl
        have HXi : Hid (X i = 0) := by rw [hX]; exact hid (if_neg (Nat.lt_irrefl i))
        rw [← hX] at hO
        obtain ⟨u, hu⟩ : ∃ u, u = X i := ⟨_, rfl⟩
        have HU := hid hu
        have hu0 : dl u ≤ 1000000 := by rw [hu, HXi.out, dl_zero]; omega
        have huv : dl (u + v) ≤ 1000000 := by rw [hu, HXi.out, Nat.zero_add]; exact hdv
        have HU0 : Hid (u = 0) := by rw [hu]; exact HXi
        clear hX hu
        go_upto_region 6 with fail
        refine wp_region_held_drew (S := fun w' => w'.cell? ⟨sb, so + i, none⟩ = some (.slice As (dl v) ds)) (by kernel_rfl) (cellS (Below.refl _ _).drew y0) (fun hHeld => ?_)
        obtain ⟨w3, hw⟩ : ∃ W, W = World.drew w2 := ⟨_, rfl⟩
        have kb : Below w2.heap.size w2 w3 := by rw [hw]; exact (Below.refl _ _).drew
        rw [← hw] at hHeld ⊢
        clear hw
        replace hO := hO.on kb
        replace hB := onS hB kb
        replace y0 := cellS kb y0
        replace y3 := y3.on kb
        clear kb
        refine wpAnyH_take (i := 0) (v := ?_) (by simp only [List.getElem?_toArray, List.getElem?_cons_zero]; rfl) (by kernel_rfl) (by kernel_rfl) (by kernel_rfl) (by exact fun _ _ _ h => h) (Or.inl ⟨by rfl, ?_⟩) (by assumption) ?_
        rotate_left
        · (intro w hSw; (try dsimp only at hSw); go_simp); first | done | with_reducible rfl
        try simp only [Act.put, List.setIfInBounds_toArray, List.set_cons_zero, List.set_cons_succ]
        refine wpAnyH_take (i := 1) (v := ?_) (by simp only [List.getElem?_toArray, List.getElem?_cons_succ, List.getElem?_cons_zero]; rfl) (by kernel_rfl) (by kernel_rfl) (by kernel_rfl) (by exact fun _ _ _ h => h) (Or.inl ⟨by rfl, ?_⟩) (by assumption) ?_
        rotate_left
        · (intro w hSw; (try dsimp only at hSw); go_simp); first | done | with_reducible rfl
        try simp only [Act.put, List.setIfInBounds_toArray, List.set_cons_zero, List.set_cons_succ]
        refine wpAnyH_take (i := 2) (v := ?_) (by simp only [List.getElem?_toArray, List.getElem?_cons_succ, List.getElem?_cons_zero]; rfl) (by kernel_rfl) (by kernel_rfl) (by kernel_rfl) (by exact fun _ _ _ h => h) (Or.inl ⟨by rfl, ?_⟩) (by assumption) ?_
        rotate_left
        · (intro w hSw; (try dsimp only at hSw); go_simp); first | done | with_reducible rfl
        try simp only [Act.put, List.setIfInBounds_toArray, List.set_cons_zero, List.set_cons_succ]
        refine wpAnyH_take (i := 3) (v := ?_) (by simp only [List.getElem?_toArray, List.getElem?_cons_succ, List.getElem?_cons_zero]; rfl) (by kernel_rfl) (by kernel_rfl) (by kernel_rfl) (by exact fun _ _ _ h => h) (Or.inl ⟨by rfl, ?_⟩) (by assumption) ?_
        rotate_left
        · (intro w hSw; (try dsimp only at hSw); go_simp); first | done | with_reducible rfl
        try simp only [Act.put, List.setIfInBounds_toArray, List.set_cons_zero, List.set_cons_succ]
        refine wpAnyH_take (i := 4) (v := ?_) (by simp only [List.getElem?_toArray, List.getElem?_cons_succ, List.getElem?_cons_zero]; rfl) (by kernel_rfl) (by kernel_rfl) (by kernel_rfl) (by exact fun _ _ _ h => h) (Or.inl ⟨by rfl, ?_⟩) (by assumption) ?_
        rotate_left
        · (intro w hSw; (try dsimp only at hSw); go_simp); first | done | with_reducible rfl
        try simp only [Act.put, List.setIfInBounds_toArray, List.set_cons_zero, List.set_cons_succ]
        refine wpAnyH_take (i := 6) (v := ?_) (by simp only [List.getElem?_toArray, List.getElem?_cons_succ, List.getElem?_cons_zero]; rfl) (by kernel_rfl) (by kernel_rfl) (by kernel_rfl) (by exact fun _ _ _ h => h) (Or.inl ⟨by rfl, ?_⟩) (by assumption) ?_
        rotate_left
        · (intro w hSw; (try dsimp only at hSw); go_simp); first | done | with_reducible rfl
        try simp only [Act.put, List.setIfInBounds_toArray, List.set_cons_zero, List.set_cons_succ]
        refine wpAnyH_take (i := 7) (v := ?_) (by simp only [List.getElem?_toArray, List.getElem?_cons_succ, List.getElem?_cons_zero]; rfl) (by kernel_rfl) (by kernel_rfl) (by kernel_rfl) (by exact fun _ _ _ h => h) (Or.inl ⟨by rfl, ?_⟩) (by assumption) ?_
        rotate_left
        · (intro w hSw; (try dsimp only at hSw); go_simp); first | done | with_reducible rfl
        try simp only [Act.put, List.setIfInBounds_toArray, List.set_cons_zero, List.set_cons_succ]
        refine wpAnyH_take (i := 8) (v := ?_) (by simp only [List.getElem?_toArray, List.getElem?_cons_succ, List.getElem?_cons_zero]; rfl) (by kernel_rfl) (by kernel_rfl) (by kernel_rfl) (by exact fun _ _ _ h => h) (Or.inl ⟨by rfl, ?_⟩) (by assumption) ?_
        rotate_left
        · (intro w hSw; (try dsimp only at hSw); go_simp); first | done | with_reducible rfl
        try simp only [Act.put, List.setIfInBounds_toArray, List.set_cons_zero, List.set_cons_succ]
        refine wpAnyH_take (i := 9) (v := ?_) (by simp only [List.getElem?_toArray, List.getElem?_cons_succ, List.getElem?_cons_zero]; rfl) (by kernel_rfl) (by kernel_rfl) (by kernel_rfl) (by exact fun _ _ _ h => h) (Or.inl ⟨by rfl, ?_⟩) (by assumption) ?_
        rotate_left
        · (intro w hSw; (try dsimp only at hSw); go_simp); first | done | with_reducible rfl
        try simp only [Act.put, List.setIfInBounds_toArray, List.set_cons_zero, List.set_cons_succ]
        refine wpAnyH_ready (rs := [5]) (by kernel_rfl) (by simp) ?_
        refine AllReadyH.cons (by simp only [List.getElem?_toArray, List.getElem?_cons_succ, List.getElem?_cons_zero]; rfl) (fun K hK => ?_) AllReadyH.nil
        obtain ⟨Au, du, q0, u1, u2, u3, _⟩ := hO.rd hlt
        rw [Nat.zero_add, ← HU.out] at q0
        rw [← HU.out] at u1 u3
        go_simp
        clear q0
        refine hK.out _ _ y0 (fun hHeld => ?_)
        clear hK K
        try simp only [Act.put, List.setIfInBounds_toArray, List.set_cons_zero, List.set_cons_succ]
        refine wpAnyH_ready (rs := [10]) (by kernel_rfl) (by simp) ?_
        refine AllReadyH.cons (by simp only [List.getElem?_toArray, List.getElem?_cons_succ, List.getElem?_cons_zero]; rfl) (fun K hK => ?_) AllReadyH.nil
        go_simp
        obtain ⟨w4, hw⟩ : ∃ W, W = World.alloc w3 (Obj.cells #[Value.slice Au (dl u) du, Value.slice As (dl v) ds] 43) := ⟨_, rfl⟩
        have kb : Below w3.heap.size w3 w4 := by rw [hw]; exact (Below.refl _ _).alloc (Nat.le_refl _) _
        have t0 : w4.cell? ⟨w3.heap.size, 0, none⟩ = some (.slice Au (dl u) du) := by rw [hw]; simp
        have t1 : w4.cell? ⟨w3.heap.size, 1, none⟩ = some (.slice As (dl v) ds) := by rw [hw]; simp
        rw [← hw]
        clear hw
        obtain ⟨tb, htb⟩ : ∃ b, b = w3.heap.size := ⟨_, rfl⟩
        rw [← htb] at t0 t1 ⊢
        clear htb
        replace hO := hO.on kb
        replace hB := onS hB kb
        replace y0 := cellS kb y0
        replace y3 := y3.on kb
        replace u3 := u3.on kb
        clear kb
        refine hK.out _ _ y0 (fun hHeld => ?_)
        clear hK K
        try simp only [Act.put, List.setIfInBounds_toArray, List.set_cons_zero, List.set_cons_succ]
        refine wpAnyH_ready (rs := [11]) (by kernel_rfl) (by simp) ?_
        refine AllReadyH.cons (by simp only [List.getElem?_toArray, List.getElem?_cons_succ, List.getElem?_cons_zero]; rfl) (fun K hK => ?_) AllReadyH.nil
        go_simp
        go_wp2_with fail
        refine (natAdd_two tb u v Au As du ds w4 t0 t1 u3 y3 u1 u2 y1 y2 (by omega) (by omega) (by omega)).mono ?_
        rintro e w5 ⟨Ar, dr, rfl, r1, r2, r3, kb⟩
        replace hO := hO.on kb
        replace hB := onS hB kb
        replace y0 := cellS kb y0
        replace y3 := y3.on kb
        replace u3 := u3.on kb
        replace t0 := cellS kb t0
        replace t1 := cellS kb t1
        clear kb
        refine hK.out _ _ y0 (fun hHeld => ?_)
        clear hK K
        try simp only [Act.put, List.setIfInBounds_toArray, List.set_cons_zero, List.set_cons_succ]
        refine wpAnyH_take (i := 12) (v := ?_) (by simp only [List.getElem?_toArray, List.getElem?_cons_succ, List.getElem?_cons_zero]; rfl) (by kernel_rfl) (by kernel_rfl) (by kernel_rfl) (by exact fun _ _ _ h => h) (Or.inl ⟨by rfl, ?_⟩) (by assumption) ?_
        rotate_left
        · (intro w hSw; (try dsimp only at hSw); go_simp); first | done | with_reducible rfl
        try simp only [Act.put, List.setIfInBounds_toArray, List.set_cons_zero, List.set_cons_succ]
        refine wpAnyH_ready (rs := [13]) (by kernel_rfl) (by simp) ?_
        refine AllReadyH.cons (by simp only [List.getElem?_toArray, List.getElem?_cons_succ, List.getElem?_cons_zero]; rfl) (fun K hK => ?_) AllReadyH.nil
        obtain ⟨A7, d7, q0, _, _, _, z0⟩ := hO.rd hlt
        have hO2 := hO.set hlt r3 r1 r2
        have hB2 := hB.setCell (p := ⟨g, 0 + i, none⟩) HG.out (.slice Ar (dl (u + v)) dr)
        rw [Nat.zero_add] at hO2 hB2 q0 z0
        go_simp
        replace y0 := cell_setCell_far (p := ⟨g, i, none⟩) (u := .slice Ar (dl (u + v)) dr) y0 hsg
        have HO2 := hid hO2
        have HB2 := hid hB2
        clear hO hB hO2 hB2 q0 z0
        refine hK.out _ _ y0 (fun hHeld => ?_)
        clear hK K
        try simp only [Act.put, List.setIfInBounds_toArray, List.set_cons_zero, List.set_cons_succ]
        refine wpAnyH_done (by kernel_rfl) ?_ _
        clear hHeld
        by_cases hib : i < b
        · have hib' : (i : Int) < (b : Int) := by omega
          have HV1 := HV
          obtain ⟨v1, hv1⟩ : ∃ v1, v1 = u + v := ⟨_, rfl⟩
          have HV3 : Hid (v1 = p i) := by rw [hv1, HU0.out, Nat.zero_add]; exact HV1
          obtain ⟨w2, hw2⟩ : ∃ W, W = World.setCell w5 ⟨g, i, none⟩ (.slice Ar (dl (u + v)) dr) := ⟨_, rfl⟩
          rw [← hw2] at HO2 HB2 ⊢
          have hO := HO2.out
          have hB := HB2.out
          have HXo1 : Hid (∀ k, k ≠ i → updN X i (u + v) k = if k < i then addP a b p q k else 0) := fun k e => by unfold updN; rw [if_neg e]; exact HXo.out k e
          have HXi1 : Hid (updN X i (u + v) i = v1) := by unfold updN; rw [if_pos rfl, hv1]; exact hid rfl
          have hdv1 : dl v1 ≤ 1000000 := by rw [hv1]; exact huv
          rw [← hv1]
          clear hw2 hv1 y0 y1 y2 r1 r2 hsg hdv hu0 huv HO2 HB2 HXi HXo HU HV
          obtain ⟨X1, hX1⟩ : ∃ X1, X1 = updN X i (u + v) := ⟨_, rfl⟩
          rw [← hX1] at hO HXo1 HXi1
          clear hX1
          clear HU0 HV1
          have hdum : True := trivial
          obtain ⟨sb, so, As, ds, rfl, hsb, y0, y1, y2, y3⟩ := natTab_at (HT2.out.on hB) hib
          have hsg : sb ≠ g := by
            obtain ⟨b9, o9, A9, c9, e9, h9, _⟩ := HT2.out i hib
            injection e9 with e9
            injection e9 with e9
            have := HG.out
            omega
          have hdv := hq.out i hib
          obtain ⟨v, hv⟩ : ∃ v, v = q i := ⟨_, rfl⟩
          have HV2 := hid hv
          rw [← hv] at y0 y1 y3 hdv
          clear hv
          have HXo := HXo1
          have HXi := HXi1
          obtain ⟨u, hu⟩ : ∃ u, u = X1 i := ⟨_, rfl⟩
          have HU := hid hu
          have hu0 : dl u ≤ 1000000 := by rw [hu, HXi.out]; exact hdv1
          have HSUM : Hid (u + v = addP a b p q i) := by
            show _ = (if i < a then p i else 0) + if i < b then q i else 0
            rw [if_pos hia, if_pos hib, hu, HXi.out, HV3.out, HV2.out]
          have huv : dl (u + v) ≤ 1000000 := by rw [HSUM.out]; exact hsi
          clear hu HXi1 HXo1 hdum
          go_upto_region 8 with fail
          refine wp_region_held_drew (S := fun w' => w'.cell? ⟨sb, so + i, none⟩ = some (.slice As (dl v) ds)) (by kernel_rfl) (cellS (Below.refl _ _).drew y0) (fun hHeld => ?_)
          obtain ⟨w3, hw⟩ : ∃ W, W = World.drew w2 := ⟨_, rfl⟩
          have kb : Below w2.heap.size w2 w3 := by rw [hw]; exact (Below.refl _ _).drew
          rw [← hw] at hHeld ⊢
          clear hw
          replace hO := hO.on kb
          replace hB := onS hB kb
          replace y0 := cellS kb y0
          replace y3 := y3.on kb
          clear kb
          refine wpAnyH_take (i := 0) (v := ?_) (by simp only [List.getElem?_toArray, List.getElem?_cons_zero]; rfl) (by kernel_rfl) (by kernel_rfl) (by kernel_rfl) (by exact fun _ _ _ h => h) (Or.inl ⟨by rfl, ?_⟩) (by assumption) ?_
          rotate_left
          · (intro w hSw; (try dsimp only at hSw); go_simp); first | done | with_reducible rfl
          try simp only [Act.put, List.setIfInBounds_toArray, List.set_cons_zero, List.set_cons_succ]
          refine wpAnyH_take (i := 1) (v := ?_) (by simp only [List.getElem?_toArray, List.getElem?_cons_succ, List.getElem?_cons_zero]; rfl) (by kernel_rfl) (by kernel_rfl) (by kernel_rfl) (by exact fun _ _ _ h => h) (Or.inl ⟨by rfl, ?_⟩) (by assumption) ?_
          rotate_left
          · (intro w hSw; (try dsimp only at hSw); go_simp); first | done | with_reducible rfl
          try simp only [Act.put, List.setIfInBounds_toArray, List.set_cons_zero, List.set_cons_succ]
          refine wpAnyH_take (i := 2) (v := ?_) (by simp only [List.getElem?_toArray, List.getElem?_cons_succ, List.getElem?_cons_zero]; rfl) (by kernel_rfl) (by kernel_rfl) (by kernel_rfl) (by exact fun _ _ _ h => h) (Or.inl ⟨by rfl, ?_⟩) (by assumption) ?_
          rotate_left
          · (intro w hSw; (try dsimp only at hSw); go_simp); first | done | with_reducible rfl
          try simp only [Act.put, List.setIfInBounds_toArray, List.set_cons_zero, List.set_cons_succ]
          refine wpAnyH_take (i := 3) (v := ?_) (by simp only [List.getElem?_toArray, List.getElem?_cons_succ, List.getElem?_cons_zero]; rfl) (by kernel_rfl) (by kernel_rfl) (by kernel_rfl) (by exact fun _ _ _ h => h) (Or.inl ⟨by rfl, ?_⟩) (by assumption) ?_
          rotate_left
          · (intro w hSw; (try dsimp only at hSw); go_simp); first | done | with_reducible rfl
          try simp only [Act.put, List.setIfInBounds_toArray, List.set_cons_zero, List.set_cons_succ]
          refine wpAnyH_take (i := 4) (v := ?_) (by simp only [List.getElem?_toArray, List.getElem?_cons_succ, List.getElem?_cons_zero]; rfl) (by kernel_rfl) (by kernel_rfl) (by kernel_rfl) (by exact fun _ _ _ h => h) (Or.inl ⟨by rfl, ?_⟩) (by assumption) ?_
          rotate_left
          · (intro w hSw; (try dsimp only at hSw); go_simp); first | done | with_reducible rfl
          try simp only [Act.put, List.setIfInBounds_toArray, List.set_cons_zero, List.set_cons_succ]
          refine wpAnyH_take (i := 6) (v := ?_) (by simp only [List.getElem?_toArray, List.getElem?_cons_succ, List.getElem?_cons_zero]; rfl) (by kernel_rfl) (by kernel_rfl) (by kernel_rfl) (by exact fun _ _ _ h => h) (Or.inl ⟨by rfl, ?_⟩) (by assumption) ?_
          rotate_left
          · (intro w hSw; (try dsimp only at hSw); go_simp); first | done | with_reducible rfl
          try simp only [Act.put, List.setIfInBounds_toArray, List.set_cons_zero, List.set_cons_succ]
          refine wpAnyH_take (i := 7) (v := ?_) (by simp only [List.getElem?_toArray, List.getElem?_cons_succ, List.getElem?_cons_zero]; rfl) (by kernel_rfl) (by kernel_rfl) (by kernel_rfl) (by exact fun _ _ _ h => h) (Or.inl ⟨by rfl, ?_⟩) (by assumption) ?_
          rotate_left
          · (intro w hSw; (try dsimp only at hSw); go_simp); first | done | with_reducible rfl
          try simp only [Act.put, List.setIfInBounds_toArray, List.set_cons_zero, List.set_cons_succ]
          refine wpAnyH_take (i := 8) (v := ?_) (by simp only [List.getElem?_toArray, List.getElem?_cons_succ, List.getElem?_cons_zero]; rfl) (by kernel_rfl) (by kernel_rfl) (by kernel_rfl) (by exact fun _ _ _ h => h) (Or.inl ⟨by rfl, ?_⟩) (by assumption) ?_
          rotate_left
          · (intro w hSw; (try dsimp only at hSw); go_simp); first | done | with_reducible rfl
          try simp only [Act.put, List.setIfInBounds_toArray, List.set_cons_zero, List.set_cons_succ]
          refine wpAnyH_take (i := 9) (v := ?_) (by simp only [List.getElem?_toArray, List.getElem?_cons_succ, List.getElem?_cons_zero]; rfl) (by kernel_rfl) (by kernel_rfl) (by kernel_rfl) (by exact fun _ _ _ h => h) (Or.inl ⟨by rfl, ?_⟩) (by assumption) ?_
          rotate_left
          · (intro w hSw; (try dsimp only at hSw); go_simp); first | done | with_reducible rfl
          try simp only [Act.put, List.setIfInBounds_toArray, List.set_cons_zero, List.set_cons_succ]
          refine wpAnyH_ready (rs := [5]) (by kernel_rfl) (by simp) ?_
          refine AllReadyH.cons (by simp only [List.getElem?_toArray, List.getElem?_cons_succ, List.getElem?_cons_zero]; rfl) (fun K hK => ?_) AllReadyH.nil
          obtain ⟨Au, du, q0, u1, u2, u3, _⟩ := hO.rd hlt
          rw [Nat.zero_add, ← HU.out] at q0
          rw [← HU.out] at u1 u3
          go_simp
          clear q0
          refine hK.out _ _ y0 (fun hHeld => ?_)
          clear hK K
          try simp only [Act.put, List.setIfInBounds_toArray, List.set_cons_zero, List.set_cons_succ]
          refine wpAnyH_ready (rs := [10]) (by kernel_rfl) (by simp) ?_
          refine AllReadyH.cons (by simp only [List.getElem?_toArray, List.getElem?_cons_succ, List.getElem?_cons_zero]; rfl) (fun K hK => ?_) AllReadyH.nil
          go_simp
          obtain ⟨w4, hw⟩ : ∃ W, W = World.alloc w3 (Obj.cells #[Value.slice Au (dl u) du, Value.slice As (dl v) ds] 43) := ⟨_, rfl⟩
          have kb : Below w3.heap.size w3 w4 := by rw [hw]; exact (Below.refl _ _).alloc (Nat.le_refl _) _
          have t0 : w4.cell? ⟨w3.heap.size, 0, none⟩ = some (.slice Au (dl u) du) := by rw [hw]; simp
          have t1 : w4.cell? ⟨w3.heap.size, 1, none⟩ = some (.slice As (dl v) ds) := by rw [hw]; simp
          rw [← hw]
          clear hw
          obtain ⟨tb, htb⟩ : ∃ b, b = w3.heap.size := ⟨_, rfl⟩
          rw [← htb] at t0 t1 ⊢
          clear htb
          replace hO := hO.on kb
          replace hB := onS hB kb
          replace y0 := cellS kb y0
          replace y3 := y3.on kb
          replace u3 := u3.on kb
          clear kb
          refine hK.out _ _ y0 (fun hHeld => ?_)
          clear hK K
          try simp only [Act.put, List.setIfInBounds_toArray, List.set_cons_zero, List.set_cons_succ]
          refine wpAnyH_ready (rs := [11]) (by kernel_rfl) (by simp) ?_
          refine AllReadyH.cons (by simp only [List.getElem?_toArray, List.getElem?_cons_succ, List.getElem?_cons_zero]; rfl) (fun K hK => ?_) AllReadyH.nil
          go_simp
          go_wp2_with fail
          refine (natAdd_two tb u v Au As du ds w4 t0 t1 u3 y3 u1 u2 y1 y2 (by omega) (by omega) (by omega)).mono ?_
          rintro e w5 ⟨Ar, dr, rfl, r1, r2, r3, kb⟩
          replace hO := hO.on kb
          replace hB := onS hB kb
          replace y0 := cellS kb y0
          replace y3 := y3.on kb
          replace u3 := u3.on kb
          replace t0 := cellS kb t0
          replace t1 := cellS kb t1
          clear kb
          refine hK.out _ _ y0 (fun hHeld => ?_)
          clear hK K
          try simp only [Act.put, List.setIfInBounds_toArray, List.set_cons_zero, List.set_cons_succ]
          refine wpAnyH_take (i := 12) (v := ?_) (by simp only [List.getElem?_toArray, List.getElem?_cons_succ, List.getElem?_cons_zero]; rfl) (by kernel_rfl) (by kernel_rfl) (by kernel_rfl) (by exact fun _ _ _ h => h) (Or.inl ⟨by rfl, ?_⟩) (by assumption) ?_
          rotate_left
          · (intro w hSw; (try dsimp only at hSw); go_simp); first | done | with_reducible rfl
          try simp only [Act.put, List.setIfInBounds_toArray, List.set_cons_zero, List.set_cons_succ]
          refine wpAnyH_ready (rs := [13]) (by kernel_rfl) (by simp) ?_
          refine AllReadyH.cons (by simp only [List.getElem?_toArray, List.getElem?_cons_succ, List.getElem?_cons_zero]; rfl) (fun K hK => ?_) AllReadyH.nil
          obtain ⟨A7, d7, q0, _, _, _, z0⟩ := hO.rd hlt
          have hO2 := hO.set hlt r3 r1 r2
          have hB2 := hB.setCell (p := ⟨g, 0 + i, none⟩) HG.out (.slice Ar (dl (u + v)) dr)
          rw [Nat.zero_add] at hO2 hB2 q0 z0
          go_simp
          replace y0 := cell_setCell_far (p := ⟨g, i, none⟩) (u := .slice Ar (dl (u + v)) dr) y0 hsg
          have HO2 := hid hO2
          have HB2 := hid hB2
          clear hO hB hO2 hB2 q0 z0
          refine hK.out _ _ y0 (fun hHeld => ?_)
          clear hK K
          try simp only [Act.put, List.setIfInBounds_toArray, List.set_cons_zero, List.set_cons_succ]
          refine wpAnyH_done (by kernel_rfl) ?_ _
          clear hHeld
          have HN := hid (HFIN.out _ _ HO2.out (by unfold updN; rw [if_pos rfl]; exact HSUM.out) fun k e => by unfold updN; rw [if_neg e]; exact HXo.out k e)
          clear HO2 y0
          go_wp2
          go_roundg (gk - 1)
          case measure => omega
          case rel => exact ⟨i + 1, by go_num, by omega, by omega, HN.out, HB2.out⟩
        · have hib' : ¬ (i : Int) < (b : Int) := by omega
          have HN := hid (HFIN.out _ _ HO2.out (by unfold updN; rw [if_pos rfl]; exact by unfold addP; rw [if_pos hia, if_neg hib, HU0.out, HV.out]; omega) fun k e => by unfold updN; rw [if_neg e]; exact HXo.out k e)
          clear HO2 y0
          go_wp2
          go_roundg (gk - 1)
          case measure => omega
          case rel => exact ⟨i + 1, by go_num, by omega, by omega, HN.out, HB2.out⟩
      · have hia' : ¬ (i : Int) < (a : Int) := by omega
        have hib : i < b := by omega
        have hib' : (i : Int) < (b : Int) := by omega
        obtain ⟨sb, so, As, ds, rfl, hsb, y0, y1, y2, y3⟩ := natTab_at (HT2.out.on hB) hib
        have hsg : sb ≠ g := by
          obtain ⟨b9, o9, A9, c9, e9, h9, _⟩ := HT2.out i hib
          injection e9 with e9
          injection e9 with e9
          have := HG.out
          omega
        have hdv := hq.out i hib
        obtain ⟨v, hv⟩ : ∃ v, v = q i := ⟨_, rfl⟩
        have HV2 := hid hv
        rw [← hv] at y0 y1 y3 hdv
        clear hv
        obtain ⟨X, hX⟩ : ∃ X : Nat → Nat, X = fun k => if k < i then addP a b p q k else 0 := ⟨_, rfl⟩
        have HXo : Hid (∀ k, k ≠ i → X k = if k < i then addP a b p q k else 0) := by rw [hX]; exact hid fun _ _ => rfl
        have HXi : Hid (X i = 0) := by rw [hX]; exact hid (if_neg (Nat.lt_irrefl i))
        rw [← hX] at hO
        obtain ⟨u, hu⟩ : ∃ u, u = X i := ⟨_, rfl⟩
        have HU := hid hu
        have hu0 : dl u ≤ 1000000 := by rw [hu, HXi.out, dl_zero]; omega
        have huv : dl (u + v) ≤ 1000000 := by rw [hu, HXi.out, Nat.zero_add]; exact hdv
        have HU0 : Hid (u = 0) := by rw [hu]; exact HXi
        clear hX hu
        go_upto_region 8 with fail
        refine wp_region_held_drew (S := fun w' => w'.cell? ⟨sb, so + i, none⟩ = some (.slice As (dl v) ds)) (by kernel_rfl) (cellS (Below.refl _ _).drew y0) (fun hHeld => ?_)
        obtain ⟨w3, hw⟩ : ∃ W, W = World.drew w2 := ⟨_, rfl⟩
        have kb : Below w2.heap.size w2 w3 := by rw [hw]; exact (Below.refl _ _).drew
        rw [← hw] at hHeld ⊢
        clear hw
        replace hO := hO.on kb
        replace hB := onS hB kb
        replace y0 := cellS kb y0
        replace y3 := y3.on kb
        clear kb
        refine wpAnyH_take (i := 0) (v := ?_) (by simp only [List.getElem?_toArray, List.getElem?_cons_zero]; rfl) (by kernel_rfl) (by kernel_rfl) (by kernel_rfl) (by exact fun _ _ _ h => h) (Or.inl ⟨by rfl, ?_⟩) (by assumption) ?_
        rotate_left
        · (intro w hSw; (try dsimp only at hSw); go_simp); first | done | with_reducible rfl
        try simp only [Act.put, List.setIfInBounds_toArray, List.set_cons_zero, List.set_cons_succ]
        refine wpAnyH_take (i := 1) (v := ?_) (by simp only [List.getElem?_toArray, List.getElem?_cons_succ, List.getElem?_cons_zero]; rfl) (by kernel_rfl) (by kernel_rfl) (by kernel_rfl) (by exact fun _ _ _ h => h) (Or.inl ⟨by rfl, ?_⟩) (by assumption) ?_
        rotate_left
        · (intro w hSw; (try dsimp only at hSw); go_simp); first | done | with_reducible rfl
        try simp only [Act.put, List.setIfInBounds_toArray, List.set_cons_zero, List.set_cons_succ]
        refine wpAnyH_take (i := 2) (v := ?_) (by simp only [List.getElem?_toArray, List.getElem?_cons_succ, List.getElem?_cons_zero]; rfl) (by kernel_rfl) (by kernel_rfl) (by kernel_rfl) (by exact fun _ _ _ h => h) (Or.inl ⟨by rfl, ?_⟩) (by assumption) ?_
        rotate_left
        · (intro w hSw; (try dsimp only at hSw); go_simp); first | done | with_reducible rfl
        try simp only [Act.put, List.setIfInBounds_toArray, List.set_cons_zero, List.set_cons_succ]
        refine wpAnyH_take (i := 3) (v := ?_) (by simp only [List.getElem?_toArray, List.getElem?_cons_succ, List.getElem?_cons_zero]; rfl) (by kernel_rfl) (by kernel_rfl) (by kernel_rfl) (by exact fun _ _ _ h => h) (Or.inl ⟨by rfl, ?_⟩) (by assumption) ?_
        rotate_left
        · (intro w hSw; (try dsimp only at hSw); go_simp); first | done | with_reducible rfl
        try simp only [Act.put, List.setIfInBounds_toArray, List.set_cons_zero, List.set_cons_succ]
        refine wpAnyH_take (i := 4) (v := ?_) (by simp only [List.getElem?_toArray, List.getElem?_cons_succ, List.getElem?_cons_zero]; rfl) (by kernel_rfl) (by kernel_rfl) (by kernel_rfl) (by exact fun _ _ _ h => h) (Or.inl ⟨by rfl, ?_⟩) (by assumption) ?_
        rotate_left
        · (intro w hSw; (try dsimp only at hSw); go_simp); first | done | with_reducible rfl
        try simp only [Act.put, List.setIfInBounds_toArray, List.set_cons_zero, List.set_cons_succ]
        refine wpAnyH_take (i := 6) (v := ?_) (by simp only [List.getElem?_toArray, List.getElem?_cons_succ, List.getElem?_cons_zero]; rfl) (by kernel_rfl) (by kernel_rfl) (by kernel_rfl) (by exact fun _ _ _ h => h) (Or.inl ⟨by rfl, ?_⟩) (by assumption) ?_
        rotate_left
        · (intro w hSw; (try dsimp only at hSw); go_simp); first | done | with_reducible rfl
        try simp only [Act.put, List.setIfInBounds_toArray, List.set_cons_zero, List.set_cons_succ]
        refine wpAnyH_take (i := 7) (v := ?_) (by simp only [List.getElem?_toArray, List.getElem?_cons_succ, List.getElem?_cons_zero]; rfl) (by kernel_rfl) (by kernel_rfl) (by kernel_rfl) (by exact fun _ _ _ h => h) (Or.inl ⟨by rfl, ?_⟩) (by assumption) ?_
        rotate_left
        · (intro w hSw; (try dsimp only at hSw); go_simp); first | done | with_reducible rfl
        try simp only [Act.put, List.setIfInBounds_toArray, List.set_cons_zero, List.set_cons_succ]
        refine wpAnyH_take (i := 8) (v := ?_) (by simp only [List.getElem?_toArray, List.getElem?_cons_succ, List.getElem?_cons_zero]; rfl) (by kernel_rfl) (by kernel_rfl) (by kernel_rfl) (by exact fun _ _ _ h => h) (Or.inl ⟨by rfl, ?_⟩) (by assumption) ?_
        rotate_left
        · (intro w hSw; (try dsimp only at hSw); go_simp); first | done | with_reducible rfl
        try simp only [Act.put, List.setIfInBounds_toArray, List.set_cons_zero, List.set_cons_succ]
        refine wpAnyH_take (i := 9) (v := ?_) (by simp only [List.getElem?_toArray, List.getElem?_cons_succ, List.getElem?_cons_zero]; rfl) (by kernel_rfl) (by kernel_rfl) (by kernel_rfl) (by exact fun _ _ _ h => h) (Or.inl ⟨by rfl, ?_⟩) (by assumption) ?_
        rotate_left
        · (intro w hSw; (try dsimp only at hSw); go_simp); first | done | with_reducible rfl
        try simp only [Act.put, List.setIfInBounds_toArray, List.set_cons_zero, List.set_cons_succ]
        refine wpAnyH_ready (rs := [5]) (by kernel_rfl) (by simp) ?_
        refine AllReadyH.cons (by simp only [List.getElem?_toArray, List.getElem?_cons_succ, List.getElem?_cons_zero]; rfl) (fun K hK => ?_) AllReadyH.nil
        obtain ⟨Au, du, q0, u1, u2, u3, _⟩ := hO.rd hlt
        rw [Nat.zero_add, ← HU.out] at q0
        rw [← HU.out] at u1 u3
        go_simp
        clear q0
        refine hK.out _ _ y0 (fun hHeld => ?_)
        clear hK K
        try simp only [Act.put, List.setIfInBounds_toArray, List.set_cons_zero, List.set_cons_succ]
        refine wpAnyH_ready (rs := [10]) (by kernel_rfl) (by simp) ?_
        refine AllReadyH.cons (by simp only [List.getElem?_toArray, List.getElem?_cons_succ, List.getElem?_cons_zero]; rfl) (fun K hK => ?_) AllReadyH.nil
        go_simp
        obtain ⟨w4, hw⟩ : ∃ W, W = World.alloc w3 (Obj.cells #[Value.slice Au (dl u) du, Value.slice As (dl v) ds] 43) := ⟨_, rfl⟩
        have kb : Below w3.heap.size w3 w4 := by rw [hw]; exact (Below.refl _ _).alloc (Nat.le_refl _) _
        have t0 : w4.cell? ⟨w3.heap.size, 0, none⟩ = some (.slice Au (dl u) du) := by rw [hw]; simp
        have t1 : w4.cell? ⟨w3.heap.size, 1, none⟩ = some (.slice As (dl v) ds) := by rw [hw]; simp
        rw [← hw]
        clear hw
        obtain ⟨tb, htb⟩ : ∃ b, b = w3.heap.size := ⟨_, rfl⟩
        rw [← htb] at t0 t1 ⊢
        clear htb
        replace hO := hO.on kb
        replace hB := onS hB kb
        replace y0 := cellS kb y0
        replace y3 := y3.on kb
        replace u3 := u3.on kb
        clear kb
        refine hK.out _ _ y0 (fun hHeld => ?_)
        clear hK K
        try simp only [Act.put, List.setIfInBounds_toArray, List.set_cons_zero, List.set_cons_succ]
        refine wpAnyH_ready (rs := [11]) (by kernel_rfl) (by simp) ?_
        refine AllReadyH.cons (by simp only [List.getElem?_toArray, List.getElem?_cons_succ, List.getElem?_cons_zero]; rfl) (fun K hK => ?_) AllReadyH.nil
        go_simp
        go_wp2_with fail
        refine (natAdd_two tb u v Au As du ds w4 t0 t1 u3 y3 u1 u2 y1 y2 (by omega) (by omega) (by omega)).mono ?_
        rintro e w5 ⟨Ar, dr, rfl, r1, r2, r3, kb⟩
        replace hO := hO.on kb
        replace hB := onS hB kb
        replace y0 := cellS kb y0
        replace y3 := y3.on kb
        replace u3 := u3.on kb
        replace t0 := cellS kb t0
        replace t1 := cellS kb t1
        clear kb
        refine hK.out _ _ y0 (fun hHeld => ?_)
        clear hK K
        try simp only [Act.put, List.setIfInBounds_toArray, List.set_cons_zero, List.set_cons_succ]
        refine wpAnyH_take (i := 12) (v := ?_) (by simp only [List.getElem?_toArray, List.getElem?_cons_succ, List.getElem?_cons_zero]; rfl) (by kernel_rfl) (by kernel_rfl) (by kernel_rfl) (by exact fun _ _ _ h => h) (Or.inl ⟨by rfl, ?_⟩) (by assumption) ?_
        rotate_left
        · (intro w hSw; (try dsimp only at hSw); go_simp); first | done | with_reducible rfl
        try simp only [Act.put, List.setIfInBounds_toArray, List.set_cons_zero, List.set_cons_succ]
        refine wpAnyH_ready (rs := [13]) (by kernel_rfl) (by simp) ?_
        refine AllReadyH.cons (by simp only [List.getElem?_toArray, List.getElem?_cons_succ, List.getElem?_cons_zero]; rfl) (fun K hK => ?_) AllReadyH.nil
        obtain ⟨A7, d7, q0, _, _, _, z0⟩ := hO.rd hlt
        have hO2 := hO.set hlt r3 r1 r2
        have hB2 := hB.setCell (p := ⟨g, 0 + i, none⟩) HG.out (.slice Ar (dl (u + v)) dr)
        rw [Nat.zero_add] at hO2 hB2 q0 z0
        go_simp
        replace y0 := cell_setCell_far (p := ⟨g, i, none⟩) (u := .slice Ar (dl (u + v)) dr) y0 hsg
        have HO2 := hid hO2
        have HB2 := hid hB2
        clear hO hB hO2 hB2 q0 z0
        refine hK.out _ _ y0 (fun hHeld => ?_)
        clear hK K
        try simp only [Act.put, List.setIfInBounds_toArray, List.set_cons_zero, List.set_cons_succ]
        refine wpAnyH_done (by kernel_rfl) ?_ _
        clear hHeld
        have HN := hid (HFIN.out _ _ HO2.out (by unfold updN; rw [if_pos rfl]; exact by unfold addP; rw [if_neg hia, if_pos hib, HU0.out, HV2.out]) fun k e => by unfold updN; rw [if_neg e]; exact HXo.out k e)
        clear HO2 y0
        go_wp2
        go_roundg (gk - 1)
        case measure => omega
        case rel => exact ⟨i + 1, by go_num, by omega, by omega, HN.out, HB2.out⟩
    · have hlt' : ¬ (i : Int) < (m : Int) := by omega
      obtain rfl : i = m := by omega
      have hO1 := hid (hO.congr (y' := addP a b p q) fun k hk => if_pos hk)
      clear hO
      obtain ⟨A9, c9, hv9, hc1, hc2, hT9⟩ := hO1.out.tab
      injection hv9 with hv9 _ hv8
      subst hv9 hv8
      go_wp2_with fail
      refine (enumerator_any (some ⟨g, 0, none⟩) i i (addP a b p q) w2 hT9 (by omega) fun k hk => by have := hs.out k; omega).mono ?_
      rintro e w3 ⟨v, rfl, hv, kb⟩
      have hB3 := onS hB kb
      have hv3 := hv.monoB hB.size
      have hsl := hid hv3
      obtain ⟨A8, c8, hv8⟩ := hv3.isSlice
      obtain ⟨d, hd⟩ : ∃ d, d = plen (addP a b p q) i := ⟨_, rfl⟩
      have HD := hid hd
      rw [← hd] at hv8 hsl
      subst hv8
      clear hv hv3 hT9 kb hB hd hc1 hc2
      go_wp2
      go_ret
      exact ⟨_, rfl, by rw [← HD.out]; exact hsl.out, hB3⟩
set_option maxRecDepth 100000 in
set_option maxHeartbeats 8000000 in
theorem polyAdd_any (A A2 : Option Addr) (a b c c2 : Nat) (p q : Nat → Nat) (w : World) (h : NatTab w w.heap.size A a p) (h2 : NatTab w w.heap.size A2 b q) (ha : a ≤ 2048) (hb : b ≤ 2048)
    (hp : Hid (∀ k, k < a → dl (p k) ≤ 1000000)) (hq : Hid (∀ k, k < b → dl (q k) ≤ 1000000)) (hs : Hid (∀ k, dl (addP a b p q k) ≤ 1000000)) :
    Calls Try.prog 55 #[.slice A a c, .slice A2 b c2] w (PolPost (plen (addP a b p q) (max a b)) (addP a b p q) w) := by
  have HT1 := hid h
  have HT2 := hid h2
  obtain ⟨m, hm⟩ : ∃ m, m = max a b := ⟨_, rfl⟩
  have ham : a ≤ m := by omega
  have hbm : b ≤ m := by omega
  have hmx : max (a : Int) (b : Int) = (m : Int) := by omega
  have hm20 : m ≤ 2048 := by omega
  rw [← hm]
  have hmk := fun W => run_makeI (P := Try.prog) 39 43 _ 24 Try.underlying39 Try.infoNat rfl (m : Int) (by omega) (by omega) (by omega) W
  simp only [Int.toNat_natCast] at hmk
  clear h h2 hm
  go_enter Try.func55, Try.ntmps55
  have hB0 : Below w.heap.size w w := Below.refl _ _
  have hsz : w.heap.size = w.heap.size := rfl
  have hO := natOwn_made (w := w) (base := w.heap.size) (n := m) hB0.size (by unfold maxLen; omega)
  have hB := onS hB0 ((Below.refl w.heap.size w).alloc (Nat.le_refl _) (Obj.cells (madeCells #[Value.slice none 0 0] m) 43))
  go_upto_region 2 with fail
  obtain ⟨w1, hw1⟩ : ∃ W, W = w.alloc (Obj.cells (madeCells #[Value.slice none 0 0] m) 43) := ⟨_, rfl⟩
  obtain ⟨g, hg⟩ : ∃ b, b = w.heap.size := ⟨_, rfl⟩
  have HG : Hid (w.heap.size ≤ g) := by show _ ≤ g; omega
  rw [← hw1] at hO hB ⊢
  rw [← hg]
  have hO0 : NatOwn w1 w.heap.size (.slice (some ⟨g, 0, none⟩) m m) m (fun k => if k < 0 then addP a b p q k else 0) := by
    rw [hg]
    exact hO.congr fun i _ => (if_neg (by omega)).symm
  clear hw1 hO hmk hg hB0 hsz
  go_wp2
  go_loopg [6] m (fun gg iv wx => ∃ i : Nat, iv = .int .i64 (i : Nat) ∧ i ≤ m ∧ m ≤ i + gg ∧ NatOwn wx w.heap.size (.slice (some ⟨g, 0, none⟩) m m) m (fun k => if k < i then addP a b p q k else 0) ∧ Below w.heap.size w wx)
  case atStart => exact ⟨0, rfl, by omega, by omega, hO0, hB⟩
  case round =>
    clear hO0 hB
    obtain ⟨i, rfl, hi, hig, hO, hB⟩ := hrel
    have hi0 : (0 : Int) ≤ (i : Int) := by omega
    obtain ⟨w2, hw2⟩ : ∃ W, W = wr := ⟨_, rfl⟩
    subst hw2
    by_cases hlt : i < m
    · have hlt' : (i : Int) < (m : Int) := by omega
      have HFIN : Hid (∀ (W : World) (X : Nat → Nat), NatOwn W w.heap.size (.slice (some ⟨g, 0, none⟩) m m) m X → X i = addP a b p q i → (∀ k, k ≠ i → X k = if k < i then addP a b p q k else 0) → NatOwn W w.heap.size (.slice (some ⟨g, 0, none⟩) m m) m (fun k => if k < i + 1 then addP a b p q k else 0)) := fun W X h1 h2 h3 => h1.congr fun k _ => by
        by_cases e : k = i
        · rw [e, h2, if_pos (Nat.lt_succ_self _)]
        · rw [h3 k e]
          by_cases e2 : k < i
          · rw [if_pos e2, if_pos (by omega)]
          · rw [if_neg e2, if_neg (by omega)]
      have hsi := hs.out i
      by_cases hia : i < a
      · have hia' : (i : Int) < (a : Int) := by omega
        obtain ⟨sb, so, As, ds, rfl, hsb, y0, y1, y2, y3⟩ := natTab_at (HT1.out.on hB) hia
        have hsg : sb ≠ g := by
          obtain ⟨b9, o9, A9, c9, e9, h9, _⟩ := HT1.out i hia
          injection e9 with e9
          injection e9 with e9
          have := HG.out
          omega
        have hdv := hp.out i hia
        obtain ⟨v, hv⟩ : ∃ v, v = p i := ⟨_, rfl⟩
        have HV := hid hv
        rw [← hv] at y0 y1 y3 hdv
        clear hv
        obtain ⟨X, hX⟩ : ∃ X : Nat → Nat, X = fun k => if k < i then addP a b p q k else 0 := ⟨_, rfl⟩
        have HXo : Hid (∀ k, k ≠ i → X k = if k < i then addP a b p q k else 0) := by rw [hX]; exact hid fun _ _ => rfl
        have HXi : Hid (X i = 0) := by rw [hX]; exact hid (if_neg (Nat.lt_irrefl i))
        rw [← hX] at hO
        obtain ⟨u, hu⟩ : ∃ u, u = X i := ⟨_, rfl⟩
        have HU := hid hu
        have hu0 : dl u ≤ 1000000 := by rw [hu, HXi.out, dl_zero]; omega
        have huv : dl (u + v) ≤ 1000000 := by rw [hu, HXi.out, Nat.zero_add]; exact hdv
        have HU0 : Hid (u = 0) := by rw [hu]; exact HXi
        clear hX hu
        go_upto_region 6 with fail
        refine wp_region_held_drew (S := fun w' => w'.cell? ⟨sb, so + i, none⟩ = some (.slice As (dl v) ds)) (by kernel_rfl) (cellS (Below.refl _ _).drew y0) (fun hHeld => ?_)
        obtain ⟨w3, hw⟩ : ∃ W, W = World.drew w2 := ⟨_, rfl⟩
        have kb : Below w2.heap.size w2 w3 := by rw [hw]; exact (Below.refl _ _).drew
        rw [← hw] at hHeld ⊢
        clear hw
        replace hO := hO.on kb
        replace hB := onS hB kb
        replace y0 := cellS kb y0
        replace y3 := y3.on kb
        clear kb
        refine wpAnyH_take (i := 0) (v := ?_) (by simp only [List.getElem?_toArray, List.getElem?_cons_zero]; rfl) (by kernel_rfl) (by kernel_rfl) (by kernel_rfl) (by exact fun _ _ _ h => h) (Or.inl ⟨by rfl, ?_⟩) (by assumption) ?_
        rotate_left
        · (intro w hSw; (try dsimp only at hSw); go_simp); first | done | with_reducible rfl
        try simp only [Act.put, List.setIfInBounds_toArray, List.set_cons_zero, List.set_cons_succ]
        refine wpAnyH_take (i := 1) (v := ?_) (by simp only [List.getElem?_toArray, List.getElem?_cons_succ, List.getElem?_cons_zero]; rfl) (by kernel_rfl) (by kernel_rfl) (by kernel_rfl) (by exact fun _ _ _ h => h) (Or.inl ⟨by rfl, ?_⟩) (by assumption) ?_
        rotate_left
        · (intro w hSw; (try dsimp only at hSw); go_simp); first | done | with_reducible rfl
        try simp only [Act.put, List.setIfInBounds_toArray, List.set_cons_zero, List.set_cons_succ]
        refine wpAnyH_take (i := 2) (v := ?_) (by simp only [List.getElem?_toArray, List.getElem?_cons_succ, List.getElem?_cons_zero]; rfl) (by kernel_rfl) (by kernel_rfl) (by kernel_rfl) (by exact fun _ _ _ h => h) (Or.inl ⟨by rfl, ?_⟩) (by assumption) ?_
        rotate_left
        · (intro w hSw; (try dsimp only at hSw); go_simp); first | done | with_reducible rfl
        try simp only [Act.put, List.setIfInBounds_toArray, List.set_cons_zero, List.set_cons_succ]
        refine wpAnyH_take (i := 3) (v := ?_) (by simp only [List.getElem?_toArray, List.getElem?_cons_succ, List.getElem?_cons_zero]; rfl) (by kernel_rfl) (by kernel_rfl) (by kernel_rfl) (by exact fun _ _ _ h => h) (Or.inl ⟨by rfl, ?_⟩) (by assumption) ?_
        rotate_left
        · (intro w hSw; (try dsimp only at hSw); go_simp); first | done | with_reducible rfl
        try simp only [Act.put, List.setIfInBounds_toArray, List.set_cons_zero, List.set_cons_succ]
        refine wpAnyH_take (i := 4) (v := ?_) (by simp only [List.getElem?_toArray, List.getElem?_cons_succ, List.getElem?_cons_zero]; rfl) (by kernel_rfl) (by kernel_rfl) (by kernel_rfl) (by exact fun _ _ _ h => h) (Or.inl ⟨by rfl, ?_⟩) (by assumption) ?_
        rotate_left
        · (intro w hSw; (try dsimp only at hSw); go_simp); first | done | with_reducible rfl
        try simp only [Act.put, List.setIfInBounds_toArray, List.set_cons_zero, List.set_cons_succ]
        refine wpAnyH_take (i := 6) (v := ?_) (by simp only [List.getElem?_toArray, List.getElem?_cons_succ, List.getElem?_cons_zero]; rfl) (by kernel_rfl) (by kernel_rfl) (by kernel_rfl) (by exact fun _ _ _ h => h) (Or.inl ⟨by rfl, ?_⟩) (by assumption) ?_
        rotate_left
        · (intro w hSw; (try dsimp only at hSw); go_simp); first | done | with_reducible rfl
        try simp only [Act.put, List.setIfInBounds_toArray, List.set_cons_zero, List.set_cons_succ]
        refine wpAnyH_take (i := 7) (v := ?_) (by simp only [List.getElem?_toArray, List.getElem?_cons_succ, List.getElem?_cons_zero]; rfl) (by kernel_rfl) (by kernel_rfl) (by kernel_rfl) (by exact fun _ _ _ h => h) (Or.inl ⟨by rfl, ?_⟩) (by assumption) ?_
        rotate_left
        · (intro w hSw; (try dsimp only at hSw); go_simp); first | done | with_reducible rfl
        try simp only [Act.put, List.setIfInBounds_toArray, List.set_cons_zero, List.set_cons_succ]
        refine wpAnyH_take (i := 8) (v := ?_) (by simp only [List.getElem?_toArray, List.getElem?_cons_succ, List.getElem?_cons_zero]; rfl) (by kernel_rfl) (by kernel_rfl) (by kernel_rfl) (by exact fun _ _ _ h => h) (Or.inl ⟨by rfl, ?_⟩) (by assumption) ?_
        rotate_left
        · (intro w hSw; (try dsimp only at hSw); go_simp); first | done | with_reducible rfl
        try simp only [Act.put, List.setIfInBounds_toArray, List.set_cons_zero, List.set_cons_succ]
        refine wpAnyH_take (i := 9) (v := ?_) (by simp only [List.getElem?_toArray, List.getElem?_cons_succ, List.getElem?_cons_zero]; rfl) (by kernel_rfl) (by kernel_rfl) (by kernel_rfl) (by exact fun _ _ _ h => h) (Or.inl ⟨by rfl, ?_⟩) (by assumption) ?_
        rotate_left
        · (intro w hSw; (try dsimp only at hSw); go_simp); first | done | with_reducible rfl
        try simp only [Act.put, List.setIfInBounds_toArray, List.set_cons_zero, List.set_cons_succ]
        refine wpAnyH_ready (rs := [5]) (by kernel_rfl) (by simp) ?_
        refine AllReadyH.cons (by simp only [List.getElem?_toArray, List.getElem?_cons_succ, List.getElem?_cons_zero]; rfl) (fun K hK => ?_) AllReadyH.nil
        obtain ⟨Au, du, q0, u1, u2, u3, _⟩ := hO.rd hlt
        rw [Nat.zero_add, ← HU.out] at q0
        rw [← HU.out] at u1 u3
        go_simp
        clear q0
        refine hK.out _ _ y0 (fun hHeld => ?_)
        clear hK K
        try simp only [Act.put, List.setIfInBounds_toArray, List.set_cons_zero, List.set_cons_succ]
        refine wpAnyH_ready (rs := [10]) (by kernel_rfl) (by simp) ?_
        refine AllReadyH.cons (by simp only [List.getElem?_toArray, List.getElem?_cons_succ, List.getElem?_cons_zero]; rfl) (fun K hK => ?_) AllReadyH.nil
        go_simp
        go_wp2_with fail
        refine (refAdd_nat Au As du ds u v w3 u3 y3 (by omega) (by omega)).mono ?_
        rintro e w4 ⟨Ar, dr, rfl, r1, r2, r3, kb⟩
        replace hO := hO.on kb
        replace hB := onS hB kb
        replace y0 := cellS kb y0
        replace y3 := y3.on kb
        replace u3 := u3.on kb
        clear kb
        refine hK.out _ _ y0 (fun hHeld => ?_)
        clear hK K
        try simp only [Act.put, List.setIfInBounds_toArray, List.set_cons_zero, List.set_cons_succ]
        refine wpAnyH_take (i := 11) (v := ?_) (by simp only [List.getElem?_toArray, List.getElem?_cons_succ, List.getElem?_cons_zero]; rfl) (by kernel_rfl) (by kernel_rfl) (by kernel_rfl) (by exact fun _ _ _ h => h) (Or.inl ⟨by rfl, ?_⟩) (by assumption) ?_
        rotate_left
        · (intro w hSw; (try dsimp only at hSw); go_simp); first | done | with_reducible rfl
        try simp only [Act.put, List.setIfInBounds_toArray, List.set_cons_zero, List.set_cons_succ]
        refine wpAnyH_ready (rs := [12]) (by kernel_rfl) (by simp) ?_
        refine AllReadyH.cons (by simp only [List.getElem?_toArray, List.getElem?_cons_succ, List.getElem?_cons_zero]; rfl) (fun K hK => ?_) AllReadyH.nil
        obtain ⟨A7, d7, q0, _, _, _, z0⟩ := hO.rd hlt
        have hO2 := hO.set hlt r3 r1 r2
        have hB2 := hB.setCell (p := ⟨g, 0 + i, none⟩) HG.out (.slice Ar (dl (u + v)) dr)
        rw [Nat.zero_add] at hO2 hB2 q0 z0
        go_simp
        replace y0 := cell_setCell_far (p := ⟨g, i, none⟩) (u := .slice Ar (dl (u + v)) dr) y0 hsg
        have HO2 := hid hO2
        have HB2 := hid hB2
        clear hO hB hO2 hB2 q0 z0
        refine hK.out _ _ y0 (fun hHeld => ?_)
        clear hK K
        try simp only [Act.put, List.setIfInBounds_toArray, List.set_cons_zero, List.set_cons_succ]
        refine wpAnyH_done (by kernel_rfl) ?_ _
        clear hHeld
        by_cases hib : i < b
        · have hib' : (i : Int) < (b : Int) := by omega
          have HV1 := HV
          obtain ⟨v1, hv1⟩ : ∃ v1, v1 = u + v := ⟨_, rfl⟩
          have HV3 : Hid (v1 = p i) := by rw [hv1, HU0.out, Nat.zero_add]; exact HV1
          obtain ⟨w2, hw2⟩ : ∃ W, W = World.setCell w4 ⟨g, i, none⟩ (.slice Ar (dl (u + v)) dr) := ⟨_, rfl⟩
          rw [← hw2] at HO2 HB2 ⊢
          have hO := HO2.out
          have hB := HB2.out
          have HXo1 : Hid (∀ k, k ≠ i → updN X i (u + v) k = if k < i then addP a b p q k else 0) := fun k e => by unfold updN; rw [if_neg e]; exact HXo.out k e
          have HXi1 : Hid (updN X i (u + v) i = v1) := by unfold updN; rw [if_pos rfl, hv1]; exact hid rfl
          have hdv1 : dl v1 ≤ 1000000 := by rw [hv1]; exact huv
          rw [← hv1]
          clear hw2 hv1 y0 y1 y2 r1 r2 hsg hdv hu0 huv HO2 HB2 HXi HXo HU HV
          obtain ⟨X1, hX1⟩ : ∃ X1, X1 = updN X i (u + v) := ⟨_, rfl⟩
          rw [← hX1] at hO HXo1 HXi1
          clear hX1
          clear HU0 HV1
          have hdum : True := trivial
          obtain ⟨sb, so, As, ds, rfl, hsb, y0, y1, y2, y3⟩ := natTab_at (HT2.out.on hB) hib
          have hsg : sb ≠ g := by
            obtain ⟨b9, o9, A9, c9, e9, h9, _⟩ := HT2.out i hib
            injection e9 with e9
            injection e9 with e9
            have := HG.out
            omega
          have hdv := hq.out i hib
          obtain ⟨v, hv⟩ : ∃ v, v = q i := ⟨_, rfl⟩
          have HV2 := hid hv
          rw [← hv] at y0 y1 y3 hdv
          clear hv
          have HXo := HXo1
          have HXi := HXi1
          obtain ⟨u, hu⟩ : ∃ u, u = X1 i := ⟨_, rfl⟩
          have HU := hid hu
          have hu0 : dl u ≤ 1000000 := by rw [hu, HXi.out]; exact hdv1
          have HSUM : Hid (u + v = addP a b p q i) := by
            show _ = (if i < a then p i else 0) + if i < b then q i else 0
            rw [if_pos hia, if_pos hib, hu, HXi.out, HV3.out, HV2.out]
          have huv : dl (u + v) ≤ 1000000 := by rw [HSUM.out]; exact hsi
          clear hu HXi1 HXo1 hdum
          go_upto_region 8 with fail
          refine wp_region_held_drew (S := fun w' => w'.cell? ⟨sb, so + i, none⟩ = some (.slice As (dl v) ds)) (by kernel_rfl) (cellS (Below.refl _ _).drew y0) (fun hHeld => ?_)
          obtain ⟨w3, hw⟩ : ∃ W, W = World.drew w2 := ⟨_, rfl⟩
          have kb : Below w2.heap.size w2 w3 := by rw [hw]; exact (Below.refl _ _).drew
          rw [← hw] at hHeld ⊢
          clear hw
          replace hO := hO.on kb
          replace hB := onS hB kb
          replace y0 := cellS kb y0
          replace y3 := y3.on kb
          clear kb
          refine wpAnyH_take (i := 0) (v := ?_) (by simp only [List.getElem?_toArray, List.getElem?_cons_zero]; rfl) (by kernel_rfl) (by kernel_rfl) (by kernel_rfl) (by exact fun _ _ _ h => h) (Or.inl ⟨by rfl, ?_⟩) (by assumption) ?_
          rotate_left
          · (intro w hSw; (try dsimp only at hSw); go_simp); first | done | with_reducible rfl
          try simp only [Act.put, List.setIfInBounds_toArray, List.set_cons_zero, List.set_cons_succ]
          refine wpAnyH_take (i := 1) (v := ?_) (by simp only [List.getElem?_toArray, List.getElem?_cons_succ, List.getElem?_cons_zero]; rfl) (by kernel_rfl) (by kernel_rfl) (by kernel_rfl) (by exact fun _ _ _ h => h) (Or.inl ⟨by rfl, ?_⟩) (by assumption) ?_
          rotate_left
          · (intro w hSw; (try dsimp only at hSw); go_simp); first | done | with_reducible rfl
          try simp only [Act.put, List.setIfInBounds_toArray, List.set_cons_zero, List.set_cons_succ]
          refine wpAnyH_take (i := 2) (v := ?_) (by simp only [List.getElem?_toArray, List.getElem?_cons_succ, List.getElem?_cons_zero]; rfl) (by kernel_rfl) (by kernel_rfl) (by kernel_rfl) (by exact fun _ _ _ h => h) (Or.inl ⟨by rfl, ?_⟩) (by assumption) ?_
          rotate_left
          · (intro w hSw; (try dsimp only at hSw); go_simp); first | done | with_reducible rfl
          try simp only [Act.put, List.setIfInBounds_toArray, List.set_cons_zero, List.set_cons_succ]
          refine wpAnyH_take (i := 3) (v := ?_) (by simp only [List.getElem?_toArray, List.getElem?_cons_succ, List.getElem?_cons_zero]; rfl) (by kernel_rfl) (by kernel_rfl) (by kernel_rfl) (by exact fun _ _ _ h => h) (Or.inl ⟨by rfl, ?_⟩) (by assumption) ?_
          rotate_left
          · (intro w hSw; (try dsimp only at hSw); go_simp); first | done | with_reducible rfl
          try simp only [Act.put, List.setIfInBounds_toArray, List.set_cons_zero, List.set_cons_succ]
          refine wpAnyH_take (i := 4) (v := ?_) (by simp only [List.getElem?_toArray, List.getElem?_cons_succ, List.getElem?_cons_zero]; rfl) (by kernel_rfl) (by kernel_rfl) (by kernel_rfl) (by exact fun _ _ _ h => h) (Or.inl ⟨by rfl, ?_⟩) (by assumption) ?_
          rotate_left
          · (intro w hSw; (try dsimp only at hSw); go_simp); first | done | with_reducible rfl
          try simp only [Act.put, List.setIfInBounds_toArray, List.set_cons_zero, List.set_cons_succ]
          refine wpAnyH_take (i := 6) (v := ?_) (by simp only [List.getElem?_toArray, List.getElem?_cons_succ, List.getElem?_cons_zero]; rfl) (by kernel_rfl) (by kernel_rfl) (by kernel_rfl) (by exact fun _ _ _ h => h) (Or.inl ⟨by rfl, ?_⟩) (by assumption) ?_
          rotate_left
          · (intro w hSw; (try dsimp only at hSw); go_simp); first | done | with_reducible rfl
          try simp only [Act.put, List.setIfInBounds_toArray, List.set_cons_zero, List.set_cons_succ]
          refine wpAnyH_take (i := 7) (v := ?_) (by simp only [List.getElem?_toArray, List.getElem?_cons_succ, List.getElem?_cons_zero]; rfl) (by kernel_rfl) (by kernel_rfl) (by kernel_rfl) (by exact fun _ _ _ h => h) (Or.inl ⟨by rfl, ?_⟩) (by assumption) ?_
          rotate_left
          · (intro w hSw; (try dsimp only at hSw); go_simp); first | done | with_reducible rfl
          try simp only [Act.put, List.setIfInBounds_toArray, List.set_cons_zero, List.set_cons_succ]
          refine wpAnyH_take (i := 8) (v := ?_) (by simp only [List.getElem?_toArray, List.getElem?_cons_succ, List.getElem?_cons_zero]; rfl) (by kernel_rfl) (by kernel_rfl) (by kernel_rfl) (by exact fun _ _ _ h => h) (Or.inl ⟨by rfl, ?_⟩) (by assumption) ?_
          rotate_left
          · (intro w hSw; (try dsimp only at hSw); go_simp); first | done | with_reducible rfl
          try simp only [Act.put, List.setIfInBounds_toArray, List.set_cons_zero, List.set_cons_succ]
          refine wpAnyH_take (i := 9) (v := ?_) (by simp only [List.getElem?_toArray, List.getElem?_cons_succ, List.getElem?_cons_zero]; rfl) (by kernel_rfl) (by kernel_rfl) (by kernel_rfl) (by exact fun _ _ _ h => h) (Or.inl ⟨by rfl, ?_⟩) (by assumption) ?_
          rotate_left
          · (intro w hSw; (try dsimp only at hSw); go_simp); first | done | with_reducible rfl
          try simp only [Act.put, List.setIfInBounds_toArray, List.set_cons_zero, List.set_cons_succ]
          refine wpAnyH_ready (rs := [5]) (by kernel_rfl) (by simp) ?_
          refine AllReadyH.cons (by simp only [List.getElem?_toArray, List.getElem?_cons_succ, List.getElem?_cons_zero]; rfl) (fun K hK => ?_) AllReadyH.nil
          obtain ⟨Au, du, q0, u1, u2, u3, _⟩ := hO.rd hlt
          rw [Nat.zero_add, ← HU.out] at q0
          rw [← HU.out] at u1 u3
          go_simp
          clear q0
          refine hK.out _ _ y0 (fun hHeld => ?_)
          clear hK K
          try simp only [Act.put, List.setIfInBounds_toArray, List.set_cons_zero, List.set_cons_succ]
          refine wpAnyH_ready (rs := [10]) (by kernel_rfl) (by simp) ?_
          refine AllReadyH.cons (by simp only [List.getElem?_toArray, List.getElem?_cons_succ, List.getElem?_cons_zero]; rfl) (fun K hK => ?_) AllReadyH.nil
          go_simp
          go_wp2_with fail
          refine (refAdd_nat Au As du ds u v w3 u3 y3 (by omega) (by omega)).mono ?_
          rintro e w4 ⟨Ar, dr, rfl, r1, r2, r3, kb⟩
          replace hO := hO.on kb
          replace hB := onS hB kb
          replace y0 := cellS kb y0
          replace y3 := y3.on kb
          replace u3 := u3.on kb
          clear kb
          refine hK.out _ _ y0 (fun hHeld => ?_)
          clear hK K
          try simp only [Act.put, List.setIfInBounds_toArray, List.set_cons_zero, List.set_cons_succ]
          refine wpAnyH_take (i := 11) (v := ?_) (by simp only [List.getElem?_toArray, List.getElem?_cons_succ, List.getElem?_cons_zero]; rfl) (by kernel_rfl) (by kernel_rfl) (by kernel_rfl) (by exact fun _ _ _ h => h) (Or.inl ⟨by rfl, ?_⟩) (by assumption) ?_
          rotate_left
          · (intro w hSw; (try dsimp only at hSw); go_simp); first | done | with_reducible rfl
          try simp only [Act.put, List.setIfInBounds_toArray, List.set_cons_zero, List.set_cons_succ]
          refine wpAnyH_ready (rs := [12]) (by kernel_rfl) (by simp) ?_
          refine AllReadyH.cons (by simp only [List.getElem?_toArray, List.getElem?_cons_succ, List.getElem?_cons_zero]; rfl) (fun K hK => ?_) AllReadyH.nil
          obtain ⟨A7, d7, q0, _, _, _, z0⟩ := hO.rd hlt
          have hO2 := hO.set hlt r3 r1 r2
          have hB2 := hB.setCell (p := ⟨g, 0 + i, none⟩) HG.out (.slice Ar (dl (u + v)) dr)
          rw [Nat.zero_add] at hO2 hB2 q0 z0
          go_simp
          replace y0 := cell_setCell_far (p := ⟨g, i, none⟩) (u := .slice Ar (dl (u + v)) dr) y0 hsg
          have HO2 := hid hO2
          have HB2 := hid hB2
          clear hO hB hO2 hB2 q0 z0
          refine hK.out _ _ y0 (fun hHeld => ?_)
          clear hK K
          try simp only [Act.put, List.setIfInBounds_toArray, List.set_cons_zero, List.set_cons_succ]
          refine wpAnyH_done (by kernel_rfl) ?_ _
          clear hHeld
          have HN := hid (HFIN.out _ _ HO2.out (by unfold updN; rw [if_pos rfl]; exact HSUM.out) fun k e => by unfold updN; rw [if_neg e]; exact HXo.out k e)
          clear HO2 y0
          go_wp2
          go_roundg (gk - 1)
          case measure => omega
          case rel => exact ⟨i + 1, by go_num, by omega, by omega, HN.out, HB2.out⟩
        · have hib' : ¬ (i : Int) < (b : Int) := by omega
          have HN := hid (HFIN.out _ _ HO2.out (by unfold updN; rw [if_pos rfl]; exact by unfold addP; rw [if_pos hia, if_neg hib, HU0.out, HV.out]; omega) fun k e => by unfold updN; rw [if_neg e]; exact HXo.out k e)
          clear HO2 y0
          go_wp2
          go_roundg (gk - 1)
          case measure => omega
          case rel => exact ⟨i + 1, by go_num, by omega, by omega, HN.out, HB2.out⟩
      · have hia' : ¬ (i : Int) < (a : Int) := by omega
        have hib : i < b := by omega
        have hib' : (i : Int) < (b : Int) := by omega
        obtain ⟨sb, so, As, ds, rfl, hsb, y0, y1, y2, y3⟩ := natTab_at (HT2.out.on hB) hib
        have hsg : sb ≠ g := by
          obtain ⟨b9, o9, A9, c9, e9, h9, _⟩ := HT2.out i hib
          injection e9 with e9
          injection e9 with e9
          have := HG.out
          omega
        have hdv := hq.out i hib
        obtain ⟨v, hv⟩ : ∃ v, v = q i := ⟨_, rfl⟩
        have HV2 := hid hv
        rw [← hv] at y0 y1 y3 hdv
        clear hv
        obtain ⟨X, hX⟩ : ∃ X : Nat → Nat, X = fun k => if k < i then addP a b p q k else 0 := ⟨_, rfl⟩
        have HXo : Hid (∀ k, k ≠ i → X k = if k < i then addP a b p q k else 0) := by rw [hX]; exact hid fun _ _ => rfl
        have HXi : Hid (X i = 0) := by rw [hX]; exact hid (if_neg (Nat.lt_irrefl i))
        rw [← hX] at hO
        obtain ⟨u, hu⟩ : ∃ u, u = X i := ⟨_, rfl⟩
        have HU := hid hu
        have hu0 : dl u ≤ 1000000 := by rw [hu, HXi.out, dl_zero]; omega
        have huv : dl (u + v) ≤ 1000000 := by rw [hu, HXi.out, Nat.zero_add]; exact hdv
        have HU0 : Hid (u = 0) := by rw [hu]; exact HXi
        clear hX hu
        go_upto_region 8 with fail
        refine wp_region_held_drew (S := fun w' => w'.cell? ⟨sb, so + i, none⟩ = some (.slice As (dl v) ds)) (by kernel_rfl) (cellS (Below.refl _ _).drew y0) (fun hHeld => ?_)
        obtain ⟨w3, hw⟩ : ∃ W, W = World.drew w2 := ⟨_, rfl⟩
        have kb : Below w2.heap.size w2 w3 := by rw [hw]; exact (Below.refl _ _).drew
        rw [← hw] at hHeld ⊢
        clear hw
        replace hO := hO.on kb
        replace hB := onS hB kb
        replace y0 := cellS kb y0
        replace y3 := y3.on kb
        clear kb
        refine wpAnyH_take (i := 0) (v := ?_) (by simp only [List.getElem?_toArray, List.getElem?_cons_zero]; rfl) (by kernel_rfl) (by kernel_rfl) (by kernel_rfl) (by exact fun _ _ _ h => h) (Or.inl ⟨by rfl, ?_⟩) (by assumption) ?_
        rotate_left
        · (intro w hSw; (try dsimp only at hSw); go_simp); first | done | with_reducible rfl
        try simp only [Act.put, List.setIfInBounds_toArray, List.set_cons_zero, List.set_cons_succ]
        refine wpAnyH_take (i := 1) (v := ?_) (by simp only [List.getElem?_toArray, List.getElem?_cons_succ, List.getElem?_cons_zero]; rfl) (by kernel_rfl) (by kernel_rfl) (by kernel_rfl) (by exact fun _ _ _ h => h) (Or.inl ⟨by rfl, ?_⟩) (by assumption) ?_
        rotate_left
        · (intro w hSw; (try dsimp only at hSw); go_simp); first | done | with_reducible rfl
        try simp only [Act.put, List.setIfInBounds_toArray, List.set_cons_zero, List.set_cons_succ]
        refine wpAnyH_take (i := 2) (v := ?_) (by simp only [List.getElem?_toArray, List.getElem?_cons_succ, List.getElem?_cons_zero]; rfl) (by kernel_rfl) (by kernel_rfl) (by kernel_rfl) (by exact fun _ _ _ h => h) (Or.inl ⟨by rfl, ?_⟩) (by assumption) ?_
        rotate_left
        · (intro w hSw; (try dsimp only at hSw); go_simp); first | done | with_reducible rfl
        try simp only [Act.put, List.setIfInBounds_toArray, List.set_cons_zero, List.set_cons_succ]
        refine wpAnyH_take (i := 3) (v := ?_) (by simp only [List.getElem?_toArray, List.getElem?_cons_succ, List.getElem?_cons_zero]; rfl) (by kernel_rfl) (by kernel_rfl) (by kernel_rfl) (by exact fun _ _ _ h => h) (Or.inl ⟨by rfl, ?_⟩) (by assumption) ?_
        rotate_left
        · (intro w hSw; (try dsimp only at hSw); go_simp); first | done | with_reducible rfl
        try simp only [Act.put, List.setIfInBounds_toArray, List.set_cons_zero, List.set_cons_succ]
        refine wpAnyH_take (i := 4) (v := ?_) (by simp only [List.getElem?_toArray, List.getElem?_cons_succ, List.getElem?_cons_zero]; rfl) (by kernel_rfl) (by kernel_rfl) (by kernel_rfl) (by exact fun _ _ _ h => h) (Or.inl ⟨by rfl, ?_⟩) (by assumption) ?_
        rotate_left
        · (intro w hSw; (try dsimp only at hSw); go_simp); first | done | with_reducible rfl
        try simp only [Act.put, List.setIfInBounds_toArray, List.set_cons_zero, List.set_cons_succ]
        refine wpAnyH_take (i := 6) (v := ?_) (by simp only [List.getElem?_toArray, List.getElem?_cons_succ, List.getElem?_cons_zero]; rfl) (by kernel_rfl) (by kernel_rfl) (by kernel_rfl) (by exact fun _ _ _ h => h) (Or.inl ⟨by rfl, ?_⟩) (by assumption) ?_
        rotate_left
        · (intro w hSw; (try dsimp only at hSw); go_simp); first | done | with_reducible rfl
        try simp only [Act.put, List.setIfInBounds_toArray, List.set_cons_zero, List.set_cons_succ]
        refine wpAnyH_take (i := 7) (v := ?_) (by simp only [List.getElem?_toArray, List.getElem?_cons_succ, List.getElem?_cons_zero]; rfl) (by kernel_rfl) (by kernel_rfl) (by kernel_rfl) (by exact fun _ _ _ h => h) (Or.inl ⟨by rfl, ?_⟩) (by assumption) ?_
        rotate_left
        · (intro w hSw; (try dsimp only at hSw); go_simp); first | done | with_reducible rfl
        try simp only [Act.put, List.setIfInBounds_toArray, List.set_cons_zero, List.set_cons_succ]
        refine wpAnyH_take (i := 8) (v := ?_) (by simp only [List.getElem?_toArray, List.getElem?_cons_succ, List.getElem?_cons_zero]; rfl) (by kernel_rfl) (by kernel_rfl) (by kernel_rfl) (by exact fun _ _ _ h => h) (Or.inl ⟨by rfl, ?_⟩) (by assumption) ?_
        rotate_left
        · (intro w hSw; (try dsimp only at hSw); go_simp); first | done | with_reducible rfl
        try simp only [Act.put, List.setIfInBounds_toArray, List.set_cons_zero, List.set_cons_succ]
        refine wpAnyH_take (i := 9) (v := ?_) (by simp only [List.getElem?_toArray, List.getElem?_cons_succ, List.getElem?_cons_zero]; rfl) (by kernel_rfl) (by kernel_rfl) (by kernel_rfl) (by exact fun _ _ _ h => h) (Or.inl ⟨by rfl, ?_⟩) (by assumption) ?_
        rotate_left
        · (intro w hSw; (try dsimp only at hSw); go_simp); first | done | with_reducible rfl
        try simp only [Act.put, List.setIfInBounds_toArray, List.set_cons_zero, List.set_cons_succ]
        refine wpAnyH_ready (rs := [5]) (by kernel_rfl) (by simp) ?_
        refine AllReadyH.cons (by simp only [List.getElem?_toArray, List.getElem?_cons_succ, List.getElem?_cons_zero]; rfl) (fun K hK => ?_) AllReadyH.nil
        obtain ⟨Au, du, q0, u1, u2, u3, _⟩ := hO.rd hlt
        rw [Nat.zero_add, ← HU.out] at q0
        rw [← HU.out] at u1 u3
        go_simp
        clear q0
        refine hK.out _ _ y0 (fun hHeld => ?_)
        clear hK K
        try simp only [Act.put, List.setIfInBounds_toArray, List.set_cons_zero, List.set_cons_succ]
        refine wpAnyH_ready (rs := [10]) (by kernel_rfl) (by simp) ?_
        refine AllReadyH.cons (by simp only [List.getElem?_toArray, List.getElem?_cons_succ, List.getElem?_cons_zero]; rfl) (fun K hK => ?_) AllReadyH.nil
        go_simp
        go_wp2_with fail
        refine (refAdd_nat Au As du ds u v w3 u3 y3 (by omega) (by omega)).mono ?_
        rintro e w4 ⟨Ar, dr, rfl, r1, r2, r3, kb⟩
        replace hO := hO.on kb
        replace hB := onS hB kb
        replace y0 := cellS kb y0
        replace y3 := y3.on kb
        replace u3 := u3.on kb
        clear kb
        refine hK.out _ _ y0 (fun hHeld => ?_)
        clear hK K
        try simp only [Act.put, List.setIfInBounds_toArray, List.set_cons_zero, List.set_cons_succ]
        refine wpAnyH_take (i := 11) (v := ?_) (by simp only [List.getElem?_toArray, List.getElem?_cons_succ, List.getElem?_cons_zero]; rfl) (by kernel_rfl) (by kernel_rfl) (by kernel_rfl) (by exact fun _ _ _ h => h) (Or.inl ⟨by rfl, ?_⟩) (by assumption) ?_
        rotate_left
        · (intro w hSw; (try dsimp only at hSw); go_simp); first | done | with_reducible rfl
        try simp only [Act.put, List.setIfInBounds_toArray, List.set_cons_zero, List.set_cons_succ]
        refine wpAnyH_ready (rs := [12]) (by kernel_rfl) (by simp) ?_
        refine AllReadyH.cons (by simp only [List.getElem?_toArray, List.getElem?_cons_succ, List.getElem?_cons_zero]; rfl) (fun K hK => ?_) AllReadyH.nil
        obtain ⟨A7, d7, q0, _, _, _, z0⟩ := hO.rd hlt
        have hO2 := hO.set hlt r3 r1 r2
        have hB2 := hB.setCell (p := ⟨g, 0 + i, none⟩) HG.out (.slice Ar (dl (u + v)) dr)
        rw [Nat.zero_add] at hO2 hB2 q0 z0
        go_simp
        replace y0 := cell_setCell_far (p := ⟨g, i, none⟩) (u := .slice Ar (dl (u + v)) dr) y0 hsg
        have HO2 := hid hO2
        have HB2 := hid hB2
        clear hO hB hO2 hB2 q0 z0
        refine hK.out _ _ y0 (fun hHeld => ?_)
        clear hK K
        try simp only [Act.put, List.setIfInBounds_toArray, List.set_cons_zero, List.set_cons_succ]
        refine wpAnyH_done (by kernel_rfl) ?_ _
        clear hHeld
        have HN := hid (HFIN.out _ _ HO2.out (by unfold updN; rw [if_pos rfl]; exact by unfold addP; rw [if_neg hia, if_pos hib, HU0.out, HV2.out]) fun k e => by unfold updN; rw [if_neg e]; exact HXo.out k e)
        clear HO2 y0
        go_wp2
        go_roundg (gk - 1)
        case measure => omega
        case rel => exact ⟨i + 1, by go_num, by omega, by omega, HN.out, HB2.out⟩
    · have hlt' : ¬ (i : Int) < (m : Int) := by omega
      obtain rfl : i = m := by omega
      have hO1 := hid (hO.congr (y' := addP a b p q) fun k hk => if_pos hk)
      clear hO
      obtain ⟨A9, c9, hv9, hc1, hc2, hT9⟩ := hO1.out.tab
      injection hv9 with hv9 _ hv8
      subst hv9 hv8
      go_wp2_with fail
      refine (poly_any (some ⟨g, 0, none⟩) i i (addP a b p q) w2 hT9 (by omega) fun k hk => by have := hs.out k; omega).mono ?_
      rintro e w3 ⟨v, rfl, hv, kb⟩
      have hB3 := onS hB kb
      have hv3 := hv.monoB hB.size
      have hsl := hid hv3
      obtain ⟨A8, c8, hv8⟩ := hv3.isSlice
      obtain ⟨d, hd⟩ : ∃ d, d = plen (addP a b p q) i := ⟨_, rfl⟩
      have HD := hid hd
      rw [← hd] at hv8 hsl
      subst hv8
      clear hv hv3 hT9 kb hB hd hc1 hc2
      go_wp2
      go_ret
      exact ⟨_, rfl, by rw [← HD.out]; exact hsl.out, hB3⟩
end Go.Proofs.Ytnocbkhnmdmfhaa
