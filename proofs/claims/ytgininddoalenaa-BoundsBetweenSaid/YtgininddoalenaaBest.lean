/- The law BoundsBest. -/
import Derived.Test.YtgininddoalenaaJohnsonLaw
import Derived.Test.YtgininddoalenaaElias
import Derived.Laws.EntriesVeiled
namespace Go.Proofs.Ytgininddoalenaa
open Go.RowKit

/-- The bounds, in the program's order, and the least of the first of them. -/
def bndV (q n d : Nat) : Nat → Option Nat
  | 0 => some (hamN q n d)
  | 1 => if q * d ≤ (q - 1) * n then none else some (plotN q n d)
  | 2 => some (eliBest q n d (eliEnd q n))
  | _ => if q = 2 then some (johA n d) else none
def minO (x : Nat) : Option Nat → Nat
  | none => x
  | some y => if y < x then y else x
def bndB (q n d : Nat) : Nat → Nat
  | 0 => q ^ (n - d + 1)
  | k + 1 => minO (bndB q n d k) (bndV q n d k)

/-- What a bound leaves. -/
def BndPost (v : Option Nat) (w : World) (e : Ending) (w' : World) : Prop :=
  (∃ x, v = some x ∧ SubPost x w e w') ∨ (v = none ∧ e = .returned (.tuple #[.slice none 0 0, .int .i64 11]) ∧ Below w.heap.size w w')

set_option maxHeartbeats 2000000 in
theorem binaryNo_any (q n d : Nat) (w : World) (hq : q ≠ 2) :
    Calls Try.prog 89 #[.int .i64 (q : Nat), .int .i64 (n : Nat), .int .i64 (d : Nat)] w fun e w' => e = .returned (.tuple #[.slice none 0 0, .int .i64 11]) ∧ Below w.heap.size w w' := by
  have hq' : ((q : Int) != 2) = true := by simp; omega
  clear hq
  go_enter Try.func89, Try.ntmps89
  go_wp2
  go_ret2
  exact ⟨rfl, Below.refl _ _⟩
set_option maxHeartbeats 2000000 in
theorem binaryOk_any (n d : Nat) (w : World) (h : rangeOk 2 (n : Int) (d : Int) = true) (hn : n ≤ 64) (hd1 : 1 ≤ d) (hd : d ≤ n) :
    Calls Try.prog 89 #[.int .i64 ((2 : Nat) : Int), .int .i64 (n : Nat), .int .i64 (d : Nat)] w (SubPost (johA n d) w) := by
  have H := hid h
  clear h
  go_enter Try.func89, Try.ntmps89
  go_wp2_with fail
  refine (johnsonOk_any n d w H.out hn hd1 hd).mono ?_
  rintro e w1 ⟨A, c, rfl, a1, a2, a3, a4⟩
  go_wp2
  go_ret2
  exact ⟨A, c, rfl, a1, a2, a3, a4⟩

/-- The functions of the bounds. -/
def bndF : Nat → Nat
  | 0 => 36
  | 1 => 42
  | 2 => 38
  | _ => 89
theorem bnd_any (q n d k : Nat) (w : World) (h : rangeOk (q : Int) (n : Int) (d : Int) = true) (hq : 2 ≤ q) (hq2 : q ≤ 256) (hn1 : 1 ≤ n) (hn : n ≤ 64) (hd1 : 1 ≤ d) (hd : d ≤ n) :
    Calls Try.prog (bndF k) #[.int .i64 (q : Nat), .int .i64 (n : Nat), .int .i64 (d : Nat)] w (BndPost (bndV q n d k) w) := by
  match k with
  | 0 => exact (hamOk_any q n d w h (by omega) hq2 hn hd1 hd).mono fun e w' hp => .inl ⟨_, rfl, hp⟩
  | 1 =>
    unfold bndV
    by_cases hp : q * d ≤ (q - 1) * n
    · rw [if_pos hp]
      exact (plotNo_any q n d w h hq hq2 hn hd hp).mono fun e w' ⟨he, hw⟩ => .inr ⟨rfl, he, by rw [← hw]; exact Below.refl _ _⟩
    · rw [if_neg hp]
      exact (plotOk_any q n d w h hq hq2 hn hd (by omega)).mono fun e w' hp => .inl ⟨_, rfl, hp⟩
  | 2 => exact (eliasOk_any q n d w h hq hq2 hn1 hn hd1 hd).mono fun e w' hp => .inl ⟨_, rfl, hp⟩
  | k + 3 =>
    show Calls Try.prog 89 _ _ (BndPost (if q = 2 then _ else _) w)
    by_cases h2 : q = 2
    · subst h2
      rw [if_pos rfl]
      exact (binaryOk_any n d w h hn hd1 hd).mono fun e w' hp => .inl ⟨_, rfl, hp⟩
    · rw [if_neg h2]
      exact (binaryNo_any q n d w h2).mono fun e w' ⟨he, hb⟩ => .inr ⟨rfl, he, hb⟩
theorem bndV_1 (q n d : Nat) : bndV q n d 1 = if q * d ≤ (q - 1) * n then none else some (plotN q n d) := rfl
theorem bndV_3 (q n d : Nat) : bndV q n d 3 = if q = 2 then some (johA n d) else none := rfl
theorem minO_some (x y : Nat) : minO x (some y) = min x y := by
  simp only [minO]
  split <;> omega
theorem minO_le (x : Nat) (v : Option Nat) : minO x v ≤ x := by
  cases v with
  | none => exact Nat.le_refl _
  | some y => simp only [minO]; split <;> omega
theorem bndB_le (q n d k : Nat) : bndB q n d k ≤ q ^ (n - d + 1) := by
  induction k with
  | zero => exact Nat.le_refl _
  | succ k ih => exact Nat.le_trans (minO_le _ _) ih

set_option maxRecDepth 100000 in
set_option maxHeartbeats 8000000 in
theorem bestOk_any (q n d : Nat) (w : World) (h : rangeOk (q : Int) (n : Int) (d : Int) = true) (hq : 2 ≤ q) (hq2 : q ≤ 256) (hn1 : 1 ≤ n) (hn : n ≤ 64) (hd1 : 1 ≤ d) (hd : d ≤ n) :
    Calls Try.prog 53 #[.int .i64 (q : Nat), .int .i64 (n : Nat), .int .i64 (d : Nat)] w (SubPost (bndB q n d 4) w) := by
  have H := hid h
  have HB := hid (fun k W => bnd_any q n d k W h hq hq2 hn1 hn hd1 hd)
  have hs := dl_sing (q := q) hq2 hn hd1 hd
  have hbl : ∀ k, dl (bndB q n d k) ≤ 65 := fun k => Nat.le_trans (dl_mono (bndB_le q n d k)) hs
  have HBL := hid hbl
  clear h hbl
  go_enter Try.func53, Try.ntmps53
  go_wp2_with fail
  refine (out_any q n d w).mono ?_
  rintro e w1 ⟨rfl, rfl⟩
  rw [H.out]
  go_wp2_with fail
  refine (singOk_any q n d w H.out hq2 hn hd1 hd).mono ?_
  rintro e w1 ⟨A, c, rfl, a1, a2, a3, a4⟩
  have hc : ∀ k, k < 4 → (w1.alloc (Obj.cells #[Value.func (Fn.func 36) #[] #[], Value.func (Fn.func 42) #[] #[], Value.func (Fn.func 38) #[] #[], Value.func (Fn.func 89) #[] #[]] 86)).cell? ⟨w1.heap.size, k, none⟩ = some (Value.func (Fn.func (bndF k)) #[] #[]) := fun k hk => by
    match k, hk with
    | 0, _ => exact World.cell?_alloc_at _ _ _ _ rfl
    | 1, _ => exact World.cell?_alloc_at _ _ _ _ rfl
    | 2, _ => exact World.cell?_alloc_at _ _ _ _ rfl
    | 3, _ => exact World.cell?_alloc_at _ _ _ _ rfl
  have HC0 := hid hc
  have hb0 := below_one w1 (Obj.cells #[Value.func (Fn.func 36) #[] #[], Value.func (Fn.func 42) #[] #[], Value.func (Fn.func 38) #[] #[], Value.func (Fn.func 89) #[] #[]] 86)
  have a5 := a3.on hb0
  have hB0 := onS a4 hb0
  obtain ⟨g, hg⟩ : ∃ g, g = w1.heap.size := ⟨_, rfl⟩
  have hgs : g < (w1.alloc (Obj.cells #[Value.func (Fn.func 36) #[] #[], Value.func (Fn.func 42) #[] #[], Value.func (Fn.func 38) #[] #[], Value.func (Fn.func 89) #[] #[]] 86)).heap.size := by simp; omega
  rw [← hg] at HC0
  clear hc hb0 a3 a4
  go_wp2
  rw [← hg]
  go_loopg [31, 8] 4 (fun gg iv bv wx => ∃ k : Nat, ∃ Ab cb, iv = .int .i64 (k : Nat) ∧ bv = .slice Ab (dl (bndB q n d k)) cb ∧ k ≤ 4 ∧ 4 ≤ k + gg ∧ dl (bndB q n d k) ≤ cb ∧ cb ≤ maxLen ∧ NatOk wx wx.heap.size Ab (bndB q n d k) ∧ g < wx.heap.size ∧ Hid (∀ k, k < 4 → wx.cell? ⟨g, k, none⟩ = some (Value.func (Fn.func (bndF k)) #[] #[])) ∧ Below w.heap.size w wx)
  case atStart => exact ⟨0, A, c, rfl, rfl, by omega, by omega, a1, a2, a5, by rw [hg] at hgs ⊢; exact hgs, HC0, hB0⟩
  case round =>
    clear a5 hB0 HC0 hgs hg
    obtain ⟨k, Ab, cb, rfl, rfl, hk, hkg, hcb, hcb2, hBk, hgx, HC, hB⟩ := hrel
    by_cases hlt : k < 4
    · have hcell := HC.out k hlt
      have HN : Hid (bndB q n d (k + 1) = minO (bndB q n d k) (bndV q n d k)) := rfl
      have HK := hid (HB.out k)
      have hd1' := HBL.out k
      have HNX := hid (show (k : Int) + 1 = ((k + 1 : Nat) : Int) from by omega)
      have hkI : (k : Int) < 4 := by omega
      have hk0 : (0 : Int) ≤ (k : Int) := by omega
      obtain ⟨F, hF⟩ : ∃ F, F = bndF k := ⟨_, rfl⟩
      rw [← hF] at hcell HK
      obtain ⟨V, hV⟩ : ∃ V, V = bndV q n d k := ⟨_, rfl⟩
      rw [← hV] at HN HK
      have hF4 : F = 36 ∨ F = 42 ∨ F = 38 ∨ F = 89 := by
        rw [hF]
        match k, hlt with
        | 0, _ => exact .inl rfl
        | 1, _ => exact .inr (.inl rfl)
        | 2, _ => exact .inr (.inr (.inl rfl))
        | 3, _ => exact .inr (.inr (.inr rfl))
      clear hF hV
      rcases hF4 with rfl | rfl | rfl | rfl
      all_goals
        go_wp2_with fail
        refine (HK.out _).mono ?_
        rintro e w4 (⟨x, hv, A4, c4, rfl, p1, p2, p3, p4⟩ | ⟨hv, rfl, p4⟩)
        · have hb4 := onS (below_one wr _) p4
          have hBk4 := hBk.on hb4
          have hB4 := onS hB hb4
          have HC4 : Hid (∀ k, k < 4 → w4.cell? ⟨g, k, none⟩ = some (Value.func (Fn.func (bndF k)) #[] #[])) := fun k hk => (hb4.cell (p := ⟨g, k, none⟩) hgx).trans (HC.out k hk)
          have hg4 : g < w4.heap.size := by have := hb4.size; omega
          have HV := hid hv
          clear hBk hB HC hgx p4 hb4 hv
          go_wp2_with fail
          refine (natCmp_any A4 Ab c4 cb x (bndB q n d k) w4 p3 hBk4 p1 p2 hcb hcb2 (by omega)).mono ?_
          rintro e w5 ⟨rfl, hb5⟩
          have p5 := p3.on hb5
          have hBk5 := hBk4.on hb5
          have hB5 := onS hB4 hb5
          have HC5 : Hid (∀ k, k < 4 → w5.cell? ⟨g, k, none⟩ = some (Value.func (Fn.func (bndF k)) #[] #[])) := fun k hk => (hb5.cell (p := ⟨g, k, none⟩) hg4).trans (HC4.out k hk)
          have hg5 : g < w5.heap.size := by have := hb5.size; omega
          clear hBk4 hB4 HC4 hg4 p3 hb5
          by_cases hless : x < bndB q n d k
          · have hcm : cmpN x (bndB q n d k) < 0 := by rw [cmpN_lt hless]; omega
            have HM : Hid (bndB q n d (k + 1) = x) := by show _ = _; rw [HN.out, HV.out]; simp only [minO]; rw [if_pos hless]
            obtain ⟨z, hz⟩ : ∃ z, z = cmpN x (bndB q n d k) := ⟨_, rfl⟩
            rw [← hz] at hcm ⊢
            clear hz hless
            go_wp2
            go_roundg (gk - 1)
            case measure => omega
            case rel => exact ⟨k + 1, A4, c4, by go_num, by rw [HM.out], by omega, by omega, by rw [HM.out]; exact p1, p2, by rw [HM.out]; exact p5, hg5, HC5, hB5⟩
          · have hcm : ¬ cmpN x (bndB q n d k) < 0 := by
              rcases Nat.lt_or_ge (bndB q n d k) x with e | e
              · rw [cmpN_gt e]; omega
              · rw [cmpN_eq (by omega)]; omega
            have HM : Hid (bndB q n d (k + 1) = bndB q n d k) := by show _ = _; rw [HN.out, HV.out]; simp only [minO]; rw [if_neg hless]
            obtain ⟨z, hz⟩ : ∃ z, z = cmpN x (bndB q n d k) := ⟨_, rfl⟩
            rw [← hz] at hcm ⊢
            clear hz hless
            go_wp2
            go_roundg (gk - 1)
            case measure => omega
            case rel => exact ⟨k + 1, Ab, cb, by go_num, by rw [HM.out], by omega, by omega, by rw [HM.out]; exact hcb, hcb2, by rw [HM.out]; exact hBk5, hg5, HC5, hB5⟩
        · have hb4 := onS (below_one wr _) p4
          have hBk4 := hBk.on hb4
          have hB4 := onS hB hb4
          have HC4 : Hid (∀ k, k < 4 → w4.cell? ⟨g, k, none⟩ = some (Value.func (Fn.func (bndF k)) #[] #[])) := fun k hk => (hb4.cell (p := ⟨g, k, none⟩) hgx).trans (HC.out k hk)
          have hg4 : g < w4.heap.size := by have := hb4.size; omega
          have HM : Hid (bndB q n d (k + 1) = bndB q n d k) := by show _ = _; rw [HN.out, hv]; rfl
          clear hBk hB HC hgx p4 hb4 hv
          go_wp2
          go_roundg (gk - 1)
          case measure => omega
          case rel => exact ⟨k + 1, Ab, cb, by go_num, by rw [HM.out], by omega, by omega, by rw [HM.out]; exact hcb, hcb2, by rw [HM.out]; exact hBk4, hg4, HC4, hB4⟩
    · obtain rfl : k = 4 := by omega
      go_wp2
      go_ret2
      exact ⟨Ab, cb, rfl, hcb, hcb2, hBk, hB⟩

set_option maxHeartbeats 2000000 in
theorem least_any (A A2 : Option Addr) (c c2 x y : Nat) (w : World) (h : NatOk w w.heap.size A x) (h2 : NatOk w w.heap.size A2 y) (hc : dl x ≤ c) (hm : c ≤ maxLen) (hc2 : dl y ≤ c2) (hm2 : c2 ≤ maxLen) (hn : dl x ≤ 1073741824) (hn2 : dl y ≤ 1073741824) :
    Calls Try.prog 90 #[.slice A (dl x) c, .slice A2 (dl y) c2] w (NatPost (minO x (some y)) w) := by
  by_cases hless : y < x
  · have hcm : cmpN y x < 0 := by rw [cmpN_lt hless]; omega
    have HM : Hid (minO x (some y) = y) := by show _ = _; simp only [minO]; rw [if_pos hless]
    obtain ⟨z, hz⟩ : ∃ z, z = cmpN y x := ⟨_, rfl⟩
    have HZ := hid hz
    rw [← hz] at hcm
    clear hz hless
    go_enter Try.func90, Try.ntmps90
    go_wp2_with fail
    refine (refCmp_any A2 A c2 c y x w h2 h (by omega) (by omega)).mono ?_
    rintro e w1 ⟨rfl, rfl⟩
    rw [← HZ.out]
    go_wp2
    go_ret
    rw [HM.out]
    exact ⟨A2, c2, rfl, hc2, hm2, h2, Below.refl _ _⟩
  · have hcm : ¬ cmpN y x < 0 := by
      rcases Nat.lt_or_ge x y with e | e
      · rw [cmpN_gt e]; omega
      · rw [cmpN_eq (by omega)]; omega
    have HM : Hid (minO x (some y) = x) := by show _ = _; simp only [minO]; rw [if_neg hless]
    obtain ⟨z, hz⟩ : ∃ z, z = cmpN y x := ⟨_, rfl⟩
    have HZ := hid hz
    rw [← hz] at hcm
    clear hz hless
    go_enter Try.func90, Try.ntmps90
    go_wp2_with fail
    refine (refCmp_any A2 A c2 c y x w h2 h (by omega) (by omega)).mono ?_
    rintro e w1 ⟨rfl, rfl⟩
    rw [← HZ.out]
    go_wp2
    go_ret
    rw [HM.out]
    exact ⟨A, c, rfl, hc, hm, h, Below.refl _ _⟩

/-- The reference's order. -/
theorem bnd_order (q n d : Nat) : minO (minO (minO (minO (q ^ (n - d + 1)) (some (hamN q n d))) (some (eliBest q n d (eliEnd q n)))) (bndV q n d 1)) (bndV q n d 3) = bndB q n d 4 := by
  simp only [bndB]
  have h0 : bndV q n d 0 = some (hamN q n d) := rfl
  have h2 : bndV q n d 2 = some (eliBest q n d (eliEnd q n)) := rfl
  rw [h0, h2]
  congr 1
  generalize minO (q ^ (n - d + 1)) (some (hamN q n d)) = a
  generalize eliBest q n d (eliEnd q n) = b
  cases bndV q n d 1 with
  | none => rfl
  | some p =>
    simp only [minO_some]
    omega

set_option maxRecDepth 100000 in
set_option maxHeartbeats 8000000 in
theorem refBest_any (q n d : Nat) (w : World) (hq : 2 ≤ q) (hq2 : q ≤ 256) (hn : n ≤ 64) (hd1 : 1 ≤ d) (hd : d ≤ n) :
    Calls Try.prog 54 #[.int .i64 (q : Nat), .int .i64 (n : Nat), .int .i64 (d : Nat)] w (NatPost (bndB q n d 4) w) := by
  have hs := dl_sing (q := q) hq2 hn hd1 hd
  have hh := dl_ham (q := q) (n := n) (d := d) hq2 hn
  have he := dl_eli (q := q) (n := n) (d := d) (k := eliEnd q n) hq2 hn
  have hp := dl_plot hq hq2 hn hd
  have hj := dl_johA hn hd hd1
  have hm : ∀ x v, dl x ≤ 65 → dl (minO x v) ≤ 65 := fun x v h => Nat.le_trans (dl_mono (minO_le x v)) h
  have HO := hid (bnd_order q n d)
  obtain ⟨x1, hx1⟩ : ∃ x, x = minO (q ^ (n - d + 1)) (some (hamN q n d)) := ⟨_, rfl⟩
  have d1 : dl x1 ≤ 65 := by rw [hx1]; exact hm _ _ hs
  obtain ⟨x2, hx2⟩ : ∃ x, x = minO x1 (some (eliBest q n d (eliEnd q n))) := ⟨_, rfl⟩
  have d2 : dl x2 ≤ 65 := by rw [hx2]; exact hm _ _ d1
  obtain ⟨x3, hx3⟩ : ∃ x, x = minO x2 (bndV q n d 1) := ⟨_, rfl⟩
  have d3 : dl x3 ≤ 65 := by rw [hx3]; exact hm _ _ d2
  have HO2 : Hid (minO x3 (bndV q n d 3) = bndB q n d 4) := by show _ = _; rw [hx3, hx2, hx1]; exact HO.out
  have HX1 := hid hx1
  have HX2 := hid hx2
  have HX3 := hid hx3
  have HP : Hid (q * d ≤ (q - 1) * n ∨ (q - 1) * n < q * d) := by show _ ∨ _; omega
  have HQ : Hid (q = 2 ∨ q ≠ 2) := by show _ ∨ _; omega
  clear hm hx1 hx2 hx3
  go_enter Try.func54, Try.ntmps54
  go_wp2_with fail
  refine (refSing_any q n d w hq2 hn hd1 hd).mono ?_
  rintro e w1 ⟨A, c, rfl, a1, a2, a3, a4⟩
  go_wp2_with fail
  refine (refHam_any q n d w1 (by omega) hq2 hn hd1 hd).mono ?_
  rintro e w2 ⟨A2, c2, rfl, b1, b2, b3, b4⟩
  have a5 := a3.on b4
  have hB2 := onS a4 b4
  clear a3 a4 b4
  go_wp2_with fail
  refine (least_any A A2 c c2 _ _ w2 a5 b3 a1 a2 b1 b2 (by omega) (by omega)).mono ?_
  rintro e w3 ⟨A3, c3, rfl, k1, k2, k3, k4⟩
  rw [← HX1.out] at k1 k3 ⊢
  have hB3 := onS hB2 k4
  clear a5 b3 hB2 k4
  go_wp2_with fail
  refine (refElias_any q n d w3 hq hq2 hn hd).mono ?_
  rintro e w4 ⟨A4, c4, rfl, f1, f2, f3, f4⟩
  have k5 := k3.on f4
  have hB4 := onS hB3 f4
  clear k3 hB3 f4
  go_wp2_with fail
  refine (least_any A3 A4 c3 c4 _ _ w4 k5 f3 k1 k2 f1 f2 (by omega) (by omega)).mono ?_
  rintro e w5 ⟨A5, c5, rfl, g1, g2, g3, g4⟩
  rw [← HX2.out] at g1 g3 ⊢
  have hB5 := onS hB4 g4
  clear k5 f3 hB4 g4
  rcases HP.out with hno | hyes
  · have HN := hid hno
    have HV : Hid (x3 = x2) := by show _ = _; rw [HX3.out, bndV_1, if_pos hno]; rfl
    clear hno
    go_wp2_with fail
    refine (refPlotNo_any q n d w5 hq hq2 hn hd HN.out).mono ?_
    rintro e w6 ⟨rfl, rfl⟩
    rcases HQ.out with h2 | h2
    · have hq' : ((q : Int) == 2) = true := by simp; omega
      have HV3 : Hid (bndB q n d 4 = minO x2 (some (johA n d))) := by show _ = _; rw [← HO2.out, HV.out]; rw [bndV_3, if_pos h2]
      clear h2
      go_wp2_with fail
      refine (refJohnson_any n d w5 hn hd1 hd).mono ?_
      rintro e w7 ⟨A7, c7, rfl, j1, j2, j3, j4⟩
      have g5 := g3.on j4
      have hB7 := onS hB5 j4
      clear g3 hB5 j4
      go_wp2_with fail
      refine (least_any A5 A7 c5 c7 _ _ w7 g5 j3 g1 g2 j1 j2 (by omega) (by omega)).mono ?_
      rintro e w8 ⟨A8, c8, rfl, r1, r2, r3, r4⟩
      have hB8 := onS hB7 r4
      clear g5 j3 hB7 r4
      go_wp2
      go_ret
      rw [HV3.out]
      exact ⟨A8, c8, rfl, r1, r2, r3, hB8⟩
    · have hq' : ((q : Int) == 2) = false := by simp; omega
      have HV3 : Hid (bndB q n d 4 = x2) := by show _ = _; rw [← HO2.out, HV.out]; rw [bndV_3, if_neg h2]; rfl
      clear h2
      go_wp2
      go_ret
      rw [HV3.out]
      exact ⟨A5, c5, rfl, g1, g2, g3, hB5⟩
  · have HN := hid hyes
    have HV : Hid (x3 = minO x2 (some (plotN q n d))) := by show _ = _; rw [HX3.out, bndV_1, if_neg (by omega)]
    clear hyes
    go_wp2_with fail
    refine (refPlotOk_any q n d w5 hq hq2 hn hd HN.out).mono ?_
    rintro e w6 ⟨A6, c6, rfl, p1, p2, p3, p4⟩
    have g5 := g3.on p4
    have hB6 := onS hB5 p4
    clear g3 hB5 p4
    go_wp2_with fail
    refine (least_any A5 A6 c5 c6 _ _ w6 g5 p3 g1 g2 p1 p2 (by omega) (by omega)).mono ?_
    rintro e w7 ⟨A7, c7, rfl, r1, r2, r3, r4⟩
    rw [← HV.out] at r1 r3 ⊢
    have hB7 := onS hB6 r4
    clear g5 p3 hB6 r4
    rcases HQ.out with h2 | h2
    · have hq' : ((q : Int) == 2) = true := by simp; omega
      have HV3 : Hid (bndB q n d 4 = minO x3 (some (johA n d))) := by show _ = _; rw [← HO2.out]; rw [bndV_3, if_pos h2]
      clear h2
      go_wp2_with fail
      refine (refJohnson_any n d w7 hn hd1 hd).mono ?_
      rintro e w8 ⟨A8, c8, rfl, j1, j2, j3, j4⟩
      have r5 := r3.on j4
      have hB8 := onS hB7 j4
      clear r3 hB7 j4
      go_wp2_with fail
      refine (least_any A7 A8 c7 c8 _ _ w8 r5 j3 r1 r2 j1 j2 (by omega) (by omega)).mono ?_
      rintro e w9 ⟨A9, c9, rfl, s1, s2, s3, s4⟩
      have hB9 := onS hB8 s4
      clear r5 j3 hB8 s4
      go_wp2
      go_ret
      rw [HV3.out]
      exact ⟨A9, c9, rfl, s1, s2, s3, hB9⟩
    · have hq' : ((q : Int) == 2) = false := by simp; omega
      have HV3 : Hid (bndB q n d 4 = x3) := by show _ = _; rw [← HO2.out]; rw [bndV_3, if_neg h2]; rfl
      clear h2
      go_wp2
      go_ret
      rw [HV3.out]
      exact ⟨A7, c7, rfl, r1, r2, r3, hB7⟩

set_option maxHeartbeats 2000000 in
theorem bestErr_any (q n d : Int) (w : World) (h : rangeOk q n d = false) :
    Calls Try.prog 53 #[.int .i64 q, .int .i64 n, .int .i64 d] w fun e w' => e = .returned (.tuple #[.slice none 0 0, .int .i64 6]) ∧ w = w' := by
  have H := hid h
  clear h
  go_enter Try.func53, Try.ntmps53
  go_wp2_with fail
  refine (out_any q n d w).mono ?_
  rintro e w1 ⟨rfl, rfl⟩
  rw [H.out]
  go_wp2
  go_ret2
  exact ⟨rfl, rfl⟩

set_option maxHeartbeats 4000000 in
theorem boundsBest_law {q n d : Int} {w : World} (_h1 : (Lit.int .i64 q).wf = true) (_h2 : (Lit.int .i64 n).wf = true) (_h3 : (Lit.int .i64 d).wf = true) :
    Calls Try.prog 14 #[.int .i64 q, .int .i64 n, .int .i64 d] w fun e w' => e = .returned (.bool true) ∧ Below w.heap.size w w' := by
  clear _h1 _h2 _h3
  cases hv : rangeOk q n d
  · have HV := hid hv
    clear hv
    go_enter Try.func14, Try.ntmps14
    go_wp2_with fail
    refine (bestErr_any q n d w HV.out).mono ?_
    rintro e w1 ⟨rfl, rfl⟩
    go_wp2_with fail
    refine (range_any q n d w).mono ?_
    rintro e w1 ⟨rfl, rfl⟩
    rw [HV.out]
    go_wp2
    go_ret
    exact ⟨rfl, Below.refl _ _⟩
  · have HV := hid hv
    obtain ⟨q, n, d, rfl, rfl, rfl, h1, h2, h3, h4, h5, h6⟩ := range_parts hv
    have hdl : dl (bndB q n d 4) ≤ 65 := Nat.le_trans (dl_mono (bndB_le q n d 4)) (dl_sing h2 h4 h5 h6)
    clear hv
    go_enter Try.func14, Try.ntmps14
    go_wp2_with fail
    refine (bestOk_any q n d w HV.out h1 h2 h3 h4 h5 h6).mono ?_
    rintro e w1 ⟨A, c, rfl, a1, a2, a3, a4⟩
    go_wp2_with fail
    refine (range_any q n d w1).mono ?_
    rintro e w2 ⟨rfl, rfl⟩
    rw [HV.out]
    go_wp2_with fail
    refine (refBest_any q n d w1 h1 h2 h4 h5 h6).mono ?_
    rintro e w2 ⟨B, cb, rfl, b1, b2, b3, b4⟩
    have a5 := a3.on b4
    have hB2 := onS a4 b4
    clear a3 a4 b4
    go_wp2_with fail
    refine (is_any A B c cb _ 0 w2 a5 b3 (by omega)).mono ?_
    rintro e w3 ⟨rfl, hb3⟩
    have hB3 := onS hB2 hb3
    clear a5 b3 hB2 hb3
    go_wp2
    go_ret
    exact ⟨rfl, hB3⟩
end Go.Proofs.Ytgininddoalenaa
