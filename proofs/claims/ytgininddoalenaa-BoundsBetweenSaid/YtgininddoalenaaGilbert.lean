/- bounds.Gilbert and codewrightref34.Gilbert. -/
import Derived.Test.YtgininddoalenaaNatB
import Derived.Test.YtgininddoalenaaVolumeK
import Derived.Test.YtgininddoalenaaOpen
namespace Go.Proofs.Ytgininddoalenaa
open Go.RowKit

/-- k is the greatest with b < q^(n-k), or 0. -/
def GilK (q n b k : Nat) : Prop := k ≤ n ∧ (k = 0 ∨ b < q ^ (n - k)) ∧ ∀ k', k < k' → k' ≤ n → q ^ (n - k') ≤ b
theorem gil_uniq {q n b k k' : Nat} (h : GilK q n b k) (h' : GilK q n b k') : k = k' := by
  obtain ⟨a1, a2, a3⟩ := h
  obtain ⟨b1, b2, b3⟩ := h'
  rcases Nat.lt_trichotomy k k' with e | e | e
  · have := a3 k' e b1
    rcases b2 with e2 | e2 <;> omega
  · exact e
  · have := b3 k e a1
    rcases a2 with e2 | e2 <;> omega

set_option maxHeartbeats 4000000 in
theorem gilbertOk_any (q n d : Nat) (w : World) (hout : Calls Try.prog 74 #[.int .i64 (q : Nat), .int .i64 (n : Nat), .int .i64 (d : Nat)] w fun e w' => e = .returned (.bool false) ∧ w = w') (hq : 2 ≤ q) (hq2 : q ≤ 256) (hn1 : 1 ≤ n) (hn : n ≤ 64) (hd1 : 1 ≤ d) (hd : d ≤ n) :
    Calls Try.prog 33 #[.int .i64 (q : Nat), .int .i64 (n : Nat), .int .i64 (d : Nat)] w fun e w' => (∃ k : Nat, e = .returned (.tuple #[.int .i64 (k : Nat), .int .i64 0]) ∧ GilK q n (vol q (n - 1) (d - 1)) k) ∧ Below w.heap.size w w' := by
  have HO := hid hout
  have e1 : ((n : Int) - 1) = ((n - 1 : Nat) : Int) := by omega
  have e2 : ((d : Int) - 2) = (((d - 1 : Nat) : Int) - 1) := by omega
  have E1 := hid e1
  have E2 := hid e2
  have hdv := dl_vol (q := q) (n := n - 1) (k := d - 1) (by omega) (by omega) (by omega)
  clear hout e1 e2
  go_enter Try.func33, Try.ntmps33
  go_wp2_with fail
  refine HO.out.mono ?_
  rintro e w1 ⟨rfl, rfl⟩
  go_wp2_with fail
  rw [E1.out, E2.out]
  refine (volumeK_any q (n - 1) (d - 1) w (by omega) hq2 (by omega) (by omega)).mono ?_
  rintro e w1 ⟨A, c, rfl, h1, h2, h3, h4⟩
  go_wp2
  go_loopg [9] n (fun gg kv wx => ∃ k : Nat, kv = .int .i64 (k : Nat) ∧ k ≤ n ∧ k ≤ gg ∧ Hid (∀ k', k < k' → k' ≤ n → q ^ (n - k') ≤ vol q (n - 1) (d - 1)) ∧ NatOk wx wx.heap.size A (vol q (n - 1) (d - 1)) ∧ Below w.heap.size w wx)
  case atStart => exact ⟨n, rfl, by omega, by omega, hid fun k' a b => absurd a (by omega), h3, h4⟩
  case round =>
    clear h3 h4
    obtain ⟨k, rfl, hk, hkg, HK, hA, hB⟩ := hrel
    by_cases h0 : 0 < k
    · have h0' : (0 : Int) < (k : Int) := by omega
      have E3 := hid (show ((n : Int) - (k : Int)) = ((n - k : Nat) : Int) by omega)
      have hdp := dl_power (q := q) (n := n - k) (by omega) (by omega)
      go_wp2_with fail
      rw [E3.out]
      refine (power_any q (n - k) wr (by omega) (by omega)).mono ?_
      rintro e w2 ⟨A2, c2, rfl, g1, g2, g3, g4⟩
      have hA2 := hA.on g4
      have hB2 := onS hB g4
      clear hA hB g4
      go_wp2_with fail
      refine (natCmp_any A2 A c2 c (q ^ (n - k)) (vol q (n - 1) (d - 1)) w2 g3 hA2 g1 g2 h1 h2 (by omega)).mono ?_
      rintro e w3 ⟨rfl, hb3⟩
      have hA3 := hA2.on hb3
      have hB3 := onS hB2 hb3
      clear hA2 hB2 hb3 g3
      by_cases hle : q ^ (n - k) ≤ vol q (n - 1) (d - 1)
      · have hc : cmpN (q ^ (n - k)) (vol q (n - 1) (d - 1)) ≤ 0 := by
          rcases Nat.lt_or_ge (q ^ (n - k)) (vol q (n - 1) (d - 1)) with e | e
          · rw [cmpN_lt e]; omega
          · rw [cmpN_eq (by omega)]; omega
        have HN : Hid (∀ k', k - 1 < k' → k' ≤ n → q ^ (n - k') ≤ vol q (n - 1) (d - 1)) := fun k' a b => by
          by_cases e : k' = k
          · rw [e]; exact hle
          · exact HK.out k' (by omega) b
        obtain ⟨z, hz⟩ : ∃ z, z = cmpN (q ^ (n - k)) (vol q (n - 1) (d - 1)) := ⟨_, rfl⟩
        rw [← hz] at hc ⊢
        clear hz hle
        go_wp2
        go_roundg (gk - 1)
        case measure => omega
        case rel => exact ⟨k - 1, by rw [show ((k - 1 : Nat) : Int) = (k : Int) - 1 by omega], by omega, by omega, HN, hA3, hB3⟩
      · have HG := hid (show vol q (n - 1) (d - 1) < q ^ (n - k) by omega)
        have hc : ¬ cmpN (q ^ (n - k)) (vol q (n - 1) (d - 1)) ≤ 0 := by rw [cmpN_gt HG.out]; omega
        obtain ⟨z, hz⟩ : ∃ z, z = cmpN (q ^ (n - k)) (vol q (n - 1) (d - 1)) := ⟨_, rfl⟩
        rw [← hz] at hc ⊢
        clear hz hle
        go_wp2
        go_ret2
        exact ⟨⟨k, rfl, hk, .inr HG.out, HK.out⟩, hB3⟩
    · obtain rfl : k = 0 := by omega
      go_wp2
      go_ret2
      exact ⟨⟨0, rfl, by omega, .inl rfl, HK.out⟩, hB⟩

set_option maxHeartbeats 4000000 in
theorem refGilbert_any (q n d : Nat) (w : World) (hq : 2 ≤ q) (hq2 : q ≤ 256) (hn1 : 1 ≤ n) (hn : n ≤ 64) (hd1 : 1 ≤ d) (hd : d ≤ n) :
    Calls Try.prog 35 #[.int .i64 (q : Nat), .int .i64 (n : Nat), .int .i64 (d : Nat)] w fun e w' => (∃ k : Nat, e = .returned (.int .i64 (k : Nat)) ∧ GilK q n (vol q (n - 1) (d - 1)) k) ∧ Below w.heap.size w w' := by
  have E1 := hid (show ((n : Int) - 1) = ((n - 1 : Nat) : Int) by omega)
  have E2 := hid (show ((d : Int) - 2) = (((d - 1 : Nat) : Int) - 1) by omega)
  have hdv := dl_vol (q := q) (n := n - 1) (k := d - 1) (by omega) (by omega) (by omega)
  go_enter Try.func35, Try.ntmps35
  go_wp2
  go_loopg [8, 7] (n + 1) (fun gg kv bv wx => ∃ k best : Nat, kv = .int .i64 (k : Nat) ∧ bv = .int .i64 (best : Nat) ∧ k ≤ n + 1 ∧ n + 1 ≤ k + gg ∧ best ≤ n ∧ Hid ((best = 0 ∨ vol q (n - 1) (d - 1) < q ^ (n - best)) ∧ ∀ k', k' < k → best < k' → q ^ (n - k') ≤ vol q (n - 1) (d - 1)) ∧ Below w.heap.size w wx)
  case atStart => exact ⟨0, 0, rfl, rfl, by omega, by omega, by omega, hid ⟨.inl rfl, fun k' a b => absurd a (by omega)⟩, Below.refl _ _⟩
  case round =>
    obtain ⟨k, best, rfl, rfl, hk, hkg, hbn, HK, hB⟩ := hrel
    by_cases hlt : k ≤ n
    · have E3 := hid (show ((n : Int) - (k : Int)) = ((n - k : Nat) : Int) by omega)
      have hdp := dl_power (q := q) (n := n - k) (by omega) (by omega)
      go_wp2_with fail
      rw [E1.out, E2.out]
      refine (refVolumeK_any q (n - 1) (d - 1) wr (by omega) hq2 (by omega) (by omega)).mono ?_
      rintro e w1 ⟨A, c, rfl, h1, h2, h3, h4⟩
      have hB1 := onS hB h4
      clear hB h4
      go_wp2_with fail
      rw [E3.out]
      refine (refPow34_any q (n - k) w1 (by omega) (by omega)).mono ?_
      rintro e w2 ⟨A2, c2, rfl, g1, g2, g3, g4⟩
      have hA2 := h3.on g4
      have hB2 := onS hB1 g4
      clear hB1 g4 h3
      go_wp2_with fail
      refine (refCmp_any A A2 c c2 (vol q (n - 1) (d - 1)) (q ^ (n - k)) w2 hA2 g3 (by omega) (by omega)).mono ?_
      rintro e w3 ⟨rfl, rfl⟩
      clear hA2 g3
      by_cases hle : q ^ (n - k) ≤ vol q (n - 1) (d - 1)
      · have hc : ¬ cmpN (vol q (n - 1) (d - 1)) (q ^ (n - k)) < 0 := by
          rcases Nat.lt_or_ge (q ^ (n - k)) (vol q (n - 1) (d - 1)) with e | e
          · rw [cmpN_gt e]; omega
          · rw [cmpN_eq (by omega)]; omega
        have HN : Hid ((best = 0 ∨ vol q (n - 1) (d - 1) < q ^ (n - best)) ∧ ∀ k', k' < k + 1 → best < k' → q ^ (n - k') ≤ vol q (n - 1) (d - 1)) := ⟨HK.out.1, fun k' a b => by
          by_cases e : k' = k
          · rw [e]; exact hle
          · exact HK.out.2 k' (by omega) b⟩
        obtain ⟨z, hz⟩ : ∃ z, z = cmpN (vol q (n - 1) (d - 1)) (q ^ (n - k)) := ⟨_, rfl⟩
        rw [← hz] at hc ⊢
        clear hz hle
        go_wp2
        go_roundg (gk - 1)
        case measure => omega
        case rel => exact ⟨k + 1, best, by go_num, rfl, by omega, by omega, hbn, HN, hB2⟩
      · have hc : cmpN (vol q (n - 1) (d - 1)) (q ^ (n - k)) < 0 := by rw [cmpN_lt (by omega)]; omega
        have HN : Hid ((k = 0 ∨ vol q (n - 1) (d - 1) < q ^ (n - k)) ∧ ∀ k', k' < k + 1 → k < k' → q ^ (n - k') ≤ vol q (n - 1) (d - 1)) := ⟨.inr (by omega), fun k' a b => by omega⟩
        obtain ⟨z, hz⟩ : ∃ z, z = cmpN (vol q (n - 1) (d - 1)) (q ^ (n - k)) := ⟨_, rfl⟩
        rw [← hz] at hc ⊢
        clear hz hle
        go_wp2
        go_roundg (gk - 1)
        case measure => omega
        case rel => exact ⟨k + 1, k, by go_num, rfl, by omega, by omega, hlt, HN, hB2⟩
    · obtain rfl : k = n + 1 := by omega
      have HG : Hid (GilK q n (vol q (n - 1) (d - 1)) best) := ⟨hbn, HK.out.1, fun k' a b => HK.out.2 k' (by omega) a⟩
      go_wp2
      go_ret
      exact ⟨⟨best, rfl, HG.out⟩, hB⟩

def rangeOk (q n d : Int) : Bool := decide (2 ≤ q ∧ q ≤ 256 ∧ 1 ≤ n ∧ n ≤ 64 ∧ 1 ≤ d ∧ d ≤ n)

set_option maxHeartbeats 2000000 in
theorem range_any (q n d : Int) (w : World) :
    Calls Try.prog 34 #[.int .i64 q, .int .i64 n, .int .i64 d] w fun e w' => e = .returned (.bool (rangeOk q n d)) ∧ w = w' := by
  have HT : Hid (∀ b : Bool, (b = true ↔ (2 ≤ q ∧ q ≤ 256 ∧ 1 ≤ n ∧ n ≤ 64 ∧ 1 ≤ d ∧ d ≤ n)) → Ending.returned (Value.bool b) = .returned (.bool (rangeOk q n d))) := fun b hb => by
    unfold rangeOk
    rw [Bool.eq_iff_iff.2 (hb.trans (decide_eq_true_iff).symm)]
  go_enter Try.func34, Try.ntmps34
  go_wp2
  all_goals
    go_ret
    refine ⟨HT.out _ ?_, rfl⟩
    simp
    try omega

set_option maxHeartbeats 2000000 in
theorem out_any (q n d : Int) (w : World) :
    Calls Try.prog 74 #[.int .i64 q, .int .i64 n, .int .i64 d] w fun e w' => e = .returned (.bool (!rangeOk q n d)) ∧ w = w' := by
  have HT : Hid (∀ b : Bool, (b = true ↔ ¬ (2 ≤ q ∧ q ≤ 256 ∧ 1 ≤ n ∧ n ≤ 64 ∧ 1 ≤ d ∧ d ≤ n)) → Ending.returned (Value.bool b) = .returned (.bool (!rangeOk q n d))) := fun b hb => by
    have : b = !rangeOk q n d := by
      rw [Bool.eq_iff_iff, hb]
      simp [rangeOk]
      omega
    rw [this]
  go_enter Try.func74, Try.ntmps74
  go_wp2
  all_goals
    go_ret
    refine ⟨HT.out _ ?_, rfl⟩
    simp
    try omega

set_option maxHeartbeats 2000000 in
theorem gilbertErr_any (q n d : Int) (w : World) (h : rangeOk q n d = false) :
    Calls Try.prog 33 #[.int .i64 q, .int .i64 n, .int .i64 d] w fun e w' => e = .returned (.tuple #[.int .i64 0, .int .i64 6]) ∧ w = w' := by
  have H := hid h
  clear h
  go_enter Try.func33, Try.ntmps33
  go_wp2_with fail
  refine (out_any q n d w).mono ?_
  rintro e w1 ⟨rfl, rfl⟩
  rw [H.out]
  go_wp2
  go_ret2
  exact ⟨rfl, rfl⟩

set_option maxHeartbeats 4000000 in
theorem boundsGilbert_law {q n d : Int} {w : World} (_h1 : (Lit.int .i64 q).wf = true) (_h2 : (Lit.int .i64 n).wf = true) (_h3 : (Lit.int .i64 d).wf = true) :
    Calls Try.prog 7 #[.int .i64 q, .int .i64 n, .int .i64 d] w fun e w' => e = .returned (.bool true) ∧ Below w.heap.size w w' := by
  clear _h1 _h2 _h3
  cases hv : rangeOk q n d
  · have HV := hid hv
    clear hv
    go_enter Try.func7, Try.ntmps7
    go_wp2_with fail
    refine (gilbertErr_any q n d w HV.out).mono ?_
    rintro e w1 ⟨rfl, rfl⟩
    go_wp2_with fail
    refine (range_any q n d w).mono ?_
    rintro e w1 ⟨rfl, rfl⟩
    rw [HV.out]
    go_wp2
    go_ret
    exact ⟨rfl, Below.refl _ _⟩
  · have HV := hid hv
    have hr : 2 ≤ q ∧ q ≤ 256 ∧ 1 ≤ n ∧ n ≤ 64 ∧ 1 ≤ d ∧ d ≤ n := by simpa [rangeOk] using hv
    obtain ⟨q, rfl⟩ := Int.eq_ofNat_of_zero_le (show 0 ≤ q by omega)
    obtain ⟨n, rfl⟩ := Int.eq_ofNat_of_zero_le (show 0 ≤ n by omega)
    obtain ⟨d, rfl⟩ := Int.eq_ofNat_of_zero_le (show 0 ≤ d by omega)
    obtain ⟨h1, h2, h3, h4, h5, h6⟩ := hr
    have HO := hid (out_any (q : Nat) (n : Nat) (d : Nat) w)
    clear hv
    go_enter Try.func7, Try.ntmps7
    go_wp2_with fail
    refine (gilbertOk_any q n d w (by have := HO.out; rw [HV.out] at this; exact this) (by omega) (by omega) (by omega) (by omega) (by omega) (by omega)).mono ?_
    rintro e w1 ⟨⟨k, rfl, hk⟩, hb⟩
    have HK := hid hk
    clear hk
    go_wp2_with fail
    refine (range_any q n d w1).mono ?_
    rintro e w2 ⟨rfl, rfl⟩
    rw [HV.out]
    go_wp2_with fail
    refine (refGilbert_any q n d w1 (by omega) (by omega) (by omega) (by omega) (by omega) (by omega)).mono ?_
    rintro e w2 ⟨⟨k', rfl, hk'⟩, hb2⟩
    obtain rfl := gil_uniq HK.out hk'
    have hB := onS hb hb2
    clear hk' hb hb2
    go_wp2
    go_ret
    exact ⟨rfl, hB⟩
end Go.Proofs.Ytgininddoalenaa
