/- nat.Cmp and codewrightref01.Cmp. -/
import Derived.Test.YtgininddoalenaaRefNat
namespace Go.Proofs.Ytgininddoalenaa
open Go.RowKit

/-- -1, 0 or 1. -/
def cmpN (x y : Nat) : Int := if x < y then -1 else if y < x then 1 else 0
theorem cmpN_lt {x y : Nat} (h : x < y) : cmpN x y = -1 := by simp [cmpN, h]
theorem cmpN_gt {x y : Nat} (h : y < x) : cmpN x y = 1 := by unfold cmpN; rw [if_neg (by omega), if_pos h]
theorem cmpN_eq {x y : Nat} (h : x = y) : cmpN x y = 0 := by unfold cmpN; rw [if_neg (by omega), if_neg (by omega)]

theorem nv_cmp {f g : Nat → Nat} {n k : Nat} (hf : ∀ i, i < n → f i < 4294967296) (hk : k < n) (he : ∀ j, k < j → j < n → f j = g j) (hl : f k < g k) : nv f n < nv g n := by
  induction n with
  | zero => omega
  | succ n ih =>
    simp only [nv]
    by_cases e : k = n
    · subst e
      have h1 := nv_lt (f := f) (n := k) fun i hi => hf i (by omega)
      have h2 : (f k + 1) * 4294967296 ^ k ≤ g k * 4294967296 ^ k := Nat.mul_le_mul_right _ hl
      rw [Nat.add_mul, Nat.one_mul] at h2
      omega
    · have h1 := ih (fun i hi => hf i (by omega)) (by omega) fun j h1 h2 => he j h1 (by omega)
      rw [he n (by omega) (by omega)]
      omega
theorem lt_of_dl {x y : Nat} (h : dl x < dl y) : x < y := by
  rcases Nat.lt_or_ge x y with h1 | h1
  · exact h1
  · have := dl_mono h1; omega

set_option maxHeartbeats 4000000 in
theorem natCmp_any (A A2 : Option Addr) (c c2 x y : Nat) (w : World) (h : NatOk w w.heap.size A x) (h2 : NatOk w w.heap.size A2 y) (hc : dl x ≤ c) (hm : c ≤ maxLen) (hc2 : dl y ≤ c2) (hm2 : c2 ≤ maxLen) (hn2 : dl y ≤ 1073741824) :
    Calls Try.prog 75 #[.slice A (dl x) c, .slice A2 (dl y) c2] w fun e w' => e = .returned (.int .i64 (cmpN x y)) ∧ Below w.heap.size w w' := by
  go_enter Try.func75, Try.ntmps75
  go_wp2_with fail
  refine (short_nat A c x w h hc hm).mono ?_
  rintro e w1 ⟨rfl, rfl⟩
  go_wp2_with fail
  refine (short_nat A2 c2 y w h2 hc2 hm2).mono ?_
  rintro e w1 ⟨rfl, rfl⟩
  by_cases hd : dl x = dl y
  · obtain ⟨n, hn'⟩ : ∃ n, n = dl y := ⟨_, rfl⟩
    have hX : nv (dg x) n = x := by rw [hn', ← hd, nv_dg]
    have hY : nv (dg y) n = y := by rw [hn', nv_dg]
    have HX := hid hX
    have HY := hid hY
    have h3 : Lims w w.heap.size A n (dg x) := by rw [hn', ← hd]; exact h
    have h4 : Lims w w.heap.size A2 n (dg y) := by rw [hn']; exact h2
    rw [hd, ← hn']
    rw [← hn'] at hn2
    clear hX hY h h2 hc hc2 hd hn'
    go_wp2
    go_loopg [5] n (fun gg iv wx => ∃ k : Nat, iv = .int .i64 ((k : Nat) - 1 : Int) ∧ k ≤ n ∧ k ≤ gg ∧ Hid (∀ j, k ≤ j → j < n → dg x j = dg y j) ∧ Below w.heap.size w wx)
    case atStart => exact ⟨n, rfl, by omega, by omega, hid fun j h1 h2 => absurd h1 (by omega), Below.refl _ _⟩
    case round =>
      obtain ⟨k, rfl, hk, hkg, HE, hB⟩ := hrel
      by_cases h0 : 0 < k
      · obtain ⟨k, rfl⟩ : ∃ k', k = k' + 1 := ⟨k - 1, by omega⟩
        have ek : (((k + 1 : Nat) : Int) - 1) = (k : Int) := by omega
        rw [ek]
        obtain ⟨b, o, rfl, hb, e0⟩ := (h3.on hB).at (i := k) (by omega)
        obtain ⟨b2, o2, rfl, hb2, e2⟩ := (h4.on hB).at (i := k) (by omega)
        have hk0 : (0 : Int) ≤ (k : Int) := by omega
        have hk1 : (k : Int) < (n : Int) := by omega
        have he := HE.out
        by_cases c1 : dg x k < dg y k
        · have HC := hid (cmpN_lt (x := x) (y := y) (by have := nv_cmp (f := dg x) (g := dg y) (n := n) (k := k) (fun i _ => dg_lt x i) (by omega) (fun j h1 h2 => he j (by omega) h2) c1; rwa [HX.out, HY.out] at this))
          obtain ⟨u, hu⟩ : ∃ u, u = dg x k := ⟨_, rfl⟩
          obtain ⟨v, hv⟩ : ∃ v, v = dg y k := ⟨_, rfl⟩
          rw [← hu] at e0 c1
          rw [← hv] at e2 c1
          clear ek he hu hv
          go_wp2
          go_quiet (fail)
          go_wp2
          go_ret
          exact ⟨ret_int HC.out.symm, below_drewN hB _⟩
        · by_cases c2 : dg y k < dg x k
          · have HC := hid (cmpN_gt (x := x) (y := y) (by have := nv_cmp (f := dg y) (g := dg x) (n := n) (k := k) (fun i _ => dg_lt y i) (by omega) (fun j h1 h2 => (he j (by omega) h2).symm) c2; rwa [HX.out, HY.out] at this))
            obtain ⟨u, hu⟩ : ∃ u, u = dg x k := ⟨_, rfl⟩
            obtain ⟨v, hv⟩ : ∃ v, v = dg y k := ⟨_, rfl⟩
            rw [← hu] at e0 c1 c2
            rw [← hv] at e2 c1 c2
            clear ek he hu hv
            go_wp2
            go_quiet (fail)
            go_wp2
            go_quiet (fail)
            go_wp2
            go_ret
            exact ⟨ret_int HC.out.symm, below_drewN (below_drewN hB _) _⟩
          · have heq : dg x k = dg y k := by omega
            have HN : Hid (∀ j, k ≤ j → j < n → dg x j = dg y j) := fun j h1 h2 => by
              by_cases e : j = k
              · rw [e]; exact heq
              · exact he j (by omega) h2
            rw [heq] at e0
            obtain ⟨v, hv⟩ : ∃ v, v = dg y k := ⟨_, rfl⟩
            rw [← hv] at e0 e2
            clear ek he hv heq c1 c2
            go_wp2
            go_quiet (fail)
            go_wp2
            go_quiet (fail)
            go_wp2
            go_roundg (gk - 1)
            case measure => omega
            case rel => exact ⟨k, rfl, by omega, by omega, HN, below_drewN hB _⟩
      · obtain rfl : k = 0 := by omega
        have HC := hid (cmpN_eq (x := x) (y := y) (by rw [← HX.out, ← HY.out]; exact nv_congr fun i hi => HE.out i (by omega) hi))
        go_wp2
        go_ret
        exact ⟨ret_int HC.out.symm, hB⟩
  · by_cases hlt : dl x < dl y
    · have HC := hid (cmpN_lt (lt_of_dl hlt))
      have d1 : ((dl x : Nat) : Int) < ((dl y : Nat) : Int) := by omega
      have d2 : (((dl x : Nat) : Int) != ((dl y : Nat) : Int)) = true := by simp; omega
      clear h h2
      go_wp2
      go_ret
      exact ⟨ret_int HC.out.symm, Below.refl _ _⟩
    · have HC := hid (cmpN_gt (lt_of_dl (x := y) (y := x) (by omega)))
      have d1 : ¬ ((dl x : Nat) : Int) < ((dl y : Nat) : Int) := by omega
      have d2 : (((dl x : Nat) : Int) != ((dl y : Nat) : Int)) = true := by simp; omega
      clear h h2
      go_wp2
      go_ret
      exact ⟨ret_int HC.out.symm, Below.refl _ _⟩

set_option maxHeartbeats 4000000 in
theorem refCmp_any (A A2 : Option Addr) (c c2 x y : Nat) (w : World) (h : NatOk w w.heap.size A x) (h2 : NatOk w w.heap.size A2 y) (hn : dl x ≤ 1073741824) (hn2 : dl y ≤ 1073741824) :
    Calls Try.prog 55 #[.slice A (dl x) c, .slice A2 (dl y) c2] w fun e w' => e = .returned (.int .i64 (cmpN x y)) ∧ w = w' := by
  obtain ⟨n, hnx, hny, hme, hnb⟩ : ∃ n : Nat, dl x ≤ n ∧ dl y ≤ n ∧ max ((dl x : Nat) : Int) ((dl y : Nat) : Int) = (n : Int) ∧ n ≤ 1073741824 := by
    by_cases e : dl x ≤ dl y
    · exact ⟨dl y, e, Nat.le_refl _, by omega, hn2⟩
    · exact ⟨dl x, Nat.le_refl _, by omega, by omega, hn⟩
  have hX : nv (padded (dg x) (dl x)) n = x := by rw [nv_padded _ hnx, nv_dg]
  have hY : nv (padded (dg y) (dl y)) n = y := by rw [nv_padded _ hny, nv_dg]
  have HX := hid hX
  have HY := hid hY
  have L1 := hid fun i => limb_in A (dl x) c i (dg x) w h (dg_all x)
  have L2 := hid fun i => limb_in A2 (dl y) c2 i (dg y) w h2 (dg_all y)
  clear hX hY h h2
  go_enter Try.func55, Try.ntmps55
  go_wp2
  go_loopg [5] n (fun gg iv wx => ∃ k : Nat, iv = .int .i64 ((k : Nat) - 1 : Int) ∧ k ≤ n ∧ k ≤ gg ∧ Hid (∀ j, k ≤ j → j < n → padded (dg x) (dl x) j = padded (dg y) (dl y) j) ∧ w = wx)
  case atStart => exact ⟨n, rfl, by omega, by omega, hid fun j h1 h2 => absurd h1 (by omega), rfl⟩
  case round =>
    obtain ⟨k, rfl, hk, hkg, HE, rfl⟩ := hrel
    by_cases h0 : 0 < k
    · obtain ⟨k, rfl⟩ : ∃ k', k = k' + 1 := ⟨k - 1, by omega⟩
      have ek : (((k + 1 : Nat) : Int) - 1) = (k : Int) := by omega
      rw [ek]
      have he := HE.out
      have l1 := L1.out k
      have l2 := L2.out k
      have q1 := padded_lt (dg_all x).out k
      have q2 := padded_lt (dg_all y).out k
      have lt1 : padded (dg x) (dl x) k < padded (dg y) (dl y) k → x < y := fun hh => by
        have := nv_cmp (f := padded (dg x) (dl x)) (g := padded (dg y) (dl y)) (n := n) (k := k) (fun i _ => padded_lt (dg_all x).out i) (by omega) (fun j h1 h2 => he j (by omega) h2) hh
        rwa [HX.out, HY.out] at this
      have lt2 : padded (dg y) (dl y) k < padded (dg x) (dl x) k → y < x := fun hh => by
        have := nv_cmp (f := padded (dg y) (dl y)) (g := padded (dg x) (dl x)) (n := n) (k := k) (fun i _ => padded_lt (dg_all y).out i) (by omega) (fun j h1 h2 => (he j (by omega) h2).symm) hh
        rwa [HX.out, HY.out] at this
      have HN : padded (dg x) (dl x) k = padded (dg y) (dl y) k → Hid (∀ j, k ≤ j → j < n → padded (dg x) (dl x) j = padded (dg y) (dl y) j) := fun heq j h1 h2 => by
        by_cases e : j = k
        · rw [e]; exact heq
        · exact he j (by omega) h2
      obtain ⟨u, hu⟩ : ∃ u, u = padded (dg x) (dl x) k := ⟨_, rfl⟩
      obtain ⟨v, hv⟩ : ∃ v, v = padded (dg y) (dl y) k := ⟨_, rfl⟩
      rw [← hu] at l1 q1 lt1 lt2
      rw [← hv] at l2 q2 lt1 lt2
      rw [← hu, ← hv] at HN
      have M1 := hid l1
      have M2 := hid l2
      clear ek he hu hv l1 l2
      by_cases c1 : u < v
      · have HC := hid (cmpN_lt (lt1 c1))
        clear lt1 lt2 HN
        go_wp2_with fail
        refine M1.out.mono ?_
        rintro e w2 ⟨rfl, rfl⟩
        go_wp2_with fail
        refine M2.out.mono ?_
        rintro e w2 ⟨rfl, rfl⟩
        go_wp2
        go_ret
        exact ⟨ret_int HC.out.symm, rfl⟩
      · by_cases c2 : v < u
        · have HC := hid (cmpN_gt (lt2 c2))
          clear lt1 lt2 HN
          go_wp2_with fail
          refine M1.out.mono ?_
          rintro e w2 ⟨rfl, rfl⟩
          go_wp2_with fail
          refine M2.out.mono ?_
          rintro e w2 ⟨rfl, rfl⟩
          go_wp2_with fail
          refine M1.out.mono ?_
          rintro e w2 ⟨rfl, rfl⟩
          go_wp2_with fail
          refine M2.out.mono ?_
          rintro e w2 ⟨rfl, rfl⟩
          go_wp2
          go_ret
          exact ⟨ret_int HC.out.symm, rfl⟩
        · have heq : u = v := by omega
          have HN2 := HN heq
          subst heq
          clear lt1 lt2 HN c1 c2
          go_wp2_with fail
          refine M1.out.mono ?_
          rintro e w2 ⟨rfl, rfl⟩
          go_wp2_with fail
          refine M2.out.mono ?_
          rintro e w2 ⟨rfl, rfl⟩
          go_wp2_with fail
          refine M1.out.mono ?_
          rintro e w2 ⟨rfl, rfl⟩
          go_wp2_with fail
          refine M2.out.mono ?_
          rintro e w2 ⟨rfl, rfl⟩
          go_wp2
          go_roundg (gk - 1)
          case measure => omega
          case rel => exact ⟨k, rfl, by omega, by omega, HN2, rfl⟩
    · obtain rfl : k = 0 := by omega
      have HC := hid (cmpN_eq (x := x) (y := y) (by rw [← HX.out, ← HY.out]; exact nv_congr fun i hi => HE.out i (by omega) hi))
      go_wp2
      go_ret
      exact ⟨ret_int HC.out.symm, rfl⟩
end Go.Proofs.Ytgininddoalenaa
