/- nat.Pow where the result is not too great. -/
import Derived.Test.YtgininddoalenaaBits
import Derived.Test.YtgininddoalenaaTimes
namespace Go.Proofs.Ytgininddoalenaa
open Go.RowKit

theorem i64_and1 (n : Int) : bits .and .i64 n 1 = n % 2 := by
  have h1 : (BitVec.ofInt 64 1).toNat = 2 ^ 1 - 1 := by decide
  have key : (BitVec.ofInt 64 n &&& BitVec.ofInt 64 1).toNat = (n % ((2 ^ 64 : Nat) : Int)).toNat % 2 ^ 1 := by
    rw [BitVec.toNat_and, BitVec.toNat_ofInt, h1, Nat.and_two_pow_sub_one_eq_mod]
  show IntKind.i64.wrap ((BitVec.ofInt 64 n &&& BitVec.ofInt 64 1).toNat : Nat) = n % 2
  rw [key, IntKind.wrap_i64]
  omega
theorem below_one (X : World) (o : Obj) : Below X.heap.size X (X.alloc o) := (Below.refl _ _).alloc (Nat.le_refl _) _

/-- What Pow and Binomial leave: a number and OK. -/
def NatOkPost (x : Nat) (w : World) (e : Ending) (w' : World) : Prop :=
  ∃ A c, e = .returned (.tuple #[.slice A (dl x) c, .int .i64 0]) ∧ dl x ≤ c ∧ c ≤ maxLen ∧ NatOk w' w'.heap.size A x ∧ Below w.heap.size w w'

theorem pow_odd {o s x n k : Nat} (h : o * s ^ k = x ^ n) (hk : k % 2 = 1) : o * s * (s * s) ^ (k / 2) = x ^ n := by
  rw [← h, ← Nat.pow_two, ← Nat.pow_mul, Nat.mul_assoc, ← Nat.pow_add_one']
  congr 2
  omega
theorem pow_even {o s x n k : Nat} (h : o * s ^ k = x ^ n) (hk : k % 2 = 0) : o * (s * s) ^ (k / 2) = x ^ n := by
  rw [← h, ← Nat.pow_two, ← Nat.pow_mul]
  congr 2
  omega
theorem pow_bounds {o s x n k : Nat} (h : o * s ^ k = x ^ n) (hk : 0 < k) (hx : 0 < x) : o ≤ x ^ n ∧ s ≤ x ^ n := by
  have hp : 0 < x ^ n := Nat.pow_pos hx
  have ho : 0 < o := by
    rcases Nat.eq_zero_or_pos o with e | e
    · rw [e] at h; simp at h; omega
    · exact e
  have hs : 0 < s := by
    rcases Nat.eq_zero_or_pos s with e | e
    · rw [e, Nat.zero_pow hk] at h; simp at h; omega
    · exact e
  constructor
  · rw [← h]; exact Nat.le_mul_of_pos_right _ (Nat.pow_pos hs)
  · rw [← h]
    have h1 : s ≤ s ^ k := Nat.le_self_pow (by omega) s
    exact Nat.le_trans h1 (Nat.le_mul_of_pos_left _ ho)

set_option maxHeartbeats 4000000 in
theorem natPow_any (A : Option Addr) (c x n : Nat) (w : World) (h : NatOk w w.heap.size A x) (hc : dl x ≤ c) (hm : c ≤ maxLen) (hn : dl x ≤ 1048576) (hnn : n ≤ 131072) (hsz : nlen x ≤ 1 ∨ (nlen x - 1) * n < 131072) (hbig : dl (x ^ n) ≤ 4096) :
    Calls Try.prog 108 #[.slice A (dl x) c, .int .i64 (n : Nat)] w (NatOkPost (x ^ n) w) := by
  have hone := natOk_one (w := w) 77 (x := 1) (by omega) (by omega)
  have d1 := hid (dl_small (x := 1) (by omega) (by omega))
  go_enter Try.func108, Try.ntmps108
  go_wp2_with fail
  refine (natBits_any A c x w h hc hm (by omega)).mono ?_
  rintro e w1 ⟨rfl, rfl⟩
  have hlb : nlen x ≤ 33554432 := by
    by_cases e : x = 0
    · rw [e, nlen_zero]; omega
    · have := nlen_dl e
      have := nlen_le (x := dg x (dl x - 1)) (k := 32) (dg_lt _ _)
      omega
  by_cases h0 : n = 0
  · subst h0
    have H := hid (show x ^ 0 = 1 from Nat.pow_zero x)
    go_wp2
    go_ret2
    exact ⟨_, 1, by rw [H.out, d1.out]; rfl, by rw [H.out, d1.out]; omega, by unfold maxLen; omega, by rw [H.out]; exact hone, (Below.refl _ _).alloc (Nat.le_refl _) _⟩
  · have n0 : ((n : Int) == 0) = false := by simp; omega
    by_cases h1 : x = 1
    · have H := hid (show x ^ n = 1 by rw [h1]; exact Nat.one_pow n)
      have hl : nlen x = 1 := nlen_eq_one.2 h1
      rw [hl]
      clear hl h1
      go_wp2
      go_ret2
      exact ⟨_, 1, by rw [H.out, d1.out]; rfl, by rw [H.out, d1.out]; omega, by unfold maxLen; omega, by rw [H.out]; exact hone, (Below.refl _ _).alloc (Nat.le_refl _) _⟩
    · by_cases h2 : x = 0
      · have H := hid (show x ^ n = 0 by rw [h2]; exact Nat.zero_pow (by omega))
        have hl : nlen x = 0 := nlen_eq_zero.2 h2
        rw [hl]
        clear hl h1 h2
        go_wp2
        go_ret2
        exact ⟨none, 0, by rw [H.out, dl_zero]; rfl, by rw [H.out, dl_zero]; omega, by unfold maxLen; omega, by rw [H.out]; exact fun i hi => absurd hi (by rw [dl_zero]; omega), Below.refl _ _⟩
      · have hl0 := mt nlen_eq_zero.1 h2
        have hl1 := mt nlen_eq_one.1 h1
        have hx0 : 0 < x := by omega
        obtain ⟨l, hl⟩ : ∃ l, l = nlen x := ⟨_, rfl⟩
        rw [← hl] at hl0 hl1 hsz hlb ⊢
        have hs1 : (l - 1) * n < 131072 := by omega
        have hs2 : ((l : Int) - 1) * (n : Int) = (((l - 1) * n : Nat) : Int) := by rw [Int.natCast_mul]; congr 1; omega
        have hs3 : (0 : Int) ≤ ((l : Int) - 1) * (n : Int) := by omega
        have hs4 : ((l : Int) - 1) * (n : Int) < 131072 := by omega
        have l0 : ((l : Int) == 0) = false := by simp; omega
        have l1 : ((l : Int) == 1) = false := by simp; omega
        clear hl hs2 hs1 hsz hl0 hl1 h1 h2
        have hA1 := NatOk.on h (below_one w (Obj.cells #[Value.int .u32 ((1 : Nat) : Int)] 77))
        go_wp2_with fail
        refine (short_nat A c x _ hA1 hc hm).mono ?_
        rintro e w1 ⟨rfl, rfl⟩
        have HBG := hid hbig
        have hBA := below_one w (Obj.cells #[Value.int .u32 ((1 : Nat) : Int)] 77)
        have hl4 : dl x ≤ 536870912 := by omega
        go_wp2
        go_loopg [1, 7, 8] n (fun gg nv ov sv wx => ∃ k o s : Nat, ∃ Ao co As cs, nv = .int .i64 (k : Nat) ∧ ov = .slice Ao (dl o) co ∧ sv = .slice As (dl s) cs ∧ 0 < k ∧ k ≤ gg ∧ k ≤ n ∧ Hid (o * s ^ k = x ^ n) ∧ (dl o ≤ co ∧ co ≤ maxLen) ∧ NatOk wx wx.heap.size Ao o ∧ NatOk wx wx.heap.size As s ∧ Below w.heap.size w wx)
        case atStart => exact ⟨n, 1, x, _, 1, A, dl x, rfl, by rw [d1.out], rfl, by omega, by omega, by omega, hid (Nat.one_mul _), ⟨by rw [d1.out]; omega, by unfold maxLen; omega⟩, hone, hA1, hBA⟩
        case round =>
          clear hone hA1 hBA h
          obtain ⟨k, o, s, Ao, co, As, cs, rfl, rfl, rfl, hk, hkg, hkn, HV, ⟨ho1, ho2⟩, hAo, hAs, hB⟩ := hrel
          obtain ⟨hb1, hb2⟩ := pow_bounds HV.out hk hx0
          have hdo : dl o ≤ 536870912 := by have := dl_mono hb1; have := HBG.out; omega
          have hds : dl s ≤ 536870912 := by have := dl_mono hb2; have := HBG.out; omega
          clear hb1 hb2
          have hk2 : ((k : Int) / 2) = ((k / 2 : Nat) : Int) := by omega
          have HK2 := hid hk2
          clear hk2
          by_cases hpar : k % 2 = 1
          · have ha : bits .and .i64 (k : Int) 1 = 1 := by rw [i64_and1]; omega
            by_cases h1 : k = 1
            · subst h1
              have HE : Hid (o * s = x ^ n) := by have := HV.out; rwa [Nat.pow_one] at this
              go_wp2_with fail
              refine (times_nat Ao As co cs o s wr hAo hAs hdo hds).mono ?_
              rintro e w2 ⟨A2, c2, rfl, g1, g2, g3, g4⟩
              rw [HE.out] at g1 g3 ⊢
              have hB2 := onS hB g4
              have hbig4 : ((dl (x ^ n) : Nat) : Int) ≤ 4096 := by have := HBG.out; omega
              clear g4 hAo hAs hB
              go_wp2_with fail
              refine (trim_nat A2 c2 (x ^ n) w2 g3 g1 g2 (by omega)).mono ?_
              rintro e w3 ⟨A3, c3, rfl, f1, f2, f3, f4⟩
              have hB3 := onS hB2 f4
              clear f4
              go_wp2
              go_ret2
              exact ⟨A3, c3, rfl, f1, f2, f3, hB3⟩
            · have hne : ((k : Int) / 2 == 0) = false := by simp; omega
              have HE := hid (pow_odd HV.out hpar)
              go_wp2_with fail
              refine (times_nat Ao As co cs o s wr hAo hAs hdo hds).mono ?_
              rintro e w2 ⟨A2, c2, rfl, g1, g2, g3, g4⟩
              have hB2 := onS hB g4
              have hAs2 := hAs.on g4
              clear g4 hAo hAs hB
              go_wp2_with fail
              refine (times_nat As As cs cs s s w2 hAs2 hAs2 hds hds).mono ?_
              rintro e w3 ⟨A3, c3, rfl, f1, f2, f3, f4⟩
              have hB3 := onS hB2 f4
              have g5 := g3.on f4
              clear f4 hAs2 hB2
              go_wp2
              go_roundg (gk - 1)
              case measure => omega
              case rel => exact ⟨k / 2, o * s, s * s, A2, c2, A3, c3, by rw [HK2.out], rfl, rfl, by omega, by omega, by omega, HE, ⟨g1, g2⟩, g5, f3, hB3⟩
          · have ha : bits .and .i64 (k : Int) 1 = 0 := by rw [i64_and1]; omega
            have hne : ((k : Int) / 2 == 0) = false := by simp; omega
            have HE := hid (pow_even HV.out (by omega))
            go_wp2_with fail
            refine (times_nat As As cs cs s s wr hAs hAs hds hds).mono ?_
            rintro e w3 ⟨A3, c3, rfl, f1, f2, f3, f4⟩
            have hB3 := onS hB f4
            have g5 := hAo.on f4
            clear f4 hAs hB
            go_wp2
            go_roundg (gk - 1)
            case measure => omega
            case rel => exact ⟨k / 2, o, s * s, Ao, co, A3, c3, by rw [HK2.out], rfl, rfl, by omega, by omega, by omega, HE, ⟨ho1, ho2⟩, g5, f3, hB3⟩
end Go.Proofs.Ytgininddoalenaa
