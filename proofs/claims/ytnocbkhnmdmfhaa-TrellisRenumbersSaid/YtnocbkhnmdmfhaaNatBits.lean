/- math/bits.Len32 and LeadingZeros32, by the shelf's contracts (the kit's lay-plain.mjs wrote these lines for the dump). nat.Bits: the number of binary digits. -/
import Derived.Test.YtnocbkhnmdmfhaaNatLow
import Derived.Laws.Bits64b
import Derived.Shelf.Small.Bits

namespace Go.Proofs.Ytnocbkhnmdmfhaa
open Go.Shelf
def Try.lays128_ren : Go.Shelf.Ren := ⟨fun | 128 => 107 | n => n, fun | 51 => 77 | 3 => 3 | 4 => 4 | 46 => 118 | 5 => 5 | 9 => 9 | n => n, fun | n => n⟩
theorem Try.lays128 : Go.Proofs.Lays.n128 Try.prog Try.lays128_ren := {
  mixed := by kernel_rfl
  f128 := Try.func107.trans (congrArg some (by kernel_rfl))
  t3 := Try.underlying3
  a3 := Try.isAgg3
  z3 := Try.sizeOf3
  v3 := Try.zeroValue3
  t4 := Try.underlying4
  a4 := Try.isAgg4
  z4 := Try.sizeOf4
  v4 := Try.zeroValue4
  t5 := Try.underlying5
  a5 := Try.isAgg5
  z5 := Try.sizeOf5
  v5 := Try.zeroValue5
  t9 := Try.underlying9
  a9 := Try.isAgg9
  z9 := Try.sizeOf9
  v9 := Try.zeroValue9
  t46 := Try.underlying118
  a46 := Try.isAgg118
  z46 := Try.sizeOf118
  v46 := Try.zeroValue118
  t51 := Try.underlying77
  a51 := Try.isAgg77
  z51 := Try.sizeOf77
  v51 := Try.zeroValue77 }
theorem Try.bits_Len32 (x : Int) (w : World) (h0 : 0 ≤ x) (h1 : x ≤ 4294967295) :
    Calls Try.prog 107 #[.int .u32 x] w fun e w' => e = .returned (.int .i64 (Lib.bitLen x.toNat)) ∧ w' = w := Any.bits_Len32 Try.lays128 x w h0 h1
end Go.Proofs.Ytnocbkhnmdmfhaa

namespace Go.Proofs.Ytnocbkhnmdmfhaa
open Go.RowKit

/-- The number of binary digits. -/
def nlen (x : Nat) : Nat := if h : x = 0 then 0 else nlen (x / 2) + 1
termination_by x
decreasing_by exact Nat.div_lt_self (by omega) (by omega)
theorem nlen_zero : nlen 0 = 0 := by unfold nlen; simp
theorem nlen_pos {x : Nat} (h : x ≠ 0) : nlen x = nlen (x / 2) + 1 := by rw [nlen]; simp [h]
theorem nlen_eq_zero {x : Nat} : nlen x = 0 ↔ x = 0 := by
  constructor
  · intro h
    rcases Nat.eq_zero_or_pos x with h0 | h0
    · exact h0
    · rw [nlen_pos (by omega)] at h; omega
  · intro h; rw [h]; exact nlen_zero
theorem nlen_one : nlen 1 = 1 := by rw [nlen_pos (by omega)]; simp [nlen_zero]
theorem nlen_eq_one {x : Nat} : nlen x = 1 ↔ x = 1 := by
  constructor
  · intro h
    have h0 : x ≠ 0 := fun e => by rw [e, nlen_zero] at h; omega
    rw [nlen_pos h0] at h
    have := nlen_eq_zero.1 (show nlen (x / 2) = 0 by omega)
    omega
  · intro h; rw [h]; exact nlen_one
theorem nlen_le {x k : Nat} (h : x < 2 ^ k) : nlen x ≤ k := by
  induction k generalizing x with
  | zero => have : x = 0 := by simpa using h
            rw [this, nlen_zero]; omega
  | succ k ih =>
    by_cases h0 : x = 0
    · rw [h0, nlen_zero]; omega
    · rw [nlen_pos h0]
      have := ih (x := x / 2) (by rw [Nat.pow_succ] at h; omega)
      omega
theorem lt_pow_nlen (x : Nat) : x < 2 ^ nlen x := by
  induction x using Nat.strongRecOn with
  | _ x ih =>
    by_cases h : x = 0
    · rw [h, nlen_zero]; simp
    · rw [nlen_pos h, Nat.pow_succ]
      have := ih (x / 2) (Nat.div_lt_self (by omega) (by omega))
      omega
theorem pow_nlen_le {x : Nat} (h : x ≠ 0) : 2 ^ (nlen x - 1) ≤ x := by
  induction x using Nat.strongRecOn with
  | _ x ih =>
    rw [nlen_pos h, Nat.add_sub_cancel]
    by_cases h1 : x / 2 = 0
    · rw [h1, nlen_zero]; simp; omega
    · have := ih (x / 2) (Nat.div_lt_self (by omega) (by omega)) h1
      have e := nlen_pos h1
      have e2 : 2 ^ nlen (x / 2) = 2 ^ (nlen (x / 2) - 1) * 2 := by rw [← Nat.pow_succ]; congr 1; omega
      omega
theorem nlen_shift (k : Nat) {x : Nat} (h : 2 ^ k ≤ x) : nlen x = k + nlen (x / 2 ^ k) := by
  induction k generalizing x with
  | zero => simp
  | succ k ih =>
    have hp : 0 < 2 ^ k := Nat.pow_pos (by omega)
    rw [Nat.pow_succ] at h
    rw [nlen_pos (by omega), ih (x := x / 2) (by omega), Nat.pow_succ, Nat.mul_comm (2 ^ k) 2, ← Nat.div_div_eq_div_mul]
    omega
theorem nlen_dl {x : Nat} (h : x ≠ 0) : nlen x = 32 * (dl x - 1) + nlen (dg x (dl x - 1)) := by
  induction x using Nat.strongRecOn with
  | _ x ih =>
    rw [dl_pos h, Nat.add_sub_cancel]
    by_cases h1 : x / 4294967296 = 0
    · rw [h1, dl_zero, dg_first]
      have : x < 4294967296 := by omega
      rw [Nat.mod_eq_of_lt this]; omega
    · have h2 := ih (x / 4294967296) (Nat.div_lt_self (by omega) (by omega)) h1
      have h3 := dl_pos h1
      have h4 : dl (x / 4294967296) = dl (x / 4294967296) - 1 + 1 := by omega
      rw [nlen_shift 32 (show 2 ^ 32 ≤ x by omega), show (2 : Nat) ^ 32 = 4294967296 from rfl, h2]
      rw [show dg x (dl (x / 4294967296)) = dg (x / 4294967296) (dl (x / 4294967296) - 1) by rw [← dg_succ, ← h4]]
      omega
theorem bitLen_nlen {x : Nat} (h : x < 2 ^ 64) : Lib.bitLen x = nlen x := by
  induction x using Nat.strongRecOn with
  | _ x ih =>
    by_cases h0 : x = 0
    · rw [h0, nlen_zero]; rfl
    · rw [Lib.bitLen_half x h0 h, nlen_pos h0, ih (x / 2) (Nat.div_lt_self (by omega) (by omega)) (by omega)]
      omega

set_option maxHeartbeats 2000000 in
theorem natBits_any (A : Option Addr) (c x : Nat) (w : World) (h : NatOk w w.heap.size A x) (hc : dl x ≤ c) (hm : c ≤ maxLen) (hn : dl x ≤ 1073741824) :
    Calls Try.prog 96 #[.slice A (dl x) c] w fun e w' => e = .returned (.int .i64 (nlen x : Nat)) ∧ w = w' := by
  go_enter Try.func96, Try.ntmps96
  go_wp2_with fail
  refine (short_nat A c x w h hc hm).mono ?_
  rintro e w1 ⟨rfl, rfl⟩
  by_cases h0 : x = 0
  · have hd : dl x = 0 := by rw [h0]; exact dl_zero
    have H := hid (show nlen x = 0 by rw [h0]; exact nlen_zero)
    rw [hd]
    clear h0 hd
    go_wp2
    go_ret
    exact ⟨ret_int (by rw [H.out]; rfl), rfl⟩
  · have hd : 0 < dl x := by have := mt dl_eq_zero.1 h0; omega
    obtain ⟨b, o, rfl, hb, e0⟩ := Lims.at h (i := dl x - 1) (by omega)
    have HL := hid (nlen_dl h0)
    have hg := dg_lt x (dl x - 1)
    have HB := hid (bitLen_nlen (x := dg x (dl x - 1)) (by omega))
    have hnl := nlen_le (x := dg x (dl x - 1)) (k := 32) hg
    obtain ⟨n, hn'⟩ : ∃ n, n = dl x := ⟨_, rfl⟩
    obtain ⟨v, hv⟩ : ∃ v, v = dg x (dl x - 1) := ⟨_, rfl⟩
    rw [← hv] at hg HB hnl e0 HL
    rw [← hn'] at e0 hd HL hn hc ⊢
    have hw2 : ((n : Int) - 1).toNat = n - 1 := by omega
    have hn0 : ((n : Int) == 0) = false := by simp; omega
    clear hn' hv h h0
    go_wp2_with fail
    refine (Try.bits_Len32 (v : Int) w (by omega) (by omega)).mono ?_
    rintro e w1 ⟨rfl, rfl⟩
    rw [Int.toNat_natCast, HB.out]
    go_wp2
    go_ret
    exact ⟨ret_int (by rw [HL.out]; omega), rfl⟩
end Go.Proofs.Ytnocbkhnmdmfhaa
