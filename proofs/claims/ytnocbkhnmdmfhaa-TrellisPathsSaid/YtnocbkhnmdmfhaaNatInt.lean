/- nat.Int and codewrightref01.Int. -/
import Derived.Test.YtnocbkhnmdmfhaaRefLow
import Derived.Test.YtnocbkhnmdmfhaaTac
namespace Go.Proofs.Ytnocbkhnmdmfhaa
open Go.RowKit

theorem or_limbs_i {r x : Nat} (hr : r < 2147483648) (hx : x < 4294967296) : bits .or .i64 ((r : Int) * 4294967296) (x : Int) = ((r * 4294967296 + x : Nat) : Int) := by
  have e := Nat.two_pow_add_eq_or_of_lt (i := 32) (b := x) hx r
  rw [show (2 : Nat) ^ 32 = 4294967296 from rfl, Nat.mul_comm] at e
  show IntKind.i64.wrap ((BitVec.ofInt 64 ((r : Int) * 4294967296) ||| BitVec.ofInt 64 (x : Int)).toNat : Nat) = _
  have k1 : (BitVec.ofInt 64 ((r : Int) * 4294967296)).toNat = r * 4294967296 := by
    rw [BitVec.toNat_ofInt]; omega
  have k2 : (BitVec.ofInt 64 (x : Int)).toNat = x := by
    rw [BitVec.toNat_ofInt]; omega
  rw [BitVec.toNat_or, k1, k2, ← e, IntKind.wrap_i64]
  omega
/-- The number as an int, where it is one. -/
def IntPost (x : Nat) (e : Ending) : Prop :=
  (x < 9223372036854775808 ∧ e = .returned (.tuple #[.int .i64 (x : Nat), .bool true])) ∨ (9223372036854775808 ≤ x ∧ e = .returned (.tuple #[.int .i64 0, .bool false]))
theorem nlen_63 {x : Nat} : 63 < nlen x ↔ 9223372036854775808 ≤ x := by
  constructor
  · intro h
    by_cases e : x < 9223372036854775808
    · have := nlen_le (x := x) (k := 63) (by omega)
      omega
    · omega
  · intro h
    have h0 : x ≠ 0 := by omega
    have h1 := lt_pow_nlen x
    by_cases e : 63 < nlen x
    · exact e
    · have : (2 : Nat) ^ nlen x ≤ 2 ^ 63 := Nat.pow_le_pow_right (by omega) (by omega)
      omega
set_option maxRecDepth 100000 in
set_option maxHeartbeats 4000000 in
theorem refInt_any (A : Option Addr) (c x : Nat) (w : World) (h : NatOk w w.heap.size A x) (hc : dl x ≤ c) (hm : c ≤ maxLen) (hn : dl x ≤ 1073741824) :
    Calls Try.prog 32 #[.slice A (dl x) c] w fun e w' => IntPost x e ∧ Below w.heap.size w w' := by
  go_enter Try.func32, Try.ntmps32
  go_wp2_with fail
  refine (refBits_any A c x w h hc hm hn).mono ?_
  rintro e w1 ⟨rfl, hB⟩
  by_cases hb : 63 < nlen x
  · have hx := hid (nlen_63.1 hb)
    have hb' : (nlen x : Int) > 63 := by omega
    clear hb
    go_wp2
    go_ret2
    exact ⟨.inr ⟨hx.out, rfl⟩, hB⟩
  · have hx : x < 9223372036854775808 := by
      by_cases e : x < 9223372036854775808
      · exact e
      · exact absurd (nlen_63.2 (by omega)) hb
    have hb' : ¬ (nlen x : Int) > 63 := by omega
    clear hb
    go_wp2_with fail
    refine (limb_in A (dl x) c 0 (dg x) w1 (h.on hB) (dg_all x)).mono ?_
    rintro e w2 ⟨rfl, rfl⟩
    go_wp2_with fail
    refine (limb_in A (dl x) c 1 (dg x) w1 (h.on hB) (dg_all x)).mono ?_
    rintro e w2 ⟨rfl, rfl⟩
    have hd : dl x ≤ 2 := dl_le (by omega)
    have hv : nv (padded (dg x) (dl x)) 2 = x := by rw [nv_padded _ hd, nv_dg]
    have hl0 := padded_lt (fun i (_ : i < dl x) => dg_lt x i) 0
    have hl1 := padded_lt (fun i (_ : i < dl x) => dg_lt x i) 1
    simp only [nv] at hv
    obtain ⟨l0, e0⟩ : ∃ l, l = padded (dg x) (dl x) 0 := ⟨_, rfl⟩
    obtain ⟨l1, e1⟩ : ∃ l, l = padded (dg x) (dl x) 1 := ⟨_, rfl⟩
    rw [← e0] at hl0 hv ⊢
    rw [← e1] at hl1 hv ⊢
    have hxe : x = l0 + l1 * 4294967296 := by omega
    have HX := hid hxe
    have hl1b : l1 < 2147483648 := by omega
    clear e0 e1 hv hxe
    have w1' : IntKind.u64.wrap ((l1 : Int) * 4294967296) = (l1 : Int) * 4294967296 := IntWalk.u64_in _ (by omega)
    have w2' : IntKind.u64.wrap ((l0 : Int) + (l1 : Int) * 4294967296) = (l0 : Int) + (l1 : Int) * 4294967296 := IntWalk.u64_in _ (by omega)
    have w3' : IntKind.i64.wrap ((l0 : Int) + (l1 : Int) * 4294967296) = (l0 : Int) + (l1 : Int) * 4294967296 := IntWalk.i64_in _ (by omega)
    go_wp2
    go_ret2
    exact ⟨.inl ⟨by have := HX.out; omega, by rw [HX.out, Int.natCast_add, Int.natCast_mul]; rfl⟩, hB⟩
end Go.Proofs.Ytnocbkhnmdmfhaa
