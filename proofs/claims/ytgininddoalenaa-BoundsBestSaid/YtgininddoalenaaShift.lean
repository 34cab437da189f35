/- nat.shift. -/
import Derived.Test.YtgininddoalenaaDivMath
import Derived.Test.YtgininddoalenaaDigit
namespace Go.Proofs.Ytgininddoalenaa
open Go.RowKit

/-- One limb of a number shifted left by n. -/
theorem shl_step {f o : Nat → Nat} {k n ca s : Nat} (hv : nv o k + ca * 4294967296 ^ k = nv f k * 2 ^ n) (hs : s = f k * 2 ^ n + ca) :
    nv (upd o k (s % 4294967296)) (k + 1) + s / 4294967296 * 4294967296 ^ (k + 1) = nv f (k + 1) * 2 ^ n := by
  simp only [nv]
  rw [nv_upd_ge (Nat.le_refl _), upd_same]
  have hc := carry_step1 s k
  subst hs
  grind
theorem or_shift {x n ca : Nat} (hx : x < 4294967296) (hn : n ≤ 31) (hc : ca < 2 ^ n) : bits .or .u64 ((x : Int) * 2 ^ n) (ca : Int) = ((x * 2 ^ n + ca : Nat) : Int) := by
  have hp : 2 ^ n ≤ 2 ^ 31 := Nat.pow_le_pow_right (by omega) hn
  have h1 : x * 2 ^ n ≤ 4294967295 * 2 ^ 31 := Nat.mul_le_mul (by omega) hp
  have h := bits_or_u64_nat (x * 2 ^ n) ca (by omega) (by omega)
  rw [Int.natCast_mul, Int.natCast_pow] at h
  rw [show ((2 : Nat) : Int) = 2 from rfl] at h
  rw [h]
  have e := Nat.two_pow_add_eq_or_of_lt hc x
  rw [Nat.mul_comm] at e
  rw [← e]

/-- What shift leaves. -/
def ShiftPost (n s : Nat) (f : Nat → Nat) (w : World) (e : Ending) (w' : World) : Prop :=
  ∃ o : Nat → Nat, e = .returned (.slice (some ⟨w.heap.size, 0, none⟩) (n + 1) (n + 1)) ∧ w'.rowIs w.heap.size 77 (n + 1) (fun i => .int .u32 (o i : Nat)) ∧ (∀ i, o i < 4294967296) ∧ nv o (n + 1) = nv f n * 2 ^ s ∧ Below w.heap.size w w'

set_option maxRecDepth 100000 in
set_option maxHeartbeats 4000000 in
theorem shift_any (A : Option Addr) (n c s : Nat) (f : Nat → Nat) (w : World) (h : Lims w w.heap.size A n f) (hf : Hid (∀ i, i < n → f i < 4294967296)) (hn : n ≤ 536870912) (hs : s ≤ 31) :
    Calls Try.prog 144 #[.slice A n c, .int .i64 (s : Nat)] w (ShiftPost n s f w) := by
  have hmk := fun W => run_makeI (P := Try.prog) 39 77 _ 4 Try.underlying39 Try.infoU32 rfl ((n : Int) + 1) (by omega) (by omega) (by omega) W
  have e1 : ((n : Int) + 1).toNat = n + 1 := by omega
  have hrow0 := World.rowIs_made w (.int .u32 0) (n + 1) 77
  obtain ⟨P, hP⟩ : ∃ P, P = 2 ^ s := ⟨_, rfl⟩
  have hP0 : 0 < P := by rw [hP]; exact Nat.pow_pos (by omega)
  have hP1 : P ≤ 2147483648 := by rw [hP]; exact Nat.pow_le_pow_right (n := 2) (by omega) hs
  have HP := hid hP
  clear hP
  go_enter Try.func144, Try.ntmps144
  go_wp2
  go_loopg [16, 6] n (fun gg iv cv wx => ∃ k ca : Nat, ∃ o : Nat → Nat, iv = .int .i64 (k : Nat) ∧ cv = .int .u64 (ca : Nat) ∧ k ≤ n ∧ n ≤ k + gg ∧ ca < P ∧ Below w.heap.size w wx ∧ wx.rowIs w.heap.size 77 (n + 1) (fun i => .int .u32 (o i : Nat)) ∧ Hid (∀ i, o i < 4294967296) ∧ Hid (nv o k + ca * 4294967296 ^ k = nv f k * 2 ^ s))
  case atStart => exact ⟨0, 0, fun _ => 0, rfl, rfl, by omega, by omega, hP0, (Below.refl _ _).alloc (Nat.le_refl _) _, hrow0, hid fun _ => by show 0 < _; omega, hid (by simp [nv])⟩
  case round =>
    clear hrow0 hmk
    obtain ⟨k, ca, o, rfl, rfl, hk, hkg, hca, hB, hrow, HO, HV⟩ := hrel
    have hz := hrow.lt
    by_cases hlt : k < n
    · obtain ⟨b1, o1, rfl, hb2, e0⟩ := (h.on hB).at (i := k) (by omega)
      have q1 := hf.out k hlt
      have hlt' : (k : Int) < (n : Int) := by omega
      have y0 := hrow.cell (i := k) (by omega)
      have z0 := hrow.frozen k
      obtain ⟨x, hx⟩ : ∃ x, x = f k := ⟨_, rfl⟩
      rw [← hx] at e0 q1
      have HX := hid hx
      have ht1 : x * P + ca < 4294967296 * P := by
        have : (x + 1) * P ≤ 4294967296 * P := Nat.mul_le_mul_right _ q1
        rw [Nat.add_mul, Nat.one_mul] at this
        omega
      obtain ⟨t, ht⟩ : ∃ t, t = x * P + ca := ⟨_, rfl⟩
      rw [← ht] at ht1
      have hwr : IntKind.u64.wrap ((x : Int) * 2 ^ s) = (x : Int) * 2 ^ s := by
        refine IntWalk.u64_in _ ?_
        have e : ((x : Int) * 2 ^ s) = ((x * P : Nat) : Int) := by rw [HP.out, Int.natCast_mul, Int.natCast_pow]; rfl
        rw [e]
        omega
      have hor : bits .or .u64 (IntKind.u64.wrap ((x : Int) * 2 ^ s)) (ca : Int) = (t : Int) := by
        rw [hwr, or_shift q1 hs (by rw [← HP.out]; exact hca), ht, HP.out]
      have s1 := shl_step (s := t) HV.out (by rw [ht, hx, HP.out])
      have K2 : Hid ((wr.setCell ⟨w.heap.size, k, none⟩ (.int .u32 ((t : Int) % 4294967296))).rowIs w.heap.size 77 (n + 1) (fun i => .int .u32 (upd o k (t % 4294967296) i : Nat))) := by
        refine (hrow.set k _).congr fun i _ => ?_
        unfold upd
        by_cases e : i = k
        · rw [if_pos e, if_pos e]; rfl
        · rw [if_neg e, if_neg e]
      have K3 : Hid (∀ i, upd o k (t % 4294967296) i < 4294967296) := fun i => by
        unfold upd
        split
        · omega
        · exact HO.out i
      have K1 := hid s1
      have K4 : Hid (t / 4294967296 < P) := by show _ < _; omega
      have ht64 : (t : Int) ≤ 18446744073709551615 := by omega
      clear hx ht s1 hwr ht1
      go_wp2
      go_roundg (gk - 1)
      case measure => omega
      case rel => exact ⟨k + 1, t / 4294967296, _, by go_num, rfl, by omega, by omega, K4.out, hB.setCell (Nat.le_refl _) _, K2.out, K3, K1⟩
    · obtain rfl : k = n := by omega
      have y0 := hrow.cell (i := k) (by omega)
      have z0 := hrow.frozen k
      have hcm : (ca : Int) % 4294967296 = (ca : Int) := by omega
      have K2 : Hid ((wr.setCell ⟨w.heap.size, k, none⟩ (.int .u32 (ca : Nat))).rowIs w.heap.size 77 (k + 1) (fun i => .int .u32 (upd o k ca i : Nat))) := by
        refine (hrow.set k _).congr fun i _ => ?_
        unfold upd
        by_cases e : i = k
        · rw [if_pos e, if_pos e]
        · rw [if_neg e, if_neg e]
      have K3 : Hid (∀ i, upd o k ca i < 4294967296) := fun i => by
        unfold upd
        split
        · omega
        · exact HO.out i
      have K1 : Hid (nv (upd o k ca) (k + 1) = nv f k * 2 ^ s) := by show _ = _; rw [nv_upd_top]; exact HV.out
      clear hrow
      go_wp2
      go_ret
      exact ⟨_, rfl, K2.out, K3.out, K1.out, hB.setCell (Nat.le_refl _) _⟩
end Go.Proofs.Ytgininddoalenaa
