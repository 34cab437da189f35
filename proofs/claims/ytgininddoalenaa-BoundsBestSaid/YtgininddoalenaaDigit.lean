/- nat.digit: division by one limb. -/
import Derived.Test.YtgininddoalenaaPlus
import Derived.Laws.Bits64b
namespace Go.Proofs.Ytgininddoalenaa
open Go.RowKit

theorem digit_step {f o : Nat → Nat} {n k b r : Nat} (hk : k < n) (hv1 : hv f (k + 1) n = b * hv o (k + 1) n + r) :
    hv f k n = b * hv (upd o k ((r * 4294967296 + f k) / b)) k n + (r * 4294967296 + f k) % b := by
  rw [hv_step hk, hv_step hk, upd_same, hv_congr (g := o) (fun j h1 _ => upd_other (by omega)), hv1]
  have := Nat.div_add_mod (r * 4294967296 + f k) b
  generalize (r * 4294967296 + f k) / b = q at *
  generalize (r * 4294967296 + f k) % b = s at *
  grind
theorem digit_lt {r b x : Nat} (hr : r < b) (hx : x < 4294967296) : (r * 4294967296 + x) / b < 4294967296 := by
  refine Nat.div_lt_of_lt_mul ?_
  have : (r + 1) * 4294967296 ≤ b * 4294967296 := Nat.mul_le_mul_right _ hr
  omega

theorem or_limbs {r x : Nat} (hr : r < 4294967296) (hx : x < 4294967296) : bits .or .u64 ((r : Int) * 4294967296) (x : Int) = ((r * 4294967296 + x : Nat) : Int) := by
  have h := bits_or_u64_nat (r * 4294967296) x (by omega) (by omega)
  rw [Int.natCast_mul] at h
  rw [show ((4294967296 : Nat) : Int) = 4294967296 from rfl] at h
  rw [h]
  have e := Nat.two_pow_add_eq_or_of_lt (i := 32) (b := x) hx r
  rw [show (2 : Nat) ^ 32 = 4294967296 from rfl, Nat.mul_comm] at e
  rw [← e]

/-- What digit leaves. -/
def DigitPost (x b : Nat) (w : World) (e : Ending) (w' : World) : Prop :=
  ∃ A c, e = .returned (.tuple #[.slice A (dl (x / b)) c, .int .u32 (x % b : Nat)]) ∧ dl (x / b) ≤ c ∧ c ≤ maxLen ∧ NatOk w' w'.heap.size A (x / b) ∧ Below w.heap.size w w'

set_option maxRecDepth 100000 in
set_option maxHeartbeats 4000000 in
theorem digit_any (A : Option Addr) (n c b : Nat) (f : Nat → Nat) (w : World) (h : Lims w w.heap.size A n f) (hf : Hid (∀ i, i < n → f i < 4294967296)) (hn : n ≤ 536870912) (hb0 : 0 < b) (hb1 : b < 4294967296) :
    Calls Try.prog 129 #[.slice A n c, .int .u32 (b : Nat)] w (DigitPost (nv f n) b w) := by
  have hmk := fun W => run_makeI (P := Try.prog) 39 77 _ 4 Try.underlying39 Try.infoU32 rfl (n : Int) (by omega) (by omega) (by omega) W
  have hrow0 := World.rowIs_made w (.int .u32 0) n 77
  go_enter Try.func129, Try.ntmps129
  go_wp2
  go_loopg [8, 7] n (fun gg iv rv wx => ∃ k r : Nat, ∃ o : Nat → Nat, iv = .int .i64 ((k : Nat) - 1 : Int) ∧ rv = .int .u64 (r : Nat) ∧ k ≤ n ∧ k ≤ gg ∧ r < b ∧ Below w.heap.size w wx ∧ wx.rowIs w.heap.size 77 n (fun i => .int .u32 (o i : Nat)) ∧ Hid (∀ i, o i < 4294967296) ∧ Hid (hv f k n = b * hv o k n + r))
  case atStart => exact ⟨n, 0, fun _ => 0, rfl, rfl, by omega, by omega, hb0, (Below.refl _ _).alloc (Nat.le_refl _) _, hrow0, hid fun _ => by show 0 < _; omega, hid (by rw [hv_end, hv_end]; rfl)⟩
  case round =>
    clear hrow0 hmk
    obtain ⟨k, r, o, rfl, rfl, hk, hkg, hr, hB, hrow, HO, HV⟩ := hrel
    have hz := hrow.lt
    by_cases h0 : 0 < k
    · obtain ⟨k, rfl⟩ : ∃ k', k = k' + 1 := ⟨k - 1, by omega⟩
      have ek : (((k + 1 : Nat) : Int) - 1) = (k : Int) := by omega
      rw [ek]
      obtain ⟨b1, o1, rfl, hb2, e0⟩ := (h.on hB).at (i := k) (by omega)
      have q1 := hf.out k (by omega)
      have hlt' : (k : Int) < (n : Int) := by omega
      have y0 := hrow.cell (i := k) (by omega)
      have z0 := hrow.frozen k
      have K1 := hid (digit_step (show k < n by omega) HV.out)
      obtain ⟨x, hx⟩ : ∃ x, x = f k := ⟨_, rfl⟩
      rw [← hx] at e0 q1 K1
      have K4 := hid (digit_lt hr q1)
      obtain ⟨t, ht⟩ : ∃ t, t = r * 4294967296 + x := ⟨_, rfl⟩
      have hor : bits .or .u64 ((r : Int) * 4294967296) (x : Int) = (t : Int) := by rw [ht]; exact or_limbs (by omega) q1
      rw [← ht] at K1 K4
      obtain ⟨q, hq⟩ : ∃ q, q = t / b := ⟨_, rfl⟩
      obtain ⟨s, hs⟩ : ∃ s, s = t % b := ⟨_, rfl⟩
      have hsb : s < b := by rw [hs]; exact Nat.mod_lt _ hb0
      have hq1 : (t : Int).tdiv (b : Int) = (q : Int) := by rw [hq, Int.tdiv_eq_ediv_of_nonneg (by omega)]; rfl
      have hs1 : (t : Int).tmod (b : Int) = (s : Int) := by rw [hs, Int.tmod_eq_emod_of_nonneg (by omega)]; rfl
      rw [← hq, ← hs] at K1
      rw [← hq] at K4
      have hqb := K4.out
      have hwq : IntKind.u64.wrap (q : Int) = (q : Int) := IntWalk.u64_in _ (by omega)
      have hwm : (q : Int) % 4294967296 = (q : Int) := by omega
      have K2 : Hid ((wr.setCell ⟨w.heap.size, k, none⟩ (.int .u32 (q : Nat))).rowIs w.heap.size 77 n (fun i => .int .u32 (upd o k q i : Nat))) := by
        refine (hrow.set k _).congr fun i _ => ?_
        unfold upd
        by_cases e : i = k
        · rw [if_pos e, if_pos e]
        · rw [if_neg e, if_neg e]
      have K3 : Hid (∀ i, upd o k q i < 4294967296) := fun i => by
        unfold upd
        split
        · exact hqb
        · exact HO.out i
      have hbne : ((b : Int) == 0) = false := by simp; omega
      clear hx ek hq hs ht
      go_wp2
      go_roundg (gk - 1)
      case measure => omega
      case rel => exact ⟨k, s, _, rfl, rfl, by omega, by omega, hsb, hB.setCell (Nat.le_refl _) _, K2.out, K3, K1⟩
    · obtain rfl : k = 0 := by omega
      have HQ : Hid (nv f n / b = nv o n ∧ nv f n % b = r) := by
        have := HV.out
        rw [hv_all, hv_all] at this
        show _ ∧ _
        rw [this]
        exact ⟨by rw [Nat.mul_add_div hb0, Nat.div_eq_of_lt hr, Nat.add_zero], by rw [Nat.mul_add_mod, Nat.mod_eq_of_lt hr]⟩
      have hob : Hid (∀ i, i < n → o i < 4294967296) := fun i _ => HO.out i
      have hr2 : ((r : Int) % 4294967296) = r := by omega
      go_wp2_with fail
      refine (short_any (some ⟨w.heap.size, 0, none⟩) n n o wr (lims_row hrow) hob (Nat.le_refl _) (by unfold maxLen; omega)).mono ?_
      rintro e w1 ⟨rfl, hR, rfl⟩
      rw [← HQ.out.1] at hR ⊢
      have hdl : dl (nv f n / b) ≤ n := by rw [HQ.out.1]; exact dl_le (nv_lt hob.out)
      clear hrow HO HV
      go_wp2
      go_ret2
      exact ⟨_, _, by rw [HQ.out.2]; rfl, Nat.le_refl _, by unfold maxLen; omega, hR, hB⟩
end Go.Proofs.Ytgininddoalenaa
