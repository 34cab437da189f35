/- codewrightref04: irreducible, Check. -/
import Derived.Test.YtgininddoalenaaFldF
namespace Go.Proofs.Ytgininddoalenaa
open Go.RowKit

set_option maxRecDepth 100000 in
set_option maxHeartbeats 16000000 in
theorem irreducible_any (P M : Nat) (A : Option Addr) (c : Nat) (m : Nat → Nat) (w : World) (hP2 : 2 ≤ P) (hP : P ≤ 256) (hM2 : 2 ≤ M) (hM8 : M ≤ 8) (hq : P ^ M ≤ 256)
    (hm : IntsR w w.heap.size A M (fun i => (m i : Nat))) (hml : Hid (∀ i, i < M → m i < P)) :
    Calls Try.prog 64 #[.slice A M c, .int .i64 (P : Nat)] w (IffPost (IrrB P M m) w) := by
  go_enter Try.func64, Try.ntmps64
  go_wp2
  go_loopg [5, 6] M (fun gg cv dv wx => ∃ d : Nat, dv = .int .i64 (d : Nat) ∧ cv = .int .i64 (P ^ (d - 1) : Nat) ∧ 1 ≤ d ∧ 2 * d ≤ M + 2 ∧ M + 1 ≤ d + gg ∧ (∀ d', 1 ≤ d' → d' < d → ∀ v, v < P ^ d' → ¬ DivB P M m d' (dig P v)) ∧ Below w.heap.size w wx)
  case atStart => exact ⟨1, rfl, rfl, by omega, by omega, by omega, fun d' h1 h2 => by omega, Below.refl _ _⟩
  case round =>
    obtain ⟨d, rfl, rfl, hd1, hd2, hdg, hno, hB⟩ := hrel
    have HNO := hid hno
    clear hno
    by_cases hlt : 2 * d ≤ M
    · have hlt' : 2 * (d : Int) ≤ (M : Int) := by omega
      have hpd : P ^ d ≤ 256 := Nat.le_trans (Nat.pow_le_pow_right (by omega) (by omega)) hq
      have hpe : P ^ (d - 1) * P = P ^ d := by rw [← Nat.pow_succ]; congr 1; omega
      have hpl : P ^ (d - 1) ≤ 256 := Nat.le_trans (Nat.pow_le_pow_right (by omega) (by omega)) hq
      obtain ⟨Q, hQ⟩ : ∃ Q, Q = P ^ (d - 1) := ⟨_, rfl⟩
      obtain ⟨R, hR⟩ : ∃ Q, Q = P ^ d := ⟨_, rfl⟩
      rw [← hQ] at hpe hpl
      rw [← hR] at hpe hpd
      rw [← hQ]
      have hmul : (Q : Int) * (P : Int) = (R : Int) := by rw [← hpe]; simp
      have hw1 : IntKind.i64.wrap ((Q : Int) * (P : Int)) = (R : Int) := by rw [hmul]; exact IntWalk.i64_in _ (by omega)
      have hw2 : IntKind.i64.wrap (R : Int) = (R : Int) := IntWalk.i64_in _ (by omega)
      have HR := hid hR
      clear hQ hR hpe
      go_wp2
      obtain ⟨gI, rfl⟩ : ∃ gK : Nat, gK = gk := ⟨_, rfl⟩
      clear hw1 hmul
      go_loopg [7] R (fun gg vv wx => ∃ v : Nat, vv = .int .i64 (v : Nat) ∧ v ≤ R ∧ R ≤ v + gg ∧ (∀ v', v' < v → ¬ DivB P M m d (dig P v')) ∧ Below w.heap.size w wx)
      case atStart => exact ⟨0, rfl, by omega, by omega, fun v' h => by omega, hB⟩
      case round =>
        clear hB
        obtain ⟨v, rfl, hv, hvg, hnv, hB⟩ := hrel
        have HNV := hid hnv
        clear hnv
        by_cases hlv : v < R
        · have hlv' : (v : Int) < (R : Int) := by omega
          go_wp2_with fail
          refine (digits_any v P d _ (by omega) (by omega) (by omega) (by omega)).mono ?_
          rintro e w1 ⟨rfl, rd, kb⟩
          have hB1 := onS hB kb
          have hint : IntsR w1 w1.heap.size (some ⟨wr.heap.size, 0, none⟩) d (fun i => (dig P v i : Nat)) := Rd_of_row rd
          have hll : Hid (∀ i, i < d → dig P v i < P) := fun i _ => dig_lt (by omega) v i
          clear kb rd
          go_wp2_with fail
          refine (divides_any P M d A _ c d m (dig P v) w1 hP2 hP hd1 (by omega) hM8 (hm.on hB1) hml hint hll).mono ?_
          rintro e w2 ⟨b, rfl, hb, kb⟩
          have hB2 := onS hB1 kb
          clear kb hint hll hB hB1
          have HB := hid hb
          clear hb
          cases b
          · have hnx : Hid (∀ v', v' < v + 1 → ¬ DivB P M m d (dig P v')) := fun v' h h2 => by
              by_cases e : v' = v
              · have := HB.out.2 (e ▸ h2)
                cases this
              · exact HNV.out v' (by omega) h2
            go_wp2
            go_roundg (gk - 1)
            case measure => omega
            case rel => exact ⟨v + 1, by go_num, by omega, by omega, hnx.out, hB2⟩
          · have hdv : Hid (¬ IrrB P M m) := fun h => h d hd1 hlt v (by rw [← HR.out]; exact hlv) (HB.out.1 rfl)
            go_wp2
            go_ret
            exact iffPost_f hdv.out hB2
        · obtain rfl : v = R := by omega
          have hlv' : ¬ (v : Int) < (v : Int) := by omega
          have hnx : Hid (∀ d', 1 ≤ d' → d' < d + 1 → ∀ v', v' < P ^ d' → ¬ DivB P M m d' (dig P v')) := fun d' h1 h2 v' h3 => by
            by_cases e : d' = d
            · subst e
              exact HNV.out v' (by rw [HR.out]; exact h3)
            · exact HNO.out d' h1 (by omega) v' h3
          go_wp2
          go_roundg (gI - 1)
          case measure => omega
          case rel => exact ⟨d + 1, by go_num, by rw [HR.out]; simp, by omega, by omega, by omega, hnx.out, hB⟩
    · have hlt' : ¬ 2 * (d : Int) ≤ (M : Int) := by omega
      have hirr : Hid (IrrB P M m) := fun d' h1 h2 v hv => HNO.out d' h1 (by omega) v hv
      clear hlt
      go_wp2
      go_ret
      exact iffPost_t hirr.out hB
end Go.Proofs.Ytgininddoalenaa
