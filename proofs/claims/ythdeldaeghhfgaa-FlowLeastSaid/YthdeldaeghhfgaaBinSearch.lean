/- sort.Search with flow.Least$1. -/
import Derived.Test.YthdeldaeghhfgaaIsFlow
import Derived.Deep.LoopGhost
namespace Go.Proofs.Ythdeldaeghhfgaa
open Go.RowKit

/-- The least number from 0 to n with P, as far as the search asks. -/
def LeastOf (P : Int → Prop) (n : Int) (e : Ending) : Prop := ∃ c : Int, e = .returned (.int .i64 c) ∧ 0 ≤ c ∧ c ≤ n ∧ (c < n → P c) ∧ (0 < c → ¬ P (c - 1))

set_option maxHeartbeats 4000000 in
theorem bsearch_any (n : Int) (p1 p2 p3 p4 p5 : Value) (P : Int → Prop) (w : World) (hn : 0 ≤ n) (hn2 : n ≤ 1099511627776)
    (hp : ∀ x : Int, 0 ≤ x → x < n → ∀ W : World, Below w.heap.size w W → Calls Try.prog 47 #[.int .i64 x, p1, p2, p3, p4, p5] W fun e W' => Tells (P x) e ∧ Below W.heap.size W W') :
    Calls Try.prog 49 #[.int .i64 n, .func (.func 47) #[] #[p1, p2, p3, p4, p5]] w fun e w' => LeastOf P n e ∧ Below w.heap.size w w' := by
  have HP := hid hp
  clear hp
  have hcf : ∀ (x : Value) (W : World), (callFunc 47 #[x, p1, p2, p3, p4, p5]).run Try.prog W = .ok (.enter 47 #[x, p1, p2, p3, p4, p5]) W := fun _ _ => by kernel_rfl
  go_enter Try.func49, Try.ntmps49
  go_wp2
  go_loopg [5, 6] n.toNat (fun g iv jv wx => ∃ i j : Int, iv = .int .i64 i ∧ jv = .int .i64 j ∧ 0 ≤ i ∧ i ≤ j ∧ j ≤ n ∧ (j - i).toNat ≤ g ∧ Hid (0 < i → ¬ P (i - 1)) ∧ Hid (j < n → P j) ∧ Below w.heap.size w wx)
  case atStart => exact ⟨0, n, rfl, rfl, by omega, by omega, by omega, by omega, hid fun h => by omega, hid fun h => by omega, Below.refl _ _⟩
  case round =>
    obtain ⟨i, j, rfl, rfl, hi, hij, hj, hg, HI, HJ, hB⟩ := hrel
    by_cases hlt : i < j
    · have hw0 : 0 ≤ i + j := by omega
      go_wp2_with fail
      refine (HP.out ((i + j) / 2) (by omega) (by omega) wr hB).mono ?_
      rintro e w1 ⟨⟨b, hb, rfl⟩, hB1⟩
      have hBn := onS hB hB1
      obtain ⟨h, hh⟩ : ∃ h, h = (i + j) / 2 := ⟨_, rfl⟩
      rw [← hh] at hb ⊢
      have h1 : i ≤ h := by omega
      have h2 : h < j := by omega
      have HB := hid hb
      clear hB1 hb hh hB
      cases b
      · have HN : Hid (0 < h + 1 → ¬ P (h + 1 - 1)) := fun _ hp => by
          rw [show h + 1 - 1 = h by omega] at hp
          have := HB.out.2 hp
          cases this
        go_wp2
        go_roundg (gk - 1)
        case measure => omega
        case rel => exact ⟨h + 1, j, rfl, rfl, by omega, by omega, hj, by omega, HN, HJ, hBn⟩
      · have HN : Hid (h < n → P h) := fun _ => HB.out.1 rfl
        go_wp2
        go_roundg (gk - 1)
        case measure => omega
        case rel => exact ⟨i, h, rfl, rfl, hi, h1, by omega, by omega, HI, HN, hBn⟩
    · obtain rfl : i = j := by omega
      go_wp2
      go_ret
      exact ⟨⟨i, rfl, hi, hj, HJ.out, HI.out⟩, hB⟩
end Go.Proofs.Ythdeldaeghhfgaa
