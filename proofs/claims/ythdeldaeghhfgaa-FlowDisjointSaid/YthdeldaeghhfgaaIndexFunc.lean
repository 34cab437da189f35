/- slices.IndexFunc and slices.ContainsFunc over []int, at a function that only computes. -/
import Derived.Test.YthdeldaeghhfgaaCut
namespace Go.Proofs.Ythdeldaeghhfgaa
open Go.RowKit

/-- flow.Value's own test: out of the range of a capacity. -/
def outCap (x : Int) : Bool := decide (x < 0) || decide (1099511627776 < x)

theorem value1_any (x : Int) (w : World) : Calls Try.prog 36 #[.int .i64 x] w fun e w' => e = .returned (.bool (outCap x)) ∧ w = w' := by
  by_cases h : x < 0
  · go_enter Try.func36, Try.ntmps36
    go_wp2
    go_ret
    exact ⟨ret_bool (by simp [outCap, h]), rfl⟩
  · go_enter Try.func36, Try.ntmps36
    go_wp2
    go_ret
    exact ⟨ret_bool (by simp [outCap]; omega), rfl⟩

def idxTo (p : Int → Bool) (f : Nat → Int) : Nat → Int
  | 0 => -1
  | k + 1 => if 0 ≤ idxTo p f k then idxTo p f k else if p (f k) then k else -1

theorem idxTo_step {p : Int → Bool} {f : Nat → Int} {k : Nat} (h : idxTo p f k = -1) (hp : p (f k) = false) : idxTo p f (k + 1) = -1 := by simp [idxTo, h, hp]
theorem idxTo_hit {p : Int → Bool} {f : Nat → Int} {k n : Nat} (h : idxTo p f k = -1) (hp : p (f k) = true) (hn : k < n) : idxTo p f n = k := by
  induction n with
  | zero => omega
  | succ n ih =>
    by_cases e : k = n
    · subst e; simp [idxTo, h, hp]
    · have := ih (by omega); simp [idxTo, this]

theorem idxTo_neg {p : Int → Bool} {f : Nat → Int} {n : Nat} (h : ∀ i, i < n → p (f i) = false) : idxTo p f n = -1 := by
  induction n with
  | zero => rfl
  | succ n ih => exact idxTo_step (ih fun i hi => h i (by omega)) (h n (by omega))

theorem idxTo_spec (p : Int → Bool) (f : Nat → Int) (n : Nat) : (idxTo p f n = -1 ∧ ∀ i, i < n → p (f i) = false) ∨ (∃ i, i < n ∧ idxTo p f n = i ∧ p (f i) = true) := by
  induction n with
  | zero => exact .inl ⟨rfl, fun i hi => absurd hi (by omega)⟩
  | succ n ih =>
    rcases ih with ⟨h1, h2⟩ | ⟨i, hi, h1, h2⟩
    · cases hp : p (f n)
      · refine .inl ⟨idxTo_step h1 hp, fun i hi => ?_⟩
        by_cases e : i = n
        · subst e; exact hp
        · exact h2 i (by omega)
      · exact .inr ⟨n, by omega, idxTo_hit h1 hp (by omega), hp⟩
    · exact .inr ⟨i, by omega, by simp [idxTo, h1], h2⟩

set_option maxHeartbeats 400000 in
theorem indexFunc_any (fid : Nat) (p : Int → Bool) (hcf : ∀ (x : Value) (W : World), (callFunc fid #[x]).run Try.prog W = .ok (.enter fid #[x]) W) (hp : ∀ (x : Int) (W : World), Calls Try.prog fid #[.int .i64 x] W fun e W' => e = .returned (.bool (p x)) ∧ W = W')
    (F : Option Addr) (n d : Nat) (f : Nat → Int) (w : World) (hf : Ints w w.heap.size F n f) (hn : n ≤ 1024) :
    Calls Try.prog 45 #[.slice F n d, .func (.func fid) #[] #[]] w fun e w' => e = .returned (.int .i64 (idxTo p f n)) ∧ w = w' := by
  have HP := hid hp
  clear hp
  go_enter Try.func45, Try.ntmps45
  go_wp2
  go_loopw [8] (fun i wr => ∃ k : Nat, k ≤ n ∧ i = .int .i64 k ∧ idxTo p f k = -1 ∧ w = wr) (fun i _ => n - (intOf i).toNat)
  case atStart => exact ⟨0, by omega, rfl, rfl, rfl⟩
  case round =>
    obtain ⟨k, hk, rfl, hi, rfl⟩ := hrel
    have hi' := hid hi
    clear hi
    by_cases hlt : k < n
    · obtain ⟨b, off, rfl, hb, e0⟩ := hf.at hlt
      cases hq : p (f k)
      · have HQ := hid hq
        clear hq
        go_wp2_with fail
        refine (HP.out _ _).mono ?_
        rintro e w1 ⟨rfl, rfl⟩
        rw [HQ.out]
        go_wp2
        go_roundw
        case rel => exact ⟨k + 1, by omega, by go_num, idxTo_step hi'.out HQ.out, by first | trivial | rfl⟩
        case measure => simp [intOf]; omega
      · have HQ := hid hq
        clear hq
        go_wp2_with fail
        refine (HP.out _ _).mono ?_
        rintro e w1 ⟨rfl, rfl⟩
        rw [HQ.out]
        go_wp2
        go_ret
        exact ⟨ret_int (idxTo_hit hi'.out HQ.out hlt).symm, rfl⟩
    · obtain rfl : k = n := by omega
      go_wp2
      go_ret
      exact ⟨ret_int hi'.out.symm, rfl⟩

theorem containsFunc_any (fid : Nat) (p : Int → Bool) (hcf : ∀ (x : Value) (W : World), (callFunc fid #[x]).run Try.prog W = .ok (.enter fid #[x]) W) (hp : ∀ (x : Int) (W : World), Calls Try.prog fid #[.int .i64 x] W fun e W' => e = .returned (.bool (p x)) ∧ W = W')
    (F : Option Addr) (n d : Nat) (f : Nat → Int) (w : World) (hf : Ints w w.heap.size F n f) (hn : n ≤ 1024) :
    Calls Try.prog 35 #[.slice F n d, .func (.func fid) #[] #[]] w fun e w' => e = .returned (.bool (decide (0 ≤ idxTo p f n))) ∧ w = w' := by
  have HP := hid hp
  clear hp
  go_enter Try.func35, Try.ntmps35
  go_wp2_with fail
  refine (indexFunc_any fid p hcf HP.out F n d f w hf hn).mono ?_
  rintro e w1 ⟨rfl, rfl⟩
  go_wp2
  go_ret
  exact ⟨rfl, rfl⟩
end Go.Proofs.Ythdeldaeghhfgaa
