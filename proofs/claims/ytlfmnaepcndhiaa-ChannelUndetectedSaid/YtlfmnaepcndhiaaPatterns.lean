/- ChannelPatterns returns true. -/
import Derived.Test.YtlfmnaepcndhiaaRefPat
namespace Go.Proofs.Ytlfmnaepcndhiaa
open Go.RowKit Go.ChangeShapes Go.WideShapes Go.ChangeAt

/-- The arguments are out of their ranges. -/
def PatBad (q n v : Int) : Prop := q < 2 ∨ (2 ≤ q ∧ 256 < q) ∨ (2 ≤ q ∧ q ≤ 256 ∧ n < 0) ∨ (2 ≤ q ∧ q ≤ 256 ∧ 0 ≤ n ∧ 64 < n) ∨ (2 ≤ q ∧ q ≤ 256 ∧ 0 ≤ n ∧ n ≤ 64 ∧ v < 0) ∨ (2 ≤ q ∧ q ≤ 256 ∧ 0 ≤ n ∧ n ≤ 64 ∧ 0 ≤ v ∧ n < v)
theorem pat_dec (q n v : Int) : PatBad q n v ∨ ∃ q' n' v' : Nat, q = q' ∧ n = n' ∧ v = v' ∧ 2 ≤ q' ∧ q' ≤ 256 ∧ n' ≤ 64 ∧ v' ≤ n' := by
  by_cases h : 2 ≤ q ∧ q ≤ 256 ∧ 0 ≤ n ∧ n ≤ 64 ∧ 0 ≤ v ∧ v ≤ n
  · exact .inr ⟨q.toNat, n.toNat, v.toNat, by omega, by omega, by omega, by omega, by omega, by omega, by omega⟩
  · left; unfold PatBad; omega
/-- What Pattern leaves. -/
def PolyOk (n : Nat) (rs : Nat → Rat) (w : World) (e : Ending) (w' : World) : Prop :=
  ∃ A c, e = .returned (.tuple #[.slice A n c, .int .i64 0]) ∧ n ≤ c ∧ c ≤ maxLen ∧ RatList w' w'.heap.size A n rs ∧ Below w.heap.size w w'

set_option maxRecDepth 100000 in
set_option maxHeartbeats 4000000 in
theorem chPattern_bad (q n v : Int) (w : World) (h : PatBad q n v) :
    Calls Try.prog 8 #[.int .i64 q, .int .i64 n, .int .i64 v] w fun e w' => e = .returned (.tuple #[.slice none 0 0, .int .i64 6]) ∧ w = w' := by
  rcases h with h1 | ⟨h1, h2⟩ | ⟨h1, h2, h3⟩ | ⟨h1, h2, h3, h4⟩ | ⟨h1, h2, h3, h4, h5⟩ | ⟨h1, h2, h3, h4, h5, h6⟩
  · have g1 : ¬ (2 : Int) ≤ q := by omega
    go_enter Try.func8, Try.ntmps8
    go_wp2
    go_ret2
    exact ⟨rfl, rfl⟩
  · have g2 : ¬ q ≤ (256 : Int) := by omega
    go_enter Try.func8, Try.ntmps8
    go_wp2
    go_ret2
    exact ⟨rfl, rfl⟩
  · have g3 : ¬ (0 : Int) ≤ n := by omega
    go_enter Try.func8, Try.ntmps8
    go_wp2
    go_ret2
    exact ⟨rfl, rfl⟩
  · have g4 : ¬ n ≤ (64 : Int) := by omega
    go_enter Try.func8, Try.ntmps8
    go_wp2
    go_ret2
    exact ⟨rfl, rfl⟩
  · have g5 : ¬ (0 : Int) ≤ v := by omega
    go_enter Try.func8, Try.ntmps8
    go_wp2
    go_ret2
    exact ⟨rfl, rfl⟩
  · have g6 : ¬ v ≤ n := by omega
    go_enter Try.func8, Try.ntmps8
    go_wp2
    go_ret2
    exact ⟨rfl, rfl⟩
set_option maxRecDepth 100000 in
set_option maxHeartbeats 4000000 in
theorem chPattern_ok (q n v : Nat) (w : World) (hq : 2 ≤ q) (hq2 : q ≤ 256) (hn : n ≤ 64) (hv : v ≤ n) :
    Calls Try.prog 8 #[.int .i64 (q : Nat), .int .i64 (n : Nat), .int .i64 (v : Nat)] w (PolyOk (n + 1) (patR q n v) w) := by
  have h1 : (2 : Int) ≤ (q : Int) := by omega
  have h2 : (q : Int) ≤ 256 := by omega
  have h3 : (0 : Int) ≤ (n : Int) := by omega
  have h4 : (n : Int) ≤ 64 := by omega
  have h5 : (0 : Int) ≤ (v : Int) := by omega
  have h6 : (v : Int) ≤ (n : Int) := by omega
  go_enter Try.func8, Try.ntmps8
  go_wp2_with fail
  refine (chPattern_any q n v w hq hq2 hn hv).mono ?_
  rintro e w1 ⟨A, c, rfl, l1, l2, l3, kb⟩
  obtain ⟨M, hM⟩ : ∃ M, M = n + 1 := ⟨_, rfl⟩
  rw [← hM] at l1 l3 ⊢
  have HM := hid hM
  clear hM
  go_wp2
  go_ret2
  rw [← HM.out]
  exact ⟨_, _, rfl, l1, l2, l3, kb⟩

set_option maxRecDepth 100000 in
set_option maxHeartbeats 8000000 in
theorem channelPatterns_any (q n v : Int) (w : World) :
    Calls Try.prog 3 #[.int .i64 q, .int .i64 n, .int .i64 v] w fun e w' => e = .returned (.bool true) ∧ Below w.heap.size w w' := by
  by_cases hmid : 16 < n ∧ n ≤ 64
  · obtain ⟨m1, m2⟩ := hmid
    go_enter Try.func3, Try.ntmps3
    go_wp2
    go_ret
    exact ⟨rfl, Below.refl _ _⟩
  · rcases pat_dec q n v with h | ⟨q, n, v, rfl, rfl, rfl, hq, hq2, hn, hv⟩
    · have H := hid h
      rcases h with h1 | ⟨h1, h2⟩ | ⟨h1, h2, h3⟩ | ⟨h1, h2, h3, h4⟩ | ⟨h1, h2, h3, h4, h5⟩ | ⟨h1, h2, h3, h4, h5, h6⟩
      · by_cases hn : n ≤ 16
        · have g1 : ¬ (2 : Int) ≤ q := by omega
          have m1 : ¬ (16 : Int) < n := by omega
          clear hn hmid
          go_enter Try.func3, Try.ntmps3
          go_wp2_with fail
          refine (chPattern_bad q n v w H.out).mono ?_
          rintro e w1 ⟨rfl, rfl⟩
          go_wp2
          go_ret
          exact ⟨rfl, Below.refl _ _⟩
        · have g1 : ¬ (2 : Int) ≤ q := by omega
          have m1 : (16 : Int) < n := by omega
          have m2 : ¬ n ≤ (64 : Int) := by omega
          clear hn hmid
          go_enter Try.func3, Try.ntmps3
          go_wp2_with fail
          refine (chPattern_bad q n v w H.out).mono ?_
          rintro e w1 ⟨rfl, rfl⟩
          go_wp2
          go_ret
          exact ⟨rfl, Below.refl _ _⟩
      · by_cases hn : n ≤ 16
        · have g2 : ¬ q ≤ (256 : Int) := by omega
          have m1 : ¬ (16 : Int) < n := by omega
          clear hn hmid
          go_enter Try.func3, Try.ntmps3
          go_wp2_with fail
          refine (chPattern_bad q n v w H.out).mono ?_
          rintro e w1 ⟨rfl, rfl⟩
          go_wp2
          go_ret
          exact ⟨rfl, Below.refl _ _⟩
        · have g2 : ¬ q ≤ (256 : Int) := by omega
          have m1 : (16 : Int) < n := by omega
          have m2 : ¬ n ≤ (64 : Int) := by omega
          clear hn hmid
          go_enter Try.func3, Try.ntmps3
          go_wp2_with fail
          refine (chPattern_bad q n v w H.out).mono ?_
          rintro e w1 ⟨rfl, rfl⟩
          go_wp2
          go_ret
          exact ⟨rfl, Below.refl _ _⟩
      · have g3 : ¬ (0 : Int) ≤ n := by omega
        have m1 : ¬ (16 : Int) < n := by omega
        clear hmid
        go_enter Try.func3, Try.ntmps3
        go_wp2_with fail
        refine (chPattern_bad q n v w H.out).mono ?_
        rintro e w1 ⟨rfl, rfl⟩
        go_wp2
        go_ret
        exact ⟨rfl, Below.refl _ _⟩
      · have g4 : ¬ n ≤ (64 : Int) := by omega
        have m1 : (16 : Int) < n := by omega
        have m2 : ¬ n ≤ (64 : Int) := by omega
        clear hmid
        go_enter Try.func3, Try.ntmps3
        go_wp2_with fail
        refine (chPattern_bad q n v w H.out).mono ?_
        rintro e w1 ⟨rfl, rfl⟩
        go_wp2
        go_ret
        exact ⟨rfl, Below.refl _ _⟩
      · have g5 : ¬ (0 : Int) ≤ v := by omega
        have m1 : ¬ (16 : Int) < n := by omega
        clear hmid
        go_enter Try.func3, Try.ntmps3
        go_wp2_with fail
        refine (chPattern_bad q n v w H.out).mono ?_
        rintro e w1 ⟨rfl, rfl⟩
        go_wp2
        go_ret
        exact ⟨rfl, Below.refl _ _⟩
      · have g6 : ¬ v ≤ n := by omega
        have m1 : ¬ (16 : Int) < n := by omega
        clear hmid
        go_enter Try.func3, Try.ntmps3
        go_wp2_with fail
        refine (chPattern_bad q n v w H.out).mono ?_
        rintro e w1 ⟨rfl, rfl⟩
        go_wp2
        go_ret
        exact ⟨rfl, Below.refl _ _⟩
    · have h1 : (2 : Int) ≤ (q : Int) := by omega
      have h2 : (q : Int) ≤ 256 := by omega
      have h3 : (0 : Int) ≤ (n : Int) := by omega
      have h4 : (n : Int) ≤ 64 := by omega
      have h5 : (0 : Int) ≤ (v : Int) := by omega
      have h6 : (v : Int) ≤ (n : Int) := by omega
      have m1 : ¬ (16 : Int) < (n : Int) := by omega
      have m3 : n ≤ 16 := by omega
      clear hmid
      have hrs : Hid (∀ k, k < n + 1 → rsz (patR q n v k) 200) := fun k _ => by
        unfold patR
        split
        · exact rsz_zero.mono (by omega)
        · exact rsz_rv (by have := dl_chs (n - v) (k - v) (by omega); omega) (by have := dl_qpow (q := q - 1) (n := v) (by omega) (by omega); omega) (by omega)
      obtain ⟨M, hM⟩ : ∃ M, M = n + 1 := ⟨_, rfl⟩
      have hMb : M ≤ 100 := by omega
      have HP1 : Hid (∀ (W : World) (e : Ending) (W' : World), PolyOk (n + 1) (patR q n v) W e W' → PolyOk M (patR q n v) W e W') := fun _ _ _ h => by rw [hM]; exact h
      have HP2 : Hid (∀ (W : World) (e : Ending) (W' : World), PolyPost (n + 1) (patR q n v) W e W' → PolyPost M (patR q n v) W e W') := fun _ _ _ h => by rw [hM]; exact h
      rw [← hM] at hrs
      clear hM
      go_enter Try.func3, Try.ntmps3
      go_wp2_with fail
      refine ((chPattern_ok q n v w hq hq2 hn hv).mono (fun e W' => HP1.out _ e W')).mono ?_
      rintro e w1 ⟨A, c, rfl, l1, l2, l3, kb⟩
      have hB := kb
      clear kb
      go_wp2_with fail
      refine ((refPattern_any q n v _ hq hq2 hn hv).mono (fun e W' => HP2.out _ e W')).mono ?_
      rintro e w2 ⟨A', c', rfl, k1, k2, k3, kb⟩
      replace l3 := l3.on kb
      replace hB := onS hB kb
      clear kb
      go_wp2_with fail
      refine (lawSame_any A A' M c c' 200 (patR q n v) _ l3 k3 (by omega) (by omega) hrs).mono ?_
      rintro e w3 ⟨rfl, kb⟩
      replace hB := onS hB kb
      clear kb
      go_wp2
      go_ret
      exact ⟨rfl, hB⟩
theorem channelPatterns_law {w : World} {q n v : Int} (_hq : (Lit.int .i64 q).wf = true) (_hn : (Lit.int .i64 n).wf = true) (_hv : (Lit.int .i64 v).wf = true) :
    Calls Try.prog 3 #[.int .i64 q, .int .i64 n, .int .i64 v] w fun e w' => e = .returned (.bool true) ∧ Below w.heap.size w w' := channelPatterns_any q n v w
end Go.Proofs.Ytlfmnaepcndhiaa
