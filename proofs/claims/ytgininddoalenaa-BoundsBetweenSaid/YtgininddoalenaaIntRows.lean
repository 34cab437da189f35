/- Lists of lists of integers that come in; ref24 Distance, ref34 Words. -/
import Derived.Test.YtgininddoalenaaNatB
import Derived.Test.YtgininddoalenaaOpen
namespace Go.Proofs.Ytgininddoalenaa
open Go.RowKit Go.ChangeShapes Go.WideShapes Go.ChangeAt

/-- A slice of ints. -/
def IntsR (w : World) (B : Nat) (A : Option Addr) (n : Nat) (f : Nat → Int) : Prop := Rd w B A n 1 (fun j _ => .int .i64 (f j))
theorem IntsR.on {w w' : World} {A : Option Addr} {n : Nat} {f : Nat → Int} (h : IntsR w w.heap.size A n f) (hb : Below w.heap.size w w') : IntsR w' w'.heap.size A n f := (Rd.below h hb (Nat.le_refl _)).mono hb.size
theorem IntsR.at {w : World} {B n i : Nat} {A : Option Addr} {f : Nat → Int} (h : IntsR w B A n f) (hi : i < n) : ∃ b off, A = some ⟨b, off, none⟩ ∧ b < B ∧ w.cell? ⟨b, off + i, none⟩ = some (.int .i64 (f i)) := Rd.at1 h hi
theorem IntsR.congr {w : World} {B n : Nat} {A : Option Addr} {f g : Nat → Int} (h : IntsR w B A n f) (e : ∀ i, i < n → f i = g i) : IntsR w B A n g := fun i hi => by
  obtain ⟨b, off, e1, hb, hc⟩ := h i hi
  exact ⟨b, off, e1, hb, fun j hj => by rw [hc j hj]; show some (Value.int .i64 (f i)) = some (.int .i64 (g i)); rw [e i hi]⟩
/-- A slice of such slices. -/
def IntRows (w : World) (T : Option Addr) (M : Nat) (ln : Nat → Nat) (W : Nat → Nat → Int) : Prop :=
  ∀ i, i < M → ∃ b off A c, T = some ⟨b, off, none⟩ ∧ b < w.heap.size ∧ w.cell? ⟨b, off + i, none⟩ = some (.slice A (ln i) c) ∧ ln i ≤ c ∧ c ≤ maxLen ∧ IntsR w w.heap.size A (ln i) (W i) ∧ ∀ j, j < ln i → -9223372036854775808 ≤ W i j ∧ W i j ≤ 9223372036854775807
theorem IntRows.on {w w' : World} {T : Option Addr} {M : Nat} {ln : Nat → Nat} {W : Nat → Nat → Int} (h : IntRows w T M ln W) (hb : Below w.heap.size w w') : IntRows w' T M ln W := fun i hi => by
  obtain ⟨b, off, A, c, e, h1, h2, h3, h4, h5, h6⟩ := h i hi
  exact ⟨b, off, A, c, e, Nat.lt_of_lt_of_le h1 hb.size, (hb.cell (p := ⟨b, _, none⟩) h1).trans h2, h3, h4, h5.on hb, h6⟩
section
variable {H : Type} {enc : TypeId × Value → H} {w : World} {base : Nat} {spare : Nat → Bool} {held : Bool} {cs : List Value}
theorem sees_rows (h : Sees enc Try.prog w base spare held 30 cs) : ∃ T M c ln W, cs = [.slice T M c] ∧ M ≤ c ∧ c ≤ maxLen ∧ IntRows w T M ln W := by
  obtain ⟨T, m, c, f, hcs, h1, h2, hr, hf⟩ := sees_slice Try.underlying30 (show Try.prog.cellsOf 27 = 1 by kernel_rfl) (by omega) h
  have key : ∀ i, ∃ t : Option Addr × Nat × Nat × (Nat → Int), i < m → f i 0 = .slice t.1 t.2.1 t.2.2.1 ∧ t.2.1 ≤ t.2.2.1 ∧ t.2.2.1 ≤ maxLen ∧ IntsR w w.heap.size t.1 t.2.1 t.2.2.2 ∧ ∀ j, j < t.2.1 → -9223372036854775808 ≤ t.2.2.2 j ∧ t.2.2.2 j ≤ 9223372036854775807 := by
    intro i
    by_cases hi : i < m
    · obtain ⟨A, n, c, g, e, g1, g2, hx, hw⟩ := sees_ints Try.underlying27 Try.underlying3 (by kernel_rfl) (hf i hi)
      have e' : [f i 0] = [.slice A n c] := e
      simp only [List.cons.injEq, and_true] at e'
      exact ⟨(A, n, c, g), fun _ => ⟨e', g1, g2, hx, fun j hj => wf_i64 (hw j hj)⟩⟩
    · exact ⟨(none, 0, 0, fun _ => 0), fun h => absurd h hi⟩
  obtain ⟨t, key⟩ := Classical.axiomOfChoice key
  refine ⟨T, m, c, fun i => (t i).2.1, fun i => (t i).2.2.2, hcs, h1, h2, fun i hi => ?_⟩
  obtain ⟨e0, g1, g2, hx, hw⟩ := key i hi
  obtain ⟨b, off, e, hb, hc⟩ := hr i hi
  have hc0 := hc 0 (by omega)
  rw [e0] at hc0
  exact ⟨b, off, _, _, e, hb, by simpa using hc0, g1, g2, hx, hw⟩
end
/-- The number of places where two lists differ. -/
def disN (f g : Nat → Int) : Nat → Nat
  | 0 => 0
  | k + 1 => disN f g k + if f k = g k then 0 else 1
theorem disN_le (f g : Nat → Int) (k : Nat) : disN f g k ≤ k := by
  induction k with
  | zero => exact Nat.le_refl _
  | succ k ih => unfold disN; split <;> omega

set_option maxRecDepth 100000 in
set_option maxHeartbeats 4000000 in
theorem distance_any (A B : Option Addr) (n c c' : Nat) (f g : Nat → Int) (w : World) (h : IntsR w w.heap.size A n f) (h' : IntsR w w.heap.size B n g) (hn : n ≤ 1048576) :
    Calls Try.prog 31 #[.slice A n c, .slice B n c'] w fun e w' => e = .returned (.int .i64 (disN f g n : Nat)) ∧ Below w.heap.size w w' := by
  go_enter Try.func31, Try.ntmps31
  go_wp2
  go_loopg [5, 6] n (fun gg ov iv wx => ∃ k : Nat, iv = .int .i64 (k : Nat) ∧ ov = .int .i64 (disN f g k : Nat) ∧ k ≤ n ∧ n ≤ k + gg ∧ Below w.heap.size w wx)
  case atStart => exact ⟨0, rfl, rfl, by omega, by omega, Below.refl _ _⟩
  case round =>
    obtain ⟨k, rfl, rfl, hk, hkg, hB⟩ := hrel
    have hk0 : (0 : Int) ≤ (k : Int) := by omega
    by_cases hlt : k < n
    · obtain ⟨b, o, rfl, hb, e0⟩ := (h.on hB).at hlt
      obtain ⟨b2, o2, rfl, hb2, e2⟩ := (h'.on hB).at hlt
      have hlt' : (k : Int) < (n : Int) := by omega
      have hdl := disN_le f g k
      by_cases heq : f k = g k
      · have hnx : Hid (disN f g (k + 1) = disN f g k) := by show _ + _ = _; rw [if_pos heq]; rfl
        obtain ⟨D, hD⟩ : ∃ D, D = disN f g k := ⟨_, rfl⟩
        rw [← hD] at hnx hdl
        rw [← hD]
        obtain ⟨x, hx⟩ : ∃ x, x = f k := ⟨_, rfl⟩
        rw [← heq, ← hx] at e2
        rw [← hx] at e0
        have hne : (x != x) = false := by simp
        clear hD hx heq
        go_wp2
        go_quiet (fail)
        go_wp2
        go_roundg (gk - 1)
        case measure => omega
        case rel => exact ⟨k + 1, by go_num, by rw [hnx.out], by omega, by omega, below_drewN hB _⟩
      · have hnx : Hid (disN f g (k + 1) = disN f g k + 1) := by show _ + _ = _; rw [if_neg heq]
        obtain ⟨D, hD⟩ : ∃ D, D = disN f g k := ⟨_, rfl⟩
        rw [← hD] at hnx hdl
        rw [← hD]
        obtain ⟨x, hx⟩ : ∃ x, x = f k := ⟨_, rfl⟩
        obtain ⟨y, hy⟩ : ∃ x, x = g k := ⟨_, rfl⟩
        rw [← hy] at e2 heq
        rw [← hx] at e0 heq
        have hne : (x != y) = true := by simpa using heq
        have hne2 : (x == y) = false := by simpa using heq
        clear hD hx hy heq
        go_wp2
        go_quiet (fail)
        go_wp2
        go_roundg (gk - 1)
        case measure => omega
        case rel => exact ⟨k + 1, by go_num, by rw [hnx.out]; go_num, by omega, by omega, below_drewN hB _⟩
    · obtain rfl : k = n := by omega
      have hlt' : ¬ (k : Int) < (k : Int) := by omega
      go_wp2
      go_ret
      exact ⟨rfl, hB⟩

/-- The list is a list of words over q symbols. -/
def WordsGood (q : Int) (M : Nat) (ln : Nat → Nat) (W : Nat → Nat → Int) : Prop := 2 ≤ q ∧ q ≤ 256 ∧ 1 ≤ M ∧ 1 ≤ ln 0 ∧ ln 0 ≤ 64 ∧ ∀ i, i < M → ln i = ln 0 ∧ ∀ j, j < ln 0 → 0 ≤ W i j ∧ W i j < q
def WordsPost (q : Int) (M : Nat) (ln : Nat → Nat) (W : Nat → Nat → Int) (w : World) (e : Ending) (w' : World) : Prop := ∃ v : Int, e = .returned (.int .i64 v) ∧ (v = 0 → WordsGood q M ln W) ∧ Below w.heap.size w w'
theorem wordsPost_err {q : Int} {M : Nat} {ln : Nat → Nat} {W : Nat → Nat → Int} {w w' : World} {v : Int} (hv : v ≠ 0) (hB : Below w.heap.size w w') : WordsPost q M ln W w (.returned (.int .i64 v)) w' := ⟨v, rfl, fun h => absurd h hv, hB⟩
set_option maxRecDepth 100000 in
set_option maxHeartbeats 8000000 in
theorem refWords_any (q : Int) (T : Option Addr) (M c : Nat) (ln : Nat → Nat) (W : Nat → Nat → Int) (w : World) (h : IntRows w T M ln W) (hM : M ≤ 300) :
    Calls Try.prog 46 #[.int .i64 q, .slice T M c] w (WordsPost q M ln W w) := by
  by_cases hq1 : q < 2
  · go_enter Try.func46, Try.ntmps46
    go_wp2
    go_ret
    exact wordsPost_err (by omega) (Below.refl _ _)
  by_cases hq2 : 256 < q
  · go_enter Try.func46, Try.ntmps46
    go_wp2
    go_ret
    exact wordsPost_err (by omega) (Below.refl _ _)
  by_cases hM0 : M = 0
  · subst hM0
    go_enter Try.func46, Try.ntmps46
    go_wp2
    go_ret
    exact wordsPost_err (by omega) (Below.refl _ _)
  obtain ⟨b, off, A0, c0, rfl, hb, t0, g1, g2, _⟩ := h 0 (by omega)
  have hMp : (0 : Int) < (M : Int) := by omega
  have hM1 : ((M : Int) == 0) = false := by simp; omega
  unfold maxLen at g2
  obtain ⟨n, hn⟩ : ∃ n, n = ln 0 := ⟨_, rfl⟩
  rw [← hn] at t0 g1
  rw [Nat.add_zero] at t0
  have HN := hid hn
  by_cases hn1 : n < 1
  · have hn1' : (n : Int) < 1 := by omega
    clear hn
    go_enter Try.func46, Try.ntmps46
    go_wp2
    go_ret
    exact wordsPost_err (by omega) (Below.refl _ _)
  by_cases hn2 : 64 < n
  · have hn1' : ¬ (n : Int) < 1 := by omega
    have hn2' : (64 : Int) < (n : Int) := by omega
    clear hn
    go_enter Try.func46, Try.ntmps46
    go_wp2
    go_ret
    exact wordsPost_err (by omega) (Below.refl _ _)
  have hn1' : ¬ (n : Int) < 1 := by omega
  have hn2' : ¬ (64 : Int) < (n : Int) := by omega
  clear hn
  have hbb : b < w.heap.size := hb
  go_enter Try.func46, Try.ntmps46
  go_wp2
  go_loopg [5] M (fun gg iv wx => ∃ i : Nat, iv = .int .i64 (i : Nat) ∧ i ≤ M ∧ M ≤ i + gg ∧ (∀ i', i' < i → ln i' = n ∧ ∀ j, j < n → 0 ≤ W i' j ∧ W i' j < q) ∧ Below w.heap.size w wx)
  case atStart => exact ⟨0, rfl, by omega, by omega, fun i' hi' => by omega, Below.refl _ _⟩
  case round =>
    obtain ⟨i, rfl, hi, hig, hgood, hB⟩ := hrel
    have hi0 : (0 : Int) ≤ (i : Int) := by omega
    have HG := hid hgood
    clear hgood
    have t0' := cellS hB t0
    by_cases hlt : i < M
    · have hlt' : (i : Int) < (M : Int) := by omega
      obtain ⟨b2, off2, A, ca, e, _, t1, k1, k2, hints, hrng⟩ := h i hlt
      injection e with e
      injection e with e1 e2
      subst e1 e2
      have t1' := cellS hB t1
      unfold maxLen at k2
      obtain ⟨l, hl⟩ : ∃ l, l = ln i := ⟨_, rfl⟩
      rw [← hl] at t1 t1' k1 hints hrng
      have HL := hid hl
      clear hl
      by_cases hle : l = n
      · have hle2 : ((l : Int) != (n : Int)) = false := by simp [hle]
        subst hle
        have hgk := hB
        go_wp2
        go_quiet (fail)
        go_wp2
        obtain ⟨gI, rfl⟩ : ∃ gK : Nat, gK = gk := ⟨_, rfl⟩
        clear hle2 t0' t1'
        go_loopg [6] l (fun gg jv wx => ∃ j : Nat, jv = .int .i64 (j : Nat) ∧ j ≤ l ∧ l ≤ j + gg ∧ (∀ j', j' < j → 0 ≤ W i j' ∧ W i j' < q) ∧ Below w.heap.size w wx)
        case atStart => exact ⟨0, rfl, by omega, by omega, fun j' hj' => by omega, below_drewN hB _⟩
        case round =>
          clear hB hgk
          obtain ⟨j, rfl, hj, hjg, hgj, hB⟩ := hrel
          have hj0 : (0 : Int) ≤ (j : Int) := by omega
          have HJ := hid hgj
          clear hgj
          have t1' := cellS hB t1
          by_cases hlj : j < l
          · have hlj' : (j : Int) < (l : Int) := by omega
            obtain ⟨b3, o3, rfl, hb3, e0⟩ := (hints.on hB).at hlj
            obtain ⟨r1, r2⟩ := hrng j hlj
            obtain ⟨x, hx⟩ : ∃ x, x = W i j := ⟨_, rfl⟩
            rw [← hx] at e0 r1 r2
            have HX := hid hx
            clear hx
            by_cases hx0 : x < 0
            · go_wp2
              go_ret
              exact wordsPost_err (by omega) hB
            · by_cases hxq : q ≤ x
              · go_wp2
                go_ret
                exact wordsPost_err (by omega) hB
              · have hx0' : 0 ≤ x := by omega
                have hxq' : ¬ q ≤ x := hxq
                have hnx : Hid (∀ j', j' < j + 1 → 0 ≤ W i j' ∧ W i j' < q) := fun j' hj' => by
                  by_cases ej : j' = j
                  · rw [ej, ← HX.out]; omega
                  · exact HJ.out j' (by omega)
                go_wp2
                go_roundg (gk - 1)
                case measure => omega
                case rel => exact ⟨j + 1, by go_num, by omega, by omega, hnx.out, hB⟩
          · obtain rfl : j = l := by omega
            have hlj' : ¬ (j : Int) < (j : Int) := by omega
            have hnx : Hid (∀ i', i' < i + 1 → ln i' = j ∧ ∀ j', j' < j → 0 ≤ W i' j' ∧ W i' j' < q) := fun i' hi' => by
              by_cases ei : i' = i
              · rw [ei]; exact ⟨HL.out.symm, HJ.out⟩
              · exact HG.out i' (by omega)
            go_wp2
            go_roundg (gI - 1)
            case measure => omega
            case rel => exact ⟨i + 1, by go_num, by omega, by omega, hnx.out, hB⟩
      · have hle2 : ((l : Int) != (n : Int)) = true := by simp; omega
        go_wp2
        go_quiet (fail)
        go_wp2
        go_ret
        exact wordsPost_err (by omega) (below_drewN hB _)
    · obtain rfl : i = M := by omega
      have hlt' : ¬ (i : Int) < (i : Int) := by omega
      go_wp2
      go_ret
      exact ⟨0, rfl, fun _ => ⟨by omega, by omega, by omega, by rw [← HN.out]; omega, by rw [← HN.out]; omega, by rw [← HN.out]; exact HG.out⟩, hB⟩
end Go.Proofs.Ytgininddoalenaa
