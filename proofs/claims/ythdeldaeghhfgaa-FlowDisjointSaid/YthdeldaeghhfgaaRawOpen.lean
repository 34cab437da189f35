/- The inputs of the flow laws, cell by cell. -/
import Derived.Test.YthdeldaeghhfgaaNetOpen
import Derived.Test.YthdeldaeghhfgaaCut
namespace Go.Proofs.Ythdeldaeghhfgaa
open Go.ChangeShapes Go.WideShapes Go.ChangeAt Go.RowKit

section
variable {H : Type} {enc : TypeId × Value → H} {w : World} {base : Nat} {spare : Nat → Bool} {held : Bool} {cs : List Value}
theorem cells_int : Try.prog.cellsOf 3 = 1 := by kernel_rfl
theorem cells_bool : Try.prog.cellsOf 4 = 1 := by kernel_rfl
theorem cells_sints : Try.prog.cellsOf 33 = 1 := by kernel_rfl
theorem cells_sbools : Try.prog.cellsOf 28 = 1 := by kernel_rfl
theorem cells_net : Try.prog.cellsOf 24 = 2 := by kernel_rfl
theorem cells_flow : Try.prog.cellsOf 39 = 3 := by kernel_rfl

theorem sees_i64 (h : Sees enc Try.prog w base spare held 3 cs) : ∃ n : Int, cs = [.int .i64 n] ∧ I64 n := by
  obtain ⟨n, h1, h2⟩ := sees_int Try.underlying3 h
  exact ⟨n, h1, wf_i64 h2⟩
theorem sees_sints (h : Sees enc Try.prog w base spare held 33 cs) : ∃ (A : Option Addr) (n c : Nat) (g : Nat → Int), cs = [.slice A n c] ∧ (n ≤ c ∧ c ≤ maxLen) ∧ Ints w w.heap.size A n g ∧ ∀ i, i < n → I64 (g i) := by
  obtain ⟨A, n, c, g, h1, h2, h3, h4, h5⟩ := sees_ints Try.underlying33 Try.underlying3 cells_int h
  exact ⟨A, n, c, g, h1, ⟨h2, h3⟩, h4, fun i hi => wf_i64 (h5 i hi)⟩
theorem sees_sbools (h : Sees enc Try.prog w base spare held 28 cs) : ∃ (A : Option Addr) (n c : Nat) (g : Nat → Bool), cs = [.slice A n c] ∧ (n ≤ c ∧ c ≤ maxLen) ∧ Bools w w.heap.size A n g := by
  obtain ⟨A, n, c, g, h1, h2, h3, h4⟩ := sees_bools Try.underlying28 Try.underlying4 cells_bool h
  exact ⟨A, n, c, g, h1, ⟨h2, h3⟩, h4⟩

theorem sees_flow (h : Sees enc Try.prog w base spare held 39 cs) :
    ∃ (val : Int) (F : Option Addr) (m d : Nat) (f : Nat → Int) (S : Option Addr) (ms ds : Nat) (sd : Nat → Bool), cs = [.int .i64 val, .slice F m d, .slice S ms ds] ∧ (I64 val ∧ (m ≤ d ∧ d ≤ maxLen) ∧ ms ≤ ds ∧ ds ≤ maxLen) ∧
      Ints w w.heap.size F m f ∧ (∀ i, i < m → I64 (f i)) ∧ Bools w w.heap.size S ms sd := by
  obtain ⟨hl, _⟩ := sees_struct Try.underlying39 h
  match cs, hl.trans cells_flow with
  | [c0, c1, c2], _ =>
    have g0 := sees_at Try.underlying39 h 0 3 0 1 ⟨_, rfl, rfl, rfl⟩ cells_int
    have g1 := sees_at Try.underlying39 h 1 33 1 1 ⟨_, rfl, rfl, rfl⟩ cells_sints
    have g2 := sees_at Try.underlying39 h 2 28 2 1 ⟨_, rfl, rfl, rfl⟩ cells_sbools
    obtain ⟨val, e0, w0⟩ := sees_i64 g0
    obtain ⟨F, m, d, f, e1, w1, hf, wf⟩ := sees_sints g1
    obtain ⟨S, ms, ds, sd, e2, w2, hs⟩ := sees_sbools g2
    simp at e0 e1 e2
    subst e0 e1 e2
    exact ⟨val, F, m, d, f, S, ms, ds, sd, rfl, ⟨w0, w1, w2⟩, hf, wf, hs⟩

theorem sees_raw (h : Sees enc Try.prog w base spare held 41 cs) :
    ∃ (N : Net) (A : Option Addr) (c : Nat) (s t val : Int) (F : Option Addr) (m d : Nat) (f : Nat → Int) (S : Option Addr) (ms ds : Nat) (sd : Nat → Bool) (F' : Option Addr) (m' d' : Nat) (f' : Nat → Int) (S' : Option Addr) (ms' ds' : Nat) (sd' : Nat → Bool),
      cs = [.int .i64 N.V, .slice A N.n c, .int .i64 s, .int .i64 t, .int .i64 val, .slice F m d, .slice S ms ds, .slice F' m' d', .slice S' ms' ds'] ∧
      N.Reads w w.heap.size A ∧ Ints w w.heap.size F m f ∧ Bools w w.heap.size S ms sd ∧ Ints w w.heap.size F' m' f' ∧ Bools w w.heap.size S' ms' sd' ∧
      (I64 s ∧ I64 t ∧ I64 val) ∧ (∀ i, i < m → I64 (f i)) ∧ (∀ i, i < m' → I64 (f' i)) ∧ (m ≤ maxLen ∧ m' ≤ maxLen ∧ ms ≤ maxLen ∧ ms' ≤ maxLen) := by
  obtain ⟨hl, _⟩ := sees_struct Try.underlying41 h
  match cs, hl.trans (show Try.prog.cellsOf 41 = 9 by kernel_rfl) with
  | [c0, c1, c2, c3, c4, c5, c6, c7, c8], _ =>
    have g0 := sees_at Try.underlying41 h 0 24 0 2 ⟨_, rfl, rfl, rfl⟩ cells_net
    have g1 := sees_at Try.underlying41 h 1 3 2 1 ⟨_, rfl, rfl, rfl⟩ cells_int
    have g2 := sees_at Try.underlying41 h 2 3 3 1 ⟨_, rfl, rfl, rfl⟩ cells_int
    have g3 := sees_at Try.underlying41 h 3 39 4 3 ⟨_, rfl, rfl, rfl⟩ cells_flow
    have g4 := sees_at Try.underlying41 h 4 33 7 1 ⟨_, rfl, rfl, rfl⟩ cells_sints
    have g5 := sees_at Try.underlying41 h 5 28 8 1 ⟨_, rfl, rfl, rfl⟩ cells_sbools
    obtain ⟨N, A, c, e0, _, hN, _⟩ := sees_network g0
    obtain ⟨s, e1, w1⟩ := sees_i64 g1
    obtain ⟨t, e2, w2⟩ := sees_i64 g2
    obtain ⟨val, F, m, d, f, S, ms, ds, sd, e3, ⟨w3, w4, w5⟩, hf, wf, hs⟩ := sees_flow g3
    obtain ⟨F', m', d', f', e4, w6, hf', wf'⟩ := sees_sints g4
    obtain ⟨S', ms', ds', sd', e5, w7, hs'⟩ := sees_sbools g5
    simp at e0 e1 e2 e3 e4 e5
    obtain ⟨e0, e0'⟩ := e0
    obtain ⟨e3, e3', e3''⟩ := e3
    subst e0 e0' e1 e2 e3 e3' e3'' e4 e5
    exact ⟨N, A, c, s, t, val, F, m, d, f, S, ms, ds, sd, F', m', d', f', S', ms', ds', sd', rfl, hN, hf, hs, hf', hs', ⟨w1, w2, w3⟩, wf, wf', by omega, by omega, by omega, by omega⟩

theorem sees_ends (h : Sees enc Try.prog w base spare held 48 cs) :
    ∃ (N : Net) (A : Option Addr) (c : Nat) (s t : Int), cs = [.int .i64 N.V, .slice A N.n c, .int .i64 s, .int .i64 t] ∧ N.Reads w w.heap.size A ∧ I64 s ∧ I64 t ∧ (N.n ≤ c ∧ c ≤ maxLen) ∧ ∀ i, i < N.n → I64 (N.fr i) ∧ I64 (N.to i) ∧ I64 (N.cp i) := by
  obtain ⟨hl, _⟩ := sees_struct Try.underlying48 h
  match cs, hl.trans (show Try.prog.cellsOf 48 = 4 by kernel_rfl) with
  | [c0, c1, c2, c3], _ =>
    have g0 := sees_at Try.underlying48 h 0 24 0 2 ⟨_, rfl, rfl, rfl⟩ cells_net
    have g1 := sees_at Try.underlying48 h 1 3 2 1 ⟨_, rfl, rfl, rfl⟩ cells_int
    have g2 := sees_at Try.underlying48 h 2 3 3 1 ⟨_, rfl, rfl, rfl⟩ cells_int
    obtain ⟨N, A, c, e0, ⟨k1, k2, _⟩, hN, ha⟩ := sees_network g0
    obtain ⟨s, e1, w1⟩ := sees_i64 g1
    obtain ⟨t, e2, w2⟩ := sees_i64 g2
    simp at e0 e1 e2
    obtain ⟨e0, e0'⟩ := e0
    subst e0 e0' e1 e2
    exact ⟨N, A, c, s, t, rfl, hN, w1, w2, ⟨k1, k2⟩, ha⟩

theorem sees_rise (h : Sees enc Try.prog w base spare held 54 cs) :
    ∃ (N : Net) (A : Option Addr) (c : Nat) (s t a x : Int), cs = [.int .i64 N.V, .slice A N.n c, .int .i64 s, .int .i64 t, .int .i64 a, .int .i64 x] ∧ N.Reads w w.heap.size A ∧ I64 s ∧ I64 t ∧ I64 a ∧ I64 x ∧ (N.n ≤ c ∧ c ≤ maxLen) ∧ ∀ i, i < N.n → I64 (N.fr i) ∧ I64 (N.to i) ∧ I64 (N.cp i) := by
  obtain ⟨hl, _⟩ := sees_struct Try.underlying54 h
  match cs, hl.trans (show Try.prog.cellsOf 54 = 6 by kernel_rfl) with
  | [c0, c1, c2, c3, c4, c5], _ =>
    have g0 := sees_at Try.underlying54 h 0 24 0 2 ⟨_, rfl, rfl, rfl⟩ cells_net
    have g1 := sees_at Try.underlying54 h 1 3 2 1 ⟨_, rfl, rfl, rfl⟩ cells_int
    have g2 := sees_at Try.underlying54 h 2 3 3 1 ⟨_, rfl, rfl, rfl⟩ cells_int
    have g3 := sees_at Try.underlying54 h 3 3 4 1 ⟨_, rfl, rfl, rfl⟩ cells_int
    have g4 := sees_at Try.underlying54 h 4 3 5 1 ⟨_, rfl, rfl, rfl⟩ cells_int
    obtain ⟨N, A, c, e0, ⟨k1, k2, _⟩, hN, ha⟩ := sees_network g0
    obtain ⟨s, e1, w1⟩ := sees_i64 g1
    obtain ⟨t, e2, w2⟩ := sees_i64 g2
    obtain ⟨a, e3, w3⟩ := sees_i64 g3
    obtain ⟨x, e4, w4⟩ := sees_i64 g4
    simp at e0 e1 e2 e3 e4
    obtain ⟨e0, e0'⟩ := e0
    subst e0 e0' e1 e2 e3 e4
    exact ⟨N, A, c, s, t, a, x, rfl, hN, w1, w2, w3, w4, ⟨k1, k2⟩, ha⟩

theorem sees_bound (h : Sees enc Try.prog w base spare held 65 cs) :
    ∃ (N : Net) (A : Option Addr) (c : Nat) (s t need : Int) (F : Option Addr) (m d : Nat) (f : Nat → Int), cs = [.int .i64 N.V, .slice A N.n c, .int .i64 s, .int .i64 t, .int .i64 need, .slice F m d] ∧ N.Reads w w.heap.size A ∧ Ints w w.heap.size F m f ∧
      I64 s ∧ I64 t ∧ I64 need ∧ (∀ i, i < m → I64 (f i)) ∧ (m ≤ d ∧ d ≤ maxLen) ∧ (N.n ≤ c ∧ c ≤ maxLen) ∧ ∀ i, i < N.n → I64 (N.fr i) ∧ I64 (N.to i) ∧ I64 (N.cp i) := by
  obtain ⟨hl, _⟩ := sees_struct Try.underlying65 h
  match cs, hl.trans (show Try.prog.cellsOf 65 = 6 by kernel_rfl) with
  | [c0, c1, c2, c3, c4, c5], _ =>
    have g0 := sees_at Try.underlying65 h 0 24 0 2 ⟨_, rfl, rfl, rfl⟩ cells_net
    have g1 := sees_at Try.underlying65 h 1 3 2 1 ⟨_, rfl, rfl, rfl⟩ cells_int
    have g2 := sees_at Try.underlying65 h 2 3 3 1 ⟨_, rfl, rfl, rfl⟩ cells_int
    have g3 := sees_at Try.underlying65 h 3 3 4 1 ⟨_, rfl, rfl, rfl⟩ cells_int
    have g4 := sees_at Try.underlying65 h 4 33 5 1 ⟨_, rfl, rfl, rfl⟩ cells_sints
    obtain ⟨N, A, c, e0, ⟨k1, k2, _⟩, hN, ha⟩ := sees_network g0
    obtain ⟨s, e1, w1⟩ := sees_i64 g1
    obtain ⟨t, e2, w2⟩ := sees_i64 g2
    obtain ⟨need, e3, w3⟩ := sees_i64 g3
    obtain ⟨F, m, d, f, e4, w4, hf, wf⟩ := sees_sints g4
    simp at e0 e1 e2 e3 e4
    obtain ⟨e0, e0'⟩ := e0
    subst e0 e0' e1 e2 e3 e4
    exact ⟨N, A, c, s, t, need, F, m, d, f, rfl, hN, hf, w1, w2, w3, wf, w4, ⟨k1, k2⟩, ha⟩
end
end Go.Proofs.Ythdeldaeghhfgaa
