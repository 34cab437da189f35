/- A network that comes in, cell by cell. -/
import Derived.Test.YthdeldaeghhfgaaNet
import Derived.Test.YthdeldaeghhfgaaOpen
namespace Go.Proofs.Ythdeldaeghhfgaa
open Go.ChangeShapes Go.WideShapes Go.ChangeAt Go.RowKit

section
variable {H : Type} {enc : TypeId × Value → H} {w : World} {base : Nat} {spare : Nat → Bool} {held : Bool} {cs : List Value}

def I64 (n : Int) : Prop := -9223372036854775808 ≤ n ∧ n ≤ 9223372036854775807

theorem sees_arc (h : Sees enc Try.prog w base spare held 36 cs) : ∃ a b c : Int, cs = [.int .i64 a, .int .i64 b, .int .i64 c] ∧ I64 a ∧ I64 b ∧ I64 c := by
  obtain ⟨hl, _⟩ := sees_struct Try.underlying36 h
  match cs, hl.trans (show Try.prog.cellsOf 36 = 3 by kernel_rfl) with
  | [c0, c1, c2], _ =>
    have hc : Try.prog.cellsOf 3 = 1 := by kernel_rfl
    have g0 := sees_at Try.underlying36 h 0 3 0 1 ⟨_, rfl, rfl, rfl⟩ hc
    have g1 := sees_at Try.underlying36 h 1 3 1 1 ⟨_, rfl, rfl, rfl⟩ hc
    have g2 := sees_at Try.underlying36 h 2 3 2 1 ⟨_, rfl, rfl, rfl⟩ hc
    obtain ⟨a, ha, wa⟩ := sees_int Try.underlying3 g0
    obtain ⟨b, hb, wb⟩ := sees_int Try.underlying3 g1
    obtain ⟨c, hc, wc⟩ := sees_int Try.underlying3 g2
    simp at ha hb hc
    subst ha hb hc
    exact ⟨a, b, c, rfl, wf_i64 wa, wf_i64 wb, wf_i64 wc⟩

theorem sees_arcs (h : Sees enc Try.prog w base spare held 22 cs) (V : Int) :
    ∃ (N : Net) (A : Option Addr) (c : Nat), N.V = V ∧ cs = [.slice A N.n c] ∧ N.n ≤ c ∧ c ≤ maxLen ∧ N.Reads w w.heap.size A ∧ ∀ i, i < N.n → I64 (N.fr i) ∧ I64 (N.to i) ∧ I64 (N.cp i) := by
  obtain ⟨A, n, c, f, hcs, h1, h2, hr, hf⟩ := sees_slice Try.underlying22 (show Try.prog.cellsOf 36 = 3 by kernel_rfl) (by omega) h
  have key : ∀ i, i < n → ∃ a b c : Int, (f i 0 = .int .i64 a ∧ f i 1 = .int .i64 b ∧ f i 2 = .int .i64 c) ∧ I64 a ∧ I64 b ∧ I64 c := by
    intro i hi
    obtain ⟨a, b, c, e, wa, wb, wc⟩ := sees_arc (hf i hi)
    have e' : [f i 0, f i 1, f i 2] = [.int .i64 a, .int .i64 b, .int .i64 c] := e
    simp only [List.cons.injEq, and_true] at e'
    exact ⟨a, b, c, e', wa, wb, wc⟩
  refine ⟨⟨V, n, fun i => intOf (f i 0), fun i => intOf (f i 1), fun i => intOf (f i 2)⟩, A, c, rfl, hcs, h1, h2, fun i hi => ?_, fun i hi => ?_⟩
  · obtain ⟨a, b, c, ⟨ea, eb, ec⟩, _⟩ := key i hi
    obtain ⟨bl, off, hA, hb, hc⟩ := hr i hi
    refine ⟨bl, off, hA, hb, fun j hj => ?_⟩
    rw [hc j hj]
    match j, hj with
    | 0, _ => show some (f i 0) = some (Value.int .i64 (intOf (f i 0))); rw [ea]; rfl
    | 1, _ => show some (f i 1) = some (Value.int .i64 (intOf (f i 1))); rw [eb]; rfl
    | 2, _ => show some (f i 2) = some (Value.int .i64 (intOf (f i 2))); rw [ec]; rfl
  · obtain ⟨a, b, c, ⟨ea, eb, ec⟩, wa, wb, wc⟩ := key i hi
    show I64 (intOf (f i 0)) ∧ I64 (intOf (f i 1)) ∧ I64 (intOf (f i 2))
    rw [ea, eb, ec]
    exact ⟨wa, wb, wc⟩

theorem sees_network (h : Sees enc Try.prog w base spare held 24 cs) :
    ∃ (N : Net) (A : Option Addr) (c : Nat), cs = [.int .i64 N.V, .slice A N.n c] ∧ (N.n ≤ c ∧ c ≤ maxLen ∧ I64 N.V) ∧ N.Reads w w.heap.size A ∧ ∀ i, i < N.n → I64 (N.fr i) ∧ I64 (N.to i) ∧ I64 (N.cp i) := by
  obtain ⟨hl, _⟩ := sees_struct Try.underlying24 h
  match cs, hl.trans (show Try.prog.cellsOf 24 = 2 by kernel_rfl) with
  | [c0, c1], _ =>
    have hc : Try.prog.cellsOf 3 = 1 := by kernel_rfl
    have hc' : Try.prog.cellsOf 22 = 1 := by kernel_rfl
    have g0 := sees_at Try.underlying24 h 0 3 0 1 ⟨_, rfl, rfl, rfl⟩ hc
    have g1 := sees_at Try.underlying24 h 1 22 1 1 ⟨_, rfl, rfl, rfl⟩ hc'
    obtain ⟨V, ha, wa⟩ := sees_int Try.underlying3 g0
    obtain ⟨N, A, c, hV, hb, h1, h2, hr, hw⟩ := sees_arcs g1 V
    simp at ha hb
    subst ha hb hV
    exact ⟨N, A, c, rfl, ⟨h1, h2, wf_i64 wa⟩, hr, hw⟩
end
end Go.Proofs.Ythdeldaeghhfgaa
