/- A slice that comes in has no more places than memory has room. -/
import Derived.Test.YthdeldaeghhfgaaOpen
import Derived.SizedLaws
namespace Go.Proofs.Ythdeldaeghhfgaa
open Go.ChangeShapes Go.WideShapes Go.ChangeAt Go.RowKit

theorem slice_sized {H : Type} {enc : TypeId × Value → H} {P : Program} {w : World} {base : Nat} {held : Bool} {t e : TypeId} {A : Option Addr} {n c j B : Nat} {d : DataW H} {p : List MemPlace} {ts : List TypeId} {ds : List (DataW H)}
    (hsz : (DataW.weightsEach P ts ds).all (· ≤ reachBytes) = true) (ht : ts[j]? = some t) (hd : ds[j]? = some d) (hu : P.underlying t = some (.slice e)) (hB : P.bytesOf e = B)
    (h : ∃ m, DataW.trod enc P w base (fun _ => true) held m t [.slice A n c] = some (d, p)) : c * B ≤ 140737488351232 := by
  obtain ⟨m, h⟩ := h
  rcases Go.Deep.open_slice hu h with ⟨e1, _⟩ | ⟨a, len, cap, m', n', D, Pl, e1, _, hl, _, hm, hx, _⟩
  · simp only [List.cons.injEq, Value.slice.injEq, and_true] at e1
    obtain ⟨_, _, rfl⟩ := e1
    omega
  · simp only [List.cons.injEq, Value.slice.injEq, and_true] at e1
    obtain ⟨_, rfl, rfl⟩ := e1
    rw [if_pos rfl] at hm
    subst hm
    have hx1 := congrArg Prod.fst hx
    subst hx1
    have := sized_slice hsz ht hd hu
    rw [hB] at this
    simp only [List.length_map, List.length_range] at this
    rw [show n + (m' - n) = m' by omega] at this
    exact this
end Go.Proofs.Ythdeldaeghhfgaa
