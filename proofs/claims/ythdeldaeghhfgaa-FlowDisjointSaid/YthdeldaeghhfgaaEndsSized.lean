/- The arcs of a network that comes in with two vertices have no more bytes than memory has room. -/
import Derived.Test.YthdeldaeghhfgaaSized
import Derived.Deep.Strs
namespace Go.Proofs.Ythdeldaeghhfgaa
open Go.ChangeShapes Go.WideShapes Go.ChangeAt Go.RowKit Go.Deep

theorem ends_sized {H : Type} {enc : TypeId × Value → H} {w : World} {base : Nat} {cs : List Value} {d : DataW H} {p : List MemPlace} {ts : List TypeId} {ds : List (DataW H)}
    (hsz : (DataW.weightsEach Try.prog (48 :: ts) (d :: ds)).all (· ≤ reachBytes) = true)
    (h : ∃ m, DataW.trod enc Try.prog w base (fun _ => true) true m 48 cs = some (d, p)) {V s t : Int} {A : Option Addr} {n c : Nat} (hcs : cs = [.int .i64 V, .slice A n c, .int .i64 s, .int .i64 t]) : n * 24 ≤ 140737488355328 := by
  obtain ⟨m, h⟩ := h
  obtain ⟨y0, y1, y2, k, e, _, h0, _, _⟩ := trod_struct3 Try.underlying48 h
  obtain ⟨z0, z1, k2, e2, _, _, h1⟩ := trod_struct2 Try.underlying24 h0
  obtain rfl := congrArg Prod.fst e
  subst hcs
  have hc : Try.prog.cellsOf 24 = 2 := by kernel_rfl
  have hc1 : Try.prog.cellsOf 22 = 1 := by kernel_rfl
  have h1' : DataW.trod enc Try.prog w base (fun _ => true) true k2 22 [.slice A n c] = some z1 := by
    have h2 := h1
    simp only [hc, hc1] at h2
    exact h2
  have hsub : ∀ x ∈ z1.1.weights Try.prog 22, x ≤ reachBytes := fun x hx => by
    have a1 : x ∈ y0.1.weights Try.prog 24 := by
      rw [e2]
      unfold DataW.weights
      rw [Try.underlying24]
      exact DataW.weights_mem_each (j := 1) rfl rfl x hx
    have a2 : x ∈ (DataW.agg [y0.1, y1.1, y2.1] : DataW H).weights Try.prog 48 := by
      unfold DataW.weights
      rw [Try.underlying48]
      exact DataW.weights_mem_each (j := 0) rfl rfl x a1
    have a3 := DataW.weights_mem_each (P := Try.prog) (ts := 48 :: ts) (ds := DataW.agg [y0.1, y1.1, y2.1] :: ds) (j := 0) rfl rfl x a2
    simpa using List.all_eq_true.1 hsz _ a3
  rcases Go.Deep.open_slice Try.underlying22 h1' with ⟨e1, _⟩ | ⟨a, len, cap, m', n', D, Pl, e1, _, hl, _, hm, hx, _⟩
  · simp only [List.cons.injEq, Value.slice.injEq, and_true] at e1
    obtain ⟨_, rfl, _⟩ := e1
    omega
  · simp only [List.cons.injEq, Value.slice.injEq, and_true] at e1
    obtain ⟨_, rfl, rfl⟩ := e1
    rw [if_pos rfl] at hm
    subst hm
    have hb : Try.prog.bytesOf 36 = 24 := by kernel_rfl
    have h5 := hsub ((n + (m' - n)) * 24) (by
      rw [hx]
      unfold DataW.weights
      rw [Try.underlying22]
      simp [hb])
    unfold reachBytes at h5
    omega
end Go.Proofs.Ythdeldaeghhfgaa
