/- flow.Routes: the arc that a vertex' flow goes on by (its first closure). -/
import Derived.Test.YthdeldaeghhfgaaRouteMath
import Derived.Test.YthdeldaeghhfgaaTab
namespace Go.Proofs.Ythdeldaeghhfgaa
open Go.RowKit

/-- The arcs out of v among the first k. -/
def outsTo (N : Net) (v : Nat) : Nat → List Nat
  | 0 => []
  | k + 1 => outsTo N v k ++ if (N.fr k).toNat = v then [k] else []
theorem outs_len (N : Net) (v k : Nat) : (outsTo N v k).length ≤ k := by
  induction k with
  | zero => simp [outsTo]
  | succ k ih => simp only [outsTo, List.length_append]; split <;> simp <;> omega
theorem outs_mem (N : Net) (v k i : Nat) : i ∈ outsTo N v k ↔ i < k ∧ (N.fr i).toNat = v := by
  induction k with
  | zero => simp [outsTo]
  | succ k ih =>
    simp only [outsTo, List.mem_append, ih]
    by_cases e : i = k
    · subst e
      split <;> simp_all
    · have e1 : i ∉ (if (N.fr k).toNat = v then [k] else []) := by split <;> simp [e]
      simp only [e1, or_false]
      constructor
      · rintro ⟨h1, h2⟩; exact ⟨by omega, h2⟩
      · rintro ⟨h1, h2⟩; exact ⟨by omega, h2⟩
def outCell (L : List Nat) (j _k : Nat) : Value := .int .i64 ((L.getD j 0 : Nat) : Int)
theorem outCell_append {L x : List Nat} {j k : Nat} (hj : j < L.length) : outCell L j k = outCell (L ++ x) j k := by
  unfold outCell
  have : (L ++ x).getD j 0 = L.getD j 0 := by
    rw [List.getD_eq_getElem?_getD, List.getD_eq_getElem?_getD, List.getElem?_append_left hj]
  rw [this]
theorem outCell_last {L : List Nat} {i k : Nat} : outCell (L ++ [i]) L.length k = .int .i64 (i : Nat) := by
  have : (L ++ [i]).getD L.length 0 = i := by simp [List.getD_eq_getElem?_getD]
  unfold outCell
  rw [this]
theorem getD_mem {L : List Nat} {j : Nat} (hj : j < L.length) : L.getD j 0 ∈ L := by
  rw [List.getD_eq_getElem?_getD, List.getElem?_eq_getElem hj]
  exact List.getElem_mem hj

set_option maxRecDepth 100000 in
set_option maxHeartbeats 4000000 in
theorem next_any (N : Net) (te : TypeId) (bo bl g base lc m mc v : Nat) (F : Nat → Value) (LA : Option Addr) (f : Nat → Int) (w : World) (hg : N.Good) (hT : TabOwn w g base te 3 1 m F (fun v => (outsTo N v N.n).length) (fun v => outCell (outsTo N v N.n)))
    (hv : v < m) (hl : Ints w w.heap.size LA N.n f) (x1 : w.cell? ⟨bo, 0, none⟩ = some (.slice (some ⟨g, 0, none⟩) m mc)) (x2 : w.cell? ⟨bl, 0, none⟩ = some (.slice LA N.n lc)) (hex : ∃ i, i < N.n ∧ 0 < f i ∧ N.fr i = (v : Nat)) :
    Calls Try.prog 44 #[.int .i64 (v : Nat), .pointer (some ⟨bo, 0, none⟩), .pointer (some ⟨bl, 0, none⟩)] w fun e w' => (∃ i : Nat, e = .returned (.int .i64 (i : Nat)) ∧ i < N.n ∧ 0 < f i ∧ N.fr i = (v : Nat)) ∧ w = w' := by
  have hn := hg.n2
  have hv0 : (0 : Int) ≤ (v : Int) := by omega
  have hv1 : (v : Int) < (m : Int) := by omega
  have x3 : w.cell? ⟨g, v, none⟩ = some (F v) := hT.row.cell hv
  have hO := hT.own v hv
  obtain ⟨i0, hi0, hp0, hf0⟩ := hex
  have hmem := (outs_mem N v N.n i0).2 ⟨hi0, by omega⟩
  obtain ⟨L, hL⟩ : ∃ L, L = outsTo N v N.n := ⟨_, rfl⟩
  have hLm : ∀ j, j < L.length → L.getD j 0 < N.n ∧ N.fr (L.getD j 0) = (v : Nat) := fun j hj => by
    have := getD_mem hj
    rw [hL] at this
    obtain ⟨a, b⟩ := (outs_mem N v N.n _).1 this
    have := (hg.arc _ a).1
    rw [hL]
    exact ⟨a, by omega⟩
  have hlen : L.length ≤ N.n := by rw [hL]; exact outs_len _ _ _
  obtain ⟨j0, hj0, he0⟩ := List.getElem_of_mem hmem
  have hj0' : j0 < L.length := by rw [hL]; exact hj0
  have hz0 : L.getD j0 0 = i0 := by rw [List.getD_eq_getElem?_getD, hL, List.getElem?_eq_getElem hj0, Option.getD_some, he0]
  have hO' : Own w base 3 1 (F v) L.length (outCell L) := by rw [hL]; exact hO
  obtain ⟨gb, go, gc, hFv, _, _, hgc, _, hcells⟩ := hO'.form (by omega)
  rw [hFv] at x3
  have HLM := hid hLm
  have HEX : Hid (∃ j, j < L.length ∧ 0 < f (L.getD j 0)) := ⟨j0, hj0', by rw [hz0]; exact hp0⟩
  have hc2 : Hid (∀ j, j < L.length → w.cell? ⟨gb, go + j, none⟩ = some (.int .i64 ((L.getD j 0 : Nat) : Int))) := fun j hj => by
    have := hcells j hj 0 (by omega)
    rw [Nat.mul_one, Nat.add_zero] at this
    exact this
  clear hLm hL hmem he0 hz0 hO' hO hcells hFv hj0 hj0' hi0 hp0 hf0 hT
  obtain ⟨ln, hln⟩ : ∃ n, n = L.length := ⟨_, rfl⟩
  rw [← hln] at hlen hgc x3 HLM HEX hc2
  clear hln
  go_enter Try.func44, Try.ntmps44
  go_wp2
  go_loopg [6, 12] ln (fun gg _ iv wx => ∃ j : Nat, iv = .int .i64 (j : Nat) ∧ j ≤ ln ∧ ln ≤ j + gg ∧ (∀ j', j' < j → ¬ 0 < f (L.getD j' 0)) ∧ w = wx)
  case atStart => exact ⟨0, rfl, by omega, by omega, fun j' h => by omega, rfl⟩
  case round =>
    obtain ⟨j, rfl, hj, hjg, hno, rfl⟩ := hrel
    have HNO := hid hno
    clear hno
    have hj0 : (0 : Int) ≤ (j : Int) := by omega
    by_cases hlt : j < ln
    · have hlt' : (j : Int) < (ln : Int) := by omega
      have y0 := hc2.out j hlt
      obtain ⟨h1, h2⟩ := HLM.out j hlt
      obtain ⟨i, hi⟩ : ∃ i, i = L.getD j 0 := ⟨_, rfl⟩
      rw [← hi] at y0 h1 h2
      have HI := hid hi
      clear hi
      obtain ⟨lb, lo, rfl, hlb, y1⟩ := hl.at h1
      have h1' : (i : Int) < (N.n : Int) := by omega
      have hi0 : (0 : Int) ≤ (i : Int) := by omega
      obtain ⟨x, hx⟩ : ∃ x, x = f i := ⟨_, rfl⟩
      rw [← hx] at y1
      have HX := hid hx
      have H2 := hid h2
      clear hx h2
      by_cases hp : 0 < x
      · go_wp2
        go_ret
        exact ⟨⟨i, rfl, h1, by rw [← HX.out]; exact hp, H2.out⟩, rfl⟩
      · have hnx : Hid (∀ j', j' < j + 1 → ¬ 0 < f (L.getD j' 0)) := fun j' h => by
          by_cases e : j' = j
          · rw [e, ← HI.out, ← HX.out]; exact hp
          · exact HNO.out j' (by omega)
        go_wp2
        go_roundg (gk - 1)
        case measure => omega
        case rel => exact ⟨j + 1, by go_num, by omega, by omega, hnx.out, rfl⟩
    · exfalso
      obtain ⟨j1, h1, h2⟩ := HEX.out
      exact HNO.out j1 (by omega) h2
/-- Routes' test of what is left. -/
def posT (x : Int) : Bool := decide (0 < x)
theorem routes2_any (x : Int) (w : World) : Calls Try.prog 46 #[.int .i64 x] w fun e w' => e = .returned (.bool (posT x)) ∧ w = w' := by
  go_enter Try.func46, Try.ntmps46
  go_wp2
  go_ret
  exact ⟨rfl, rfl⟩
end Go.Proofs.Ythdeldaeghhfgaa
