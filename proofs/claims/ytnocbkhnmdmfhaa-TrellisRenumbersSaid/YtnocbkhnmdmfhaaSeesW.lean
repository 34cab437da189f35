/- What comes in, with what memory has room for. -/
import Derived.Test.YtnocbkhnmdmfhaaOpen
import Derived.SizedLaws
namespace Go.Proofs.Ytnocbkhnmdmfhaa
open Go.ChangeShapes Go.WideShapes Go.ChangeAt Go.RowKit

section
variable {H : Type} {enc : TypeId × Value → H} {P : Program} {w : World} {base : Nat} {spare : Nat → Bool} {held : Bool} {cs : List Value} {t e s : Nat}
/-- The cells read as a datum all of whose slices have room in memory. -/
def SeesW (enc : TypeId × Value → H) (P : Program) (w : World) (base : Nat) (spare : Nat → Bool) (held : Bool) (t : TypeId) (cs : List Value) : Prop :=
  ∃ fuel d p, DataW.trod enc P w base spare held fuel t cs = some (d, p) ∧ ∀ x ∈ d.weights P t, x ≤ 140737488351232
theorem SeesW.sees (h : SeesW enc P w base spare held t cs) : Sees enc P w base spare held t cs := by
  obtain ⟨fuel, d, p, h, _⟩ := h
  exact ⟨fuel, (d, p), h⟩
theorem weightsAll_mem {l : List (DataW H)} {d : DataW H} {x : Nat} (hd : d ∈ l) (hx : x ∈ d.weights P e) : x ∈ DataW.weightsAll P e l := by
  induction l with
  | nil => cases hd
  | cons a r ih =>
    unfold DataW.weightsAll
    rw [List.mem_append]
    rcases List.mem_cons.1 hd with rfl | h
    · exact .inl hx
    · exact .inr (ih h)
theorem weightsParam {ts : List TypeId} {ds : List (DataW H)} {j : Nat} {d : DataW H} (h : (DataW.weightsEach P ts ds).all (· ≤ reachBytes) = true) (ht : ts[j]? = some t) (hd : ds[j]? = some d) : ∀ x ∈ d.weights P t, x ≤ 140737488351232 := fun x hx => by
  have := List.all_eq_true.1 h _ (DataW.weights_mem_each ht hd x hx)
  exact of_decide_eq_true this

theorem seesW_slice (ht : P.underlying t = some (.slice e)) (hC : P.cellsOf e = s) (hs : 0 < s) {B : Nat} (hB : P.bytesOf e = B) (h : SeesW enc P w base spare held t cs) :
    ∃ (A : Option Addr) (n c : Nat) (f : Nat → Nat → Value), cs = [.slice A n c] ∧ n ≤ c ∧ c ≤ maxLen ∧ n * B ≤ 140737488351232 ∧ Rd w w.heap.size A n s f ∧ ∀ i, i < n → SeesW enc P w base spare held e ((List.range s).map (f i)) := by
  obtain ⟨fuel, d, p, h, hw⟩ := h
  rcases Go.Deep.open_slice ht h with ⟨rfl, _⟩ | ⟨a, len, cap, m, n, D, Pl, rfl, hb, hl, hm, hmm, hx, hi⟩
  · exact ⟨none, 0, 0, fun _ _ => undef, rfl, Nat.le_refl _, Nat.zero_le _, by omega, fun i hi => absurd hi (by omega), fun i hi => absurd hi (by omega)⟩
  · have hlm : len ≤ m := by rw [hmm]; split <;> omega
    have hx1 := congrArg Prod.fst hx
    subst hx1
    have hw1 : (len + (m - len)) * B ≤ 140737488351232 := hw _ (by unfold DataW.weights; rw [ht]; simp [hB])
    refine ⟨some a, len, cap, fun i j => (w.cell? (a.add (i * s + j))).getD undef, rfl, hl, hm, Nat.le_trans (Nat.mul_le_mul_right _ (Nat.le_add_right _ _)) hw1, fun i hi' => ?_, fun i hi' => ?_⟩
    · obtain ⟨cs', hc, _⟩ := hi i (by omega)
      rw [hC] at hc
      obtain ⟨_, hlen, hat⟩ := World.cells?_some hc
      have h0 := hat 0 hs
      rw [List.getElem?_eq_getElem (by omega), Go.Deep.add_add] at h0
      have hlt := World.block_lt_of_cell? _ _ h0
      obtain ⟨ab, ao, sp⟩ := a
      have hsp0 : w.cell? ((⟨ab, ao, sp⟩ : Addr).add (i * s + 0)) = some (cs'[0]'(by omega)) := h0
      by_cases hz : i * s = 0
      · have : (⟨ab, ao, sp⟩ : Addr).add (i * s + 0) = ⟨ab, ao, sp⟩ := by unfold Addr.add; rw [if_pos (by omega)]
        rw [this] at hsp0 hlt
        obtain rfl : sp = none := World.cell?_spot hsp0
        refine ⟨ab, ao, rfl, hlt, fun j hj => ?_⟩
        have hj' := hat j hj
        rw [Go.Deep.add_add, add_lit] at hj'
        show w.cell? ⟨ab, ao + i * s + j, none⟩ = some ((w.cell? ((⟨ab, ao, none⟩ : Addr).add (i * s + j))).getD undef)
        rw [add_lit, hj', List.getElem?_eq_getElem (by omega)]
        rw [show ao + i * s + j = ao + (i * s + j) by omega, hj', List.getElem?_eq_getElem (by omega)]
        rfl
      · obtain ⟨cs0, hc0, _⟩ := hi 0 (by omega)
        rw [hC] at hc0
        obtain ⟨_, hlen0, hat0⟩ := World.cells?_some hc0
        have k0 := hat0 0 hs
        rw [List.getElem?_eq_getElem (by omega), Go.Deep.add_add] at k0
        have : (⟨ab, ao, sp⟩ : Addr).add (0 * s + 0) = ⟨ab, ao, sp⟩ := by unfold Addr.add; rw [if_pos (by omega)]
        rw [this] at k0
        obtain rfl : sp = none := World.cell?_spot k0
        refine ⟨ab, ao, rfl, World.block_lt_of_cell? _ _ k0, fun j hj => ?_⟩
        have hj' := hat j hj
        rw [Go.Deep.add_add, add_lit] at hj'
        show w.cell? ⟨ab, ao + i * s + j, none⟩ = some ((w.cell? ((⟨ab, ao, none⟩ : Addr).add (i * s + j))).getD undef)
        rw [add_lit]
        rw [show ao + i * s + j = ao + (i * s + j) by omega, hj', List.getElem?_eq_getElem (by omega)]
        rfl
    · obtain ⟨cs', hc, htr⟩ := hi i (by omega)
      rw [hC] at hc
      obtain ⟨_, hlen, hat⟩ := World.cells?_some hc
      refine ⟨n, D i, Pl i, ?_, fun x hx => hw _ (by
        unfold DataW.weights
        rw [ht]
        refine List.mem_cons_of_mem _ (List.mem_append.2 (.inl (weightsAll_mem (List.mem_map.2 ⟨i, List.mem_range.2 hi', rfl⟩) hx))))⟩
      have : (List.range s).map (fun j => (w.cell? (a.add (i * s + j))).getD undef) = cs' := by
        apply List.ext_getElem
        · simp [hlen]
        · intro j h1 h2
          have := hat j (by omega)
          rw [Go.Deep.add_add, List.getElem?_eq_getElem h2] at this
          simp [this]
      rw [this]
      exact htr

/-- One field of a struct: number i, of type T, at cell off, m cells. -/
theorem seesW_at {fs : Array Field} (ht : P.underlying t = some (.struct fs)) (h : SeesW enc P w base spare held t cs) (i T off m : Nat)
    (hi : ∃ f, fs[i]? = some f ∧ f.type = T ∧ f.offset = off) (hC : P.cellsOf T = m) : SeesW enc P w base spare held T ((cs.drop off).take m) := by
  obtain ⟨f, hf, rfl, rfl⟩ := hi
  subst hC
  obtain ⟨fuel, d, p, h, hw⟩ := h
  obtain ⟨xs, n, _, hx, hlen, hxl, hg⟩ := DataW.trod_struct ht h
  have hlt : i < xs.length := by rw [hxl]; exact (Array.getElem?_eq_some_iff.1 hf).1
  refine ⟨n, xs[i].1, xs[i].2, (hg i f hf).trans (List.getElem?_eq_getElem hlt), fun x hx2 => hw x ?_⟩
  have hx1 := congrArg Prod.fst hx
  subst hx1
  unfold DataW.weights
  rw [ht]
  refine DataW.weights_mem_each (j := i) (t := f.type) (d := xs[i].1) ?_ ?_ x hx2
  · simp [hf]
  · simp [hlt]
end
end Go.Proofs.Ytnocbkhnmdmfhaa
