/- What an argument that reads as data looks like in memory: slices, structs, integers, bools, cell by cell. -/
import Derived.Test.YtnocbkhnmdmfhaaBase
import Derived.ProofKit
import Derived.Deep.Slices
import Derived.Lib.SmallJoins
namespace Go.Proofs.Ytnocbkhnmdmfhaa
open Go.ChangeShapes Go.WideShapes Go.ChangeAt Go.RowKit

section
variable {H : Type} {enc : TypeId × Value → H} {P : Program} {w : World} {base : Nat} {spare : Nat → Bool} {held : Bool} {fuel : Nat} {cs : List Value} {x : DataW H × List MemPlace} {t e s : Nat}

/-- The list of cells cs reads as some datum of type t. -/
def Sees (enc : TypeId × Value → H) (P : Program) (w : World) (base : Nat) (spare : Nat → Bool) (held : Bool) (t : TypeId) (cs : List Value) : Prop :=
  ∃ fuel x, DataW.trod enc P w base spare held fuel t cs = some x

theorem sees_int {k : IntKind} (ht : P.underlying t = some (.int k)) (h : Sees enc P w base spare held t cs) : ∃ n, cs = [.int k n] ∧ (Lit.int k n).wf = true := by
  obtain ⟨fuel, x, h⟩ := h
  obtain ⟨n, h1, _, h2⟩ := DataW.trod_int ht h
  exact ⟨n, h1, h2⟩

theorem sees_bool (ht : P.underlying t = some .bool) (h : Sees enc P w base spare held t cs) : ∃ b, cs = [.bool b] := by
  obtain ⟨fuel, x, h⟩ := h
  cases fuel with
  | zero => simp [DataW.trod] at h
  | succ n =>
    unfold DataW.trod at h
    rw [ht] at h
    split at h <;> simp_all

theorem add_lit (b off j : Nat) : (⟨b, off, none⟩ : Addr).add j = ⟨b, off + j, none⟩ := by
  unfold Addr.add; split <;> simp_all

theorem sees_slice (ht : P.underlying t = some (.slice e)) (hC : P.cellsOf e = s) (hs : 0 < s) (h : Sees enc P w base spare held t cs) :
    ∃ (A : Option Addr) (n c : Nat) (f : Nat → Nat → Value), cs = [.slice A n c] ∧ n ≤ c ∧ c ≤ maxLen ∧ Rd w w.heap.size A n s f ∧ ∀ i, i < n → Sees enc P w base spare held e ((List.range s).map (f i)) := by
  obtain ⟨fuel, x, h⟩ := h
  rcases Go.Deep.open_slice ht h with ⟨rfl, _⟩ | ⟨a, len, cap, m, n, D, Pl, rfl, hb, hl, hm, hmm, _, hi⟩
  · exact ⟨none, 0, 0, fun _ _ => undef, rfl, Nat.le_refl _, Nat.zero_le _, fun i hi => absurd hi (by omega), fun i hi => absurd hi (by omega)⟩
  · have hlm : len ≤ m := by rw [hmm]; split <;> omega
    refine ⟨some a, len, cap, fun i j => (w.cell? (a.add (i * s + j))).getD undef, rfl, hl, hm, fun i hi' => ?_, fun i hi' => ?_⟩
    · obtain ⟨cs', hc, _⟩ := hi i (by omega)
      rw [hC] at hc
      obtain ⟨_, hlen, hat⟩ := World.cells?_some hc
      have h0 := hat 0 hs
      rw [List.getElem?_eq_getElem (by omega), Go.Deep.add_add] at h0
      have hlt := World.block_lt_of_cell? _ _ h0
      obtain ⟨ab, ao, sp⟩ := a
      have hsp0 : w.cell? ((⟨ab, ao, sp⟩ : Addr).add (i * s + 0)) = some (cs'[0]'(by omega)) := h0
      by_cases hz : i * s = 0
      · have : (⟨ab, ao, sp⟩ : Addr).add (i * s + 0) = ⟨ab, ao, sp⟩ := by unfold Addr.add; rw [if_pos (by omega)]
        rw [this] at hsp0 hlt
        obtain rfl : sp = none := World.cell?_spot hsp0
        refine ⟨ab, ao, rfl, hlt, fun j hj => ?_⟩
        have hj' := hat j hj
        rw [Go.Deep.add_add, add_lit] at hj'
        show w.cell? ⟨ab, ao + i * s + j, none⟩ = some ((w.cell? ((⟨ab, ao, none⟩ : Addr).add (i * s + j))).getD undef)
        rw [add_lit, hj', List.getElem?_eq_getElem (by omega)]
        rw [show ao + i * s + j = ao + (i * s + j) by omega, hj', List.getElem?_eq_getElem (by omega)]
        rfl
      · -- the first element tells that the address has no spot
        obtain ⟨cs0, hc0, _⟩ := hi 0 (by omega)
        rw [hC] at hc0
        obtain ⟨_, hlen0, hat0⟩ := World.cells?_some hc0
        have k0 := hat0 0 hs
        rw [List.getElem?_eq_getElem (by omega), Go.Deep.add_add] at k0
        have : (⟨ab, ao, sp⟩ : Addr).add (0 * s + 0) = ⟨ab, ao, sp⟩ := by unfold Addr.add; rw [if_pos (by omega)]
        rw [this] at k0
        obtain rfl : sp = none := World.cell?_spot k0
        refine ⟨ab, ao, rfl, World.block_lt_of_cell? _ _ k0, fun j hj => ?_⟩
        have hj' := hat j hj
        rw [Go.Deep.add_add, add_lit] at hj'
        show w.cell? ⟨ab, ao + i * s + j, none⟩ = some ((w.cell? ((⟨ab, ao, none⟩ : Addr).add (i * s + j))).getD undef)
        rw [add_lit]
        rw [show ao + i * s + j = ao + (i * s + j) by omega, hj', List.getElem?_eq_getElem (by omega)]
        rfl
    · obtain ⟨cs', hc, htr⟩ := hi i (by omega)
      rw [hC] at hc
      obtain ⟨_, hlen, hat⟩ := World.cells?_some hc
      refine ⟨n, (D i, Pl i), ?_⟩
      have : (List.range s).map (fun j => (w.cell? (a.add (i * s + j))).getD undef) = cs' := by
        apply List.ext_getElem
        · simp [hlen]
        · intro j h1 h2
          have := hat j (by omega)
          rw [Go.Deep.add_add, List.getElem?_eq_getElem h2] at this
          simp [this]
      rw [this]
      exact htr

theorem sees_struct {fs : Array Field} (ht : P.underlying t = some (.struct fs)) (h : Sees enc P w base spare held t cs) :
    cs.length = P.cellsOf t ∧ ∀ (i : Nat) (f : Field), fs[i]? = some f → Sees enc P w base spare held f.type ((cs.drop f.offset).take (P.cellsOf f.type)) := by
  obtain ⟨fuel, x, h⟩ := h
  obtain ⟨xs, n, _, _, hlen, hxl, hf⟩ := DataW.trod_struct ht h
  refine ⟨hlen, fun i f hi => ?_⟩
  have hlt : i < xs.length := by rw [hxl]; exact (Array.getElem?_eq_some_iff.1 hi).1
  exact ⟨n, xs[i], (hf i f hi).trans (List.getElem?_eq_getElem hlt)⟩

/-- One field of a struct: number i, of type T, at cell off, m cells. -/
theorem sees_at {fs : Array Field} (ht : P.underlying t = some (.struct fs)) (h : Sees enc P w base spare held t cs) (i T off m : Nat)
    (hi : ∃ f, fs[i]? = some f ∧ f.type = T ∧ f.offset = off) (hC : P.cellsOf T = m) : Sees enc P w base spare held T ((cs.drop off).take m) := by
  obtain ⟨f, hf, rfl, rfl⟩ := hi
  subst hC
  exact (sees_struct ht h).2 i f hf

/-- A slice whose elements are integers. -/
theorem sees_ints {k : IntKind} (ht : P.underlying t = some (.slice e)) (he : P.underlying e = some (.int k)) (hC : P.cellsOf e = 1) (h : Sees enc P w base spare held t cs) :
    ∃ (A : Option Addr) (n c : Nat) (g : Nat → Int), cs = [.slice A n c] ∧ n ≤ c ∧ c ≤ maxLen ∧ Rd w w.heap.size A n 1 (fun i _ => .int k (g i)) ∧ ∀ i, i < n → (Lit.int k (g i)).wf = true := by
  obtain ⟨A, n, c, f, hcs, h1, h2, hr, hf⟩ := sees_slice ht hC (by omega) h
  refine ⟨A, n, c, fun i => intOf (f i 0), hcs, h1, h2, fun i hi => ?_, fun i hi => ?_⟩
  · obtain ⟨z, hz, _⟩ := sees_int he (hf i hi)
    have hz' : f i 0 = .int k z := by simpa using hz
    obtain ⟨b, off, hA, hb, hc⟩ := hr i hi
    refine ⟨b, off, hA, hb, fun j hj => ?_⟩
    obtain rfl : j = 0 := by omega
    show _ = some (Value.int k (intOf (f i 0)))
    rw [hc 0 hj, hz']
    rfl
  · obtain ⟨z, hz, hw⟩ := sees_int he (hf i hi)
    have hz' : f i 0 = .int k z := by simpa using hz
    show (Lit.int k (intOf (f i 0))).wf = true
    rw [hz']
    exact hw

/-- A slice whose elements are bools. -/
theorem sees_bools (ht : P.underlying t = some (.slice e)) (he : P.underlying e = some .bool) (hC : P.cellsOf e = 1) (h : Sees enc P w base spare held t cs) :
    ∃ (A : Option Addr) (n c : Nat) (g : Nat → Bool), cs = [.slice A n c] ∧ n ≤ c ∧ c ≤ maxLen ∧ Rd w w.heap.size A n 1 (fun i _ => .bool (g i)) := by
  obtain ⟨A, n, c, f, hcs, h1, h2, hr, hf⟩ := sees_slice ht hC (by omega) h
  refine ⟨A, n, c, fun i => (match f i 0 with | .bool b => b | _ => false), hcs, h1, h2, fun i hi => ?_⟩
  obtain ⟨z, hz⟩ := sees_bool he (hf i hi)
  have hz' : f i 0 = .bool z := by simpa using hz
  obtain ⟨b, off, hA, hb, hc⟩ := hr i hi
  refine ⟨b, off, hA, hb, fun j hj => ?_⟩
  obtain rfl : j = 0 := by omega
  show _ = some (Value.bool (match f i 0 with | .bool b => b | _ => false))
  rw [hc 0 hj, hz']
end

theorem wf_i64 {n : Int} (h : (Lit.int .i64 n).wf = true) : -9223372036854775808 ≤ n ∧ n ≤ 9223372036854775807 := by
  simpa [Lit.wf, IntKind.min, IntKind.max, IntKind.signed, IntKind.bits] using h

theorem Try.own : ownKnob Try.prog.godebug = none := by kernel_rfl
theorem Try.laidOut : laidOutB Try.prog = true := by kernel_rfl
end Go.Proofs.Ytnocbkhnmdmfhaa
