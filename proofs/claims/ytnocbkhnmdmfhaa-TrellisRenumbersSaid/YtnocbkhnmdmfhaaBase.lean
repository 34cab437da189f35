/- Small words for memory, used by all the walks: a slice that reads as data, blocks of the call's own, and what stays of them. -/
import Derived.Test.YtnocbkhnmdmfhaaRows
import Derived.WalkKit
import Derived.WalkSpells
import Derived.WalkLawsBesides
import Derived.Deep.OwnRows
namespace Go.Proofs.Ytnocbkhnmdmfhaa
open Go.RowKit

/-- A fact kept from the walk. -/
theorem hid {p : Prop} (h : p) : Hid p := h

theorem ret_int {k : IntKind} {a b : Int} (h : a = b) : Ending.returned (.int k a) = .returned (.int k b) := by rw [h]
theorem ret_bool {a b : Bool} (h : a = b) : Ending.returned (.bool a) = .returned (.bool b) := by rw [h]

/-- Behind a call that leaves all that was there: a cell, the tie to the first world, the heap's size. -/
theorem cellS {X w1 : World} {p : Addr} {v : Value} (hb : Below X.heap.size X w1) (h : X.cell? p = some v) : w1.cell? p = some v :=
  (hb.cell (World.block_lt_of_cell? X p h)).trans h
theorem onS {w X w1 : World} (h : Below w.heap.size w X) (hb : Below X.heap.size X w1) : Below w.heap.size w w1 := h.trans (hb.mono h.size)
theorem gtS {w X w1 : World} (hb : Below X.heap.size X w1) (h : w.heap.size < X.heap.size) : w.heap.size < w1.heap.size := by have := hb.size; omega
theorem below_drewN {B : Nat} {a w : World} (h : Below B a w) (n : Nat) : Below B a (w.drewN n) := ⟨h.os, h.tape, h.output, h.size, h.block⟩

/-- A slice with address A reads, below block B, as n elements of s cells each: cell j of element i is f i j. -/
def Rd (w : World) (B : Nat) (A : Option Addr) (n s : Nat) (f : Nat → Nat → Value) : Prop :=
  ∀ i, i < n → ∃ b off, A = some ⟨b, off, none⟩ ∧ b < B ∧ ∀ j, j < s → w.cell? ⟨b, off + i * s + j, none⟩ = some (f i j)

section
variable {w w' : World} {B B' n s i : Nat} {A : Option Addr} {f : Nat → Nat → Value}
theorem Rd.keep (h : Rd w B A n s f) (hk : ∀ p : Addr, p.block < B → w'.cell? p = w.cell? p) : Rd w' B A n s f := fun i hi => by
  obtain ⟨b, off, e, hb, hc⟩ := h i hi
  exact ⟨b, off, e, hb, fun j hj => (hk _ hb).trans (hc j hj)⟩
theorem Rd.mono (h : Rd w B A n s f) (hB : B ≤ B') : Rd w B' A n s f := fun i hi => by
  obtain ⟨b, off, e, hb, hc⟩ := h i hi
  exact ⟨b, off, e, by omega, hc⟩
theorem Rd.below (h : Rd w B A n s f) (hb : Below B' w w') (hB : B ≤ B') : Rd w' B A n s f := h.keep fun _ hp => hb.cell (by omega)
theorem Rd.alloc (h : Rd w B A n s f) (hB : B ≤ w.heap.size) (o : Obj) : Rd (w.alloc o) B A n s f := h.keep fun p hp => World.cell?_alloc_lt w o p (by omega)
theorem Rd.drew (h : Rd w B A n s f) : Rd w.drew B A n s f := h
theorem Rd.drewN (h : Rd w B A n s f) (k : Nat) : Rd (w.drewN k) B A n s f := h
theorem Rd.setCell (h : Rd w B A n s f) {p : Addr} (hB : B ≤ p.block) (u : Value) : Rd (w.setCell p u) B A n s f :=
  h.keep fun q hq => World.cell?_setCell_other w p q u (fun e => by subst e; omega)
theorem Rd.at1 (h : Rd w B A n 1 f) (hi : i < n) : ∃ b off, A = some ⟨b, off, none⟩ ∧ b < B ∧ w.cell? ⟨b, off + i, none⟩ = some (f i 0) := by
  obtain ⟨b, off, e, hb, hc⟩ := h i hi
  exact ⟨b, off, e, hb, by simpa using hc 0 (by omega)⟩
theorem Rd.at2 (h : Rd w B A n 2 f) (hi : i < n) : ∃ b off, A = some ⟨b, off, none⟩ ∧ b < B ∧ w.cell? ⟨b, off + i * 2, none⟩ = some (f i 0) ∧ w.cell? ⟨b, off + i * 2 + 1, none⟩ = some (f i 1) := by
  obtain ⟨b, off, e, hb, hc⟩ := h i hi
  exact ⟨b, off, e, hb, by simpa using hc 0 (by omega), by simpa using hc 1 (by omega)⟩
theorem Rd.at3 (h : Rd w B A n 3 f) (hi : i < n) : ∃ b off, A = some ⟨b, off, none⟩ ∧ b < B ∧ w.cell? ⟨b, off + i * 3, none⟩ = some (f i 0) ∧ w.cell? ⟨b, off + i * 3 + 1, none⟩ = some (f i 1) ∧ w.cell? ⟨b, off + i * 3 + 2, none⟩ = some (f i 2) := by
  obtain ⟨b, off, e, hb, hc⟩ := h i hi
  exact ⟨b, off, e, hb, by simpa using hc 0 (by omega), by simpa using hc 1 (by omega), by simpa using hc 2 (by omega)⟩
end

/-- make([]T, x) for an int x that is not negative, elements of one cell. -/
theorem run_makeI {P : Program} (t e : TypeId) (z : Value) (bytes : Nat) (ht : P.underlying t = some (.slice e)) (hinfo : (P.info? e).map (fun i => (i.zero, i.size, i.bytes)) = some (some z, 1, bytes)) (hz1 : z.cells = #[z])
    (x : Int) (h0 : 0 ≤ x) (hbytes : bytes * x.toNat ≤ 281474976710656) (h63 : x.toNat ≤ 9223372036854775807) (w : World) :
    (Instr.makeSlice t (.int .i64 x) (.int .i64 x)).run P w = .ok (.slice (some ⟨w.heap.size, 0, none⟩) x.toNat x.toNat) (w.alloc (.cells (madeCells #[z] x.toNat) e)) := by
  obtain ⟨n, rfl⟩ := Int.eq_ofNat_of_zero_le h0
  simp only [Int.toNat_natCast] at hbytes h63 ⊢
  exact run_make_row' t e z bytes ht hinfo hz1 _ _ n hbytes h63 w
theorem rowIs_drewN {w : World} {b : Nat} {t : TypeId} {n : Nat} {f : Nat → Value} (h : w.rowIs b t n f) (k : Nat) : (w.drewN k).rowIs b t n f := h
theorem rowIs_below {w w' : World} {B b : Nat} {t : TypeId} {n : Nat} {f : Nat → Value} (h : w.rowIs b t n f) (hb : Below B w w') (hB : b < B) : w'.rowIs b t n f := h.of_block (hb.block b hB)
theorem rowIs_on {w w' : World} {b : Nat} {t : TypeId} {n : Nat} {f : Nat → Value} (h : w.rowIs b t n f) (hb : Below w.heap.size w w') : w'.rowIs b t n f := h.of_block (hb.block b h.lt)
theorem Rd_of_row {w : World} {b : Nat} {t : TypeId} {n : Nat} {f : Nat → Value} (h : w.rowIs b t n f) : Rd w w.heap.size (some ⟨b, 0, none⟩) n 1 (fun i _ => f i) := fun i hi =>
  ⟨b, 0, rfl, h.lt, fun j hj => by obtain rfl : j = 0 := by omega
                                   simpa using h.cell hi⟩

theorem Try.infoInt : (Try.prog.info? 3).map (fun i => (i.zero, i.size, i.bytes)) = some (some (.int .i64 0), 1, 8) := by kernel_rfl
theorem Try.infoBool : (Try.prog.info? 4).map (fun i => (i.zero, i.size, i.bytes)) = some (some (.bool false), 1, 1) := by kernel_rfl
end Go.Proofs.Ytnocbkhnmdmfhaa
