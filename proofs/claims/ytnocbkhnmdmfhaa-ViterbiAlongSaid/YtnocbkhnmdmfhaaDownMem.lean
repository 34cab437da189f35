/- trellis.Words: what its recursive closure works on. -/
import Derived.Test.YtnocbkhnmdmfhaaTabL
import Derived.Test.YtnocbkhnmdmfhaaWordsMath
import Derived.Test.YtnocbkhnmdmfhaaNumRows
namespace Go.Proofs.Ytnocbkhnmdmfhaa
open Go.RowKit

/-- The blocks: trellis, word, word's box, out's box, closure's box, and what lies above. -/
structure WBlocks where
  bt : Nat
  gw : Nat
  bw : Nat
  bo : Nat
  bk : Nat
  H : Nat
structure WBlocks.Ok (X : WBlocks) (z : Nat) : Prop where
  t : z ≤ X.bt ∧ X.bt < X.H
  g : z ≤ X.gw ∧ X.gw < X.H
  w : z ≤ X.bw ∧ X.bw < X.H
  o : z ≤ X.bo ∧ X.bo < X.H
  k : z ≤ X.bk ∧ X.bk < X.H
  gt : X.gw ≠ X.bt
  gb : X.gw ≠ X.bw
  go : X.gw ≠ X.bo
  gk : X.gw ≠ X.bk
  ot : X.bo ≠ X.bt
  ow : X.bo ≠ X.bw
  ok : X.bo ≠ X.bk
/-- The closure's state: the words found are L, the word under way is f. -/
structure WSt (T : Trel) (A B : Option Addr) (c d : Nat) (X : WBlocks) (w0 w : World) (L : List (List Int)) (f : Nat → Int) : Prop where
  low : Below w0.heap.size w0 w
  hw : X.H ≤ w.heap.size
  t0 : w.cell? ⟨X.bt, 0, none⟩ = some (.slice A T.nw c)
  t1 : w.cell? ⟨X.bt, 1, none⟩ = some (.slice B T.n d)
  pw : w.cell? ⟨X.bw, 0, none⟩ = some (.slice (some ⟨X.gw, 0, none⟩) T.n T.n)
  pk : w.cell? ⟨X.bk, 0, none⟩ = some (.func (.func 65) #[] #[.pointer (some ⟨X.bw, 0, none⟩), .pointer (some ⟨X.bo, 0, none⟩), .pointer (some ⟨X.bt, 0, none⟩), .pointer (some ⟨X.bk, 0, none⟩)])
  po : ∃ v, w.rowIs X.bo 26 1 (fun _ => v) ∧ TabL w X.H v L
  row : w.rowIs X.gw 3 T.n (fun i => .int .i64 (f i))
section
variable {T : Trel} {A B : Option Addr} {c d : Nat} {X : WBlocks} {w0 w w' : World} {L : List (List Int)} {f : Nat → Int}
theorem cellH {w w' : World} {H b i : Nat} {v : Value} (hb : Below H w w') (hH : b < H) (h : w.cell? ⟨b, i, none⟩ = some v) : w'.cell? ⟨b, i, none⟩ = some v := (hb.cell (p := ⟨b, i, none⟩) hH).trans h
/-- Behind what writes above H alone. -/
theorem WSt.below (h : WSt T A B c d X w0 w L f) (hX : X.Ok w0.heap.size) (hb : Below X.H w w') (ht : ∀ v, TabL w X.H v L → TabL w' X.H v L) : WSt T A B c d X w0 w' L f where
  low := h.low.trans (hb.mono (by have := hX.t; omega))
  hw := Nat.le_trans h.hw hb.size
  t0 := cellH hb hX.t.2 h.t0
  t1 := cellH hb hX.t.2 h.t1
  pw := cellH hb hX.w.2 h.pw
  pk := cellH hb hX.k.2 h.pk
  po := by
    obtain ⟨v, h1, h2⟩ := h.po
    exact ⟨v, h1.of_block (hb.block _ hX.o.2), ht v h2⟩
  row := h.row.of_block (hb.block _ hX.g.2)
theorem WSt.on (h : WSt T A B c d X w0 w L f) (hX : X.Ok w0.heap.size) (hb : Below w.heap.size w w') : WSt T A B c d X w0 w' L f := h.below hX (hb.mono h.hw) fun _ h2 => h2.on hb
/-- The word's letter i. -/
theorem WSt.letter (h : WSt T A B c d X w0 w L f) (hX : X.Ok w0.heap.size) (i : Nat) (x : Int) : WSt T A B c d X w0 (w.setCell ⟨X.gw, i, none⟩ (.int .i64 x)) L (fun k => if k = i then x else f k) where
  low := h.low.setCell (p := ⟨X.gw, i, none⟩) hX.g.1 _
  hw := by simpa using h.hw
  t0 := cell_setCell_far h.t0 fun e => hX.gt e.symm
  t1 := cell_setCell_far h.t1 fun e => hX.gt e.symm
  pw := cell_setCell_far h.pw fun e => hX.gb e.symm
  pk := cell_setCell_far h.pk fun e => hX.gk e.symm
  po := by
    obtain ⟨v, h1, h2⟩ := h.po
    exact ⟨v, h1.setOther (by simpa using fun e => hX.go e.symm) _, h2.setCell (a := ⟨X.gw, i, none⟩) hX.g.2 _⟩
  row := (h.row.set i _).congr fun k _ => by
    show (if k = i then _ else _) = Value.int .i64 (if k = i then x else f k)
    split <;> rfl
/-- One more word found. -/
theorem WSt.found (h : WSt T A B c d X w0 w L f) (hX : X.Ok w0.heap.size) {L' : List (List Int)} {v' : Value} (hb : Below X.H w w') (ht : TabL w' X.H v' L') : WSt T A B c d X w0 (w'.setCell ⟨X.bo, 0, none⟩ v') L' f where
  low := (h.low.trans (hb.mono (by have := hX.t; omega))).setCell (p := ⟨X.bo, 0, none⟩) hX.o.1 _
  hw := by simpa using Nat.le_trans h.hw hb.size
  t0 := cell_setCell_far (cellH hb hX.t.2 h.t0) fun e => hX.ot e.symm
  t1 := cell_setCell_far (cellH hb hX.t.2 h.t1) fun e => hX.ot e.symm
  pw := cell_setCell_far (cellH hb hX.w.2 h.pw) fun e => hX.ow e.symm
  pk := cell_setCell_far (cellH hb hX.k.2 h.pk) fun e => hX.ok e.symm
  po := by
    obtain ⟨v, h1, _⟩ := h.po
    exact ⟨v', ((h1.of_block (hb.block _ hX.o.2)).set 0 v').congr fun k hk => by rw [if_pos (by omega)], ht.setCell (a := ⟨X.bo, 0, none⟩) hX.o.2 _⟩
  row := (h.row.of_block (hb.block _ hX.g.2)).setOther (by simpa using hX.go) _
end
/-- The word's letters ahead of position i. -/
def pre (f : Nat → Int) (i : Nat) : List Int := (List.range i).map f
theorem pre_len (f : Nat → Int) (i : Nat) : (pre f i).length = i := by simp [pre]
theorem pre_get (f : Nat → Int) {i k : Nat} (h : k < i) : (pre f i).getD k 0 = f k := by simp [pre, List.getD_eq_getElem?_getD, h]
theorem pre_congr {f g : Nat → Int} {i : Nat} (h : ∀ k, k < i → f k = g k) : pre f i = pre g i := List.map_congr_left fun k hk => h k (List.mem_range.1 hk)
theorem pre_succ (f : Nat → Int) (i : Nat) : pre f (i + 1) = pre f i ++ [f i] := by simp [pre, List.range_succ]
/-- The words through the first q of a node's edges, from index lo on. -/
def Trel.dnTo (T : Trel) (i r lo q : Nat) (p : List Int) : List (List Int) := (List.range q).flatMap fun t => (T.dn r (T.to i (lo + t))).map fun s => p ++ T.lb i (lo + t) :: s
theorem Trel.dnTo_succ (T : Trel) (i r lo q : Nat) (p : List Int) : T.dnTo i r lo (q + 1) p = T.dnTo i r lo q p ++ (T.dn r (T.to i (lo + q))).map fun s => (p ++ [T.lb i (lo + q)]) ++ s := by
  unfold Trel.dnTo
  rw [List.range_succ, List.flatMap_append]
  simp
theorem Trel.dnTo_mono (T : Trel) (i r lo : Nat) (p : List Int) {q q' : Nat} (h : q ≤ q') : (T.dnTo i r lo q p).length ≤ (T.dnTo i r lo q' p).length := by
  induction q' with
  | zero => obtain rfl : q = 0 := by omega
            exact Nat.le_refl _
  | succ q' ih =>
    by_cases e : q = q' + 1
    · subst e; exact Nat.le_refl _
    · have := ih (by omega)
      rw [Trel.dnTo_succ, List.length_append]
      omega
theorem outs_range {T : Trel} {i m lo hi : Nat} {v : Int} (hlh : lo ≤ hi) (hh : hi ≤ m) (hF : ∀ j, j < m → (T.fr i j = v ↔ lo ≤ j ∧ j < hi)) : T.outs i v m = (List.range (hi - lo)).map fun t => lo + t := by
  have key : ∀ k, k ≤ m → T.outs i v k = (List.range (min k hi - lo)).map fun t => lo + t := by
    intro k
    induction k with
    | zero => intro _; rw [show min 0 hi - lo = 0 by omega]; rfl
    | succ k ih =>
      intro hk
      rw [Trel.outs_succ, ih (by omega)]
      by_cases h : lo ≤ k ∧ k < hi
      · rw [if_pos ((hF k (by omega)).2 h), show min (k + 1) hi - lo = (min k hi - lo) + 1 by omega, List.range_succ, List.map_append]
        simp
        omega
      · rw [if_neg fun e => h ((hF k (by omega)).1 e), show min (k + 1) hi - lo = min k hi - lo by omega]
        simp
  rw [key m (Nat.le_refl _), show min m hi = hi by omega]
theorem Trel.dnTo_all {T : Trel} {i r lo hi : Nat} {v : Int} (hn : i + (r + 1) = T.n) (hlh : lo ≤ hi) (hh : hi ≤ T.el i) (hF : ∀ j, j < T.el i → (T.fr i j = v ↔ lo ≤ j ∧ j < hi)) (p : List Int) : T.dnTo i r lo (hi - lo) p = (T.dn (r + 1) v).map fun s => p ++ s := by
  show _ = (List.flatMap _ (T.outs _ _ _)).map _
  rw [show T.n - (r + 1) = i by omega, outs_range hlh hh hF]
  unfold Trel.dnTo
  simp [List.map_flatMap, List.flatMap_map, Function.comp_def]
end Go.Proofs.Ytnocbkhnmdmfhaa
