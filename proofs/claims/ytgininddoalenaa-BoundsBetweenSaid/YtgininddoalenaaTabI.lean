/- A table of the call's own: rows of n numbers each, appended to one at a time. -/
import Derived.Test.YtgininddoalenaaSpanA
import Derived.Test.YtgininddoalenaaSpanMath
namespace Go.Proofs.Ytgininddoalenaa
open Go.RowKit

theorem Try.infoInts : (Try.prog.info? 27).map (fun i => (i.zero, i.size, i.bytes)) = some (some (.slice none 0 0), 1, 24) := by kernel_rfl
/-- v is a slice of N rows; row i is a block of n numbers W i. -/
def TabI (w : World) (base : Nat) (v : Value) (N n : Nat) (W : Nat → Nat → Nat) : Prop :=
  ∃ A : Nat → Nat, Own w base 27 1 v N (fun i _ => .slice (some ⟨A i, 0, none⟩) n n) ∧ ∀ i, i < N → base ≤ A i ∧ w.rowIs (A i) 3 n (fun k => .int .i64 (W i k : Nat))
theorem TabI.nil (w : World) (base n : Nat) (W : Nat → Nat → Nat) : TabI w base (.slice none 0 0) 0 n W := ⟨fun _ => 0, Own.nil _ _ _ _ _, fun i hi => absurd hi (by omega)⟩
theorem TabI.on {w w' : World} {base N n : Nat} {v : Value} {W : Nat → Nat → Nat} (h : TabI w base v N n W) (hb : Below w.heap.size w w') : TabI w' base v N n W := by
  obtain ⟨A, h1, h2⟩ := h
  exact ⟨A, h1.on hb, fun i hi => ⟨(h2 i hi).1, rowIs_on (h2 i hi).2 hb⟩⟩
theorem TabI.congr {w : World} {base N n : Nat} {v : Value} {W W' : Nat → Nat → Nat} (h : TabI w base v N n W) (e : ∀ i, i < N → ∀ k, k < n → W i k = W' i k) : TabI w base v N n W' := by
  obtain ⟨A, h1, h2⟩ := h
  exact ⟨A, h1, fun i hi => ⟨(h2 i hi).1, (h2 i hi).2.congr fun k hk => by rw [e i hi k hk]⟩⟩
theorem TabI.rows {w : World} {base N n : Nat} {v : Value} {W : Nat → Nat → Nat} (h : TabI w base v N n W) (hn : n ≤ 1048576) (hW : ∀ i, i < N → ∀ k, k < n → W i k ≤ 1048576) :
    ∃ O c, v = .slice O N c ∧ N ≤ c ∧ c ≤ maxLen ∧ IntRows w O N (fun _ => n) (fun i k => (W i k : Nat)) := by
  obtain ⟨A, h1, h2⟩ := h
  obtain ⟨O, c, rfl⟩ := h1.shape
  have hc := Own.cap h1
  refine ⟨O, c, rfl, hc.1, hc.2, fun i hi => ?_⟩
  obtain ⟨b, off, e, hb, hcell⟩ := h1.rd rfl i hi
  have hc0 := hcell 0 (by omega)
  rw [Nat.mul_one, Nat.add_zero] at hc0
  exact ⟨b, off, _, n, e, hb, hc0, Nat.le_refl _, by unfold maxLen; omega, Rd_of_row (h2 i hi).2, fun j hj => by have := hW i hi j hj; show -9223372036854775808 ≤ ((W i j : Nat) : Int) ∧ ((W i j : Nat) : Int) ≤ _; omega⟩
theorem own_ne_row {w : World} {base e t n N g : Nat} {v : Value} {f : Nat → Nat → Value} {f' : Nat → Value} (h : Own w base e 1 v N f) (hr : w.rowIs g t n f') (hne : e ≠ t) : v.ownBlock ≠ some g := by
  rcases h with ⟨rfl, _⟩ | ⟨g', o, cap, cur, rfl, _, hg, _⟩
  · simp [Value.ownBlock]
  · intro e1
    simp [Value.ownBlock] at e1
    subst e1
    obtain ⟨cs, h1, _⟩ := hr
    rw [hg] at h1
    injection h1 with h1
    injection h1 with _ h1
    exact hne h1
/-- One more row. -/
theorem wpList_append_row {w : World} {ops : Array Oper} {rest : List Oper} {o : Oper} {a : Act} {Q : Exit → Act → World → Prop} (hgd : o.guard = none) (sl x : Operand)
    (ho : o.op = .call { callee := .builtin .append, args := #[sl, x], argTypes := #[30, 30] })
    {base N n : Nat} {v : Value} {W : Nat → Nat → Nat} (h : TabI w base v N n W) (hv : a.eval sl = v) {b g c : Nat} {R : Nat → Nat} (hx : a.eval x = .slice (some ⟨b, 0, none⟩) 1 c)
    (hcell : w.cell? ⟨b, 0, none⟩ = some (.slice (some ⟨g, 0, none⟩) n n)) (hrow : w.rowIs g 3 n (fun k => .int .i64 (R k : Nat))) (hbase : base ≤ w.heap.size) (hb : base ≤ g) (hN : N ≤ 1048576)
    (K : ∀ v' w', TabI w' base v' (N + 1) n (fun i k => if i = N then R k else W i k) → Below base w w' → wpList Try.prog ops Q rest (a.put o.dst v') w') : wpList Try.prog ops Q (o :: rest) a w := by
  obtain ⟨A, h1, h2⟩ := h
  obtain ⟨i0, qi0, qz0, qz1, qz2⟩ := info_parts Try.infoInts
  have hown : Own w base 27 1 v N (fun i _ => .slice (some ⟨if i = N then g else A i, 0, none⟩) n n) := h1.congr fun i hi _ _ => by rw [if_neg (by omega)]
  refine wpList_append_one w hgd sl x _ ho base 27 i0 _ 1 24 Try.underlying30 qi0 qz0 qz1 qz2 rfl (by omega) v N _ hv hown ⟨b, 0, none⟩ c hx (fun j hj => by
      obtain rfl : j = 0 := by omega
      rw [if_pos rfl]
      exact hcell) (fun _ _ => rfl) (by unfold maxLen; omega) (by omega) hbase ?_
  intro v' w3 hown3 hg3 _
  refine K v' w3 ⟨fun i => if i = N then g else A i, hown3, fun i hi => ?_⟩ ((Below.refl base w).grown hg3 hbase fun q e => (hown.lt q e).1)
  have ne : (27 : Nat) ≠ 3 := by decide
  by_cases e : i = N
  · simp only [if_pos e]
    exact ⟨hb, hrow.of_block (hg3.block g hrow.lt fun e => own_ne_row hown hrow ne e.symm)⟩
  · simp only [if_neg e]
    have := h2 i (by omega)
    exact ⟨this.1, this.2.of_block (hg3.block (A i) this.2.lt fun e => own_ne_row hown this.2 ne e.symm)⟩
end Go.Proofs.Ytgininddoalenaa
