/- append onto an empty slice: a copy of what is read; and stores into a slice of the call's own. -/
import Derived.Test.YtnocbkhnmdmfhaaOwn
namespace Go.Proofs.Ytnocbkhnmdmfhaa
open Go.RowKit

section
variable {P : Program} (w : World)
theorem run_append_copy_none (t ty e : TypeId) (i : TypeInfo) (ht : P.underlying t = some (.slice e)) (hi : P.info? e = some i) (b0 o0 : Nat) (A : Option Addr) (c : Nat) :
    (Builtin.append_ #[t, t] ty #[.slice (some ⟨b0, o0, none⟩) 0 0, .slice A 0 c]).run P w = .ok (.slice (some ⟨b0, o0, none⟩) 0 0) w := by
  have hs : Src P i.size t (.slice A 0 c) 0 [] w := by
    cases A with
    | none => exact Src.ofNil w ht c
    | some a => exact Src.ofSlice w (e' := e) ht a 0 c [] (by simp) (fun j u h => by simp at h) (fun u h => by cases h)
  have h := run_append_room_src (P := P) w t t ty e i ht hi b0 o0 0 0 (.slice A 0 c) 0 [] hs (Nat.le_refl _) (fun j hj => by simp at hj) (fun j hj => by simp at hj)
  rw [h]
  rfl

/-- .. of m > 0 elements of s cells each: a new row. -/
theorem run_append_copy_some (t ty e : TypeId) (i : TypeInfo) (z : Value) (s bytes : Nat) (ht : P.underlying t = some (.slice e)) (hi : P.info? e = some i) (hz : i.zero = some z)
    (hsize : i.size = s) (hby : i.bytes = bytes) (hzs : z.cells.size = s) (hs : 0 < s) (A0 : Option Addr)
    (A : Option Addr) (m c : Nat) (f : Nat → Nat → Value) (hsrc : Rd w w.heap.size A m s f) (hm : 0 < m) (h1 : ∀ k, k < m → ∀ j, j < s → (f k j).oneCell' = true)
    (h63 : m ≤ maxLen) (hbytes : m * bytes ≤ 140737488355328) :
    ∃ cap cur, (Builtin.append_ #[t, t] ty #[.slice A0 0 0, .slice A m c]).run P w = .ok (.slice (some ⟨w.heap.size, 0, none⟩) m cap) (w.drew.alloc (.cells cur e)) ∧
      m ≤ cap ∧ cap ≤ maxLen ∧ cap * s ≤ cur.size ∧ ∀ k, k < m → ∀ j, j < s → cur[k * s + j]? = some (f k j) := by
  subst hsize
  subst hby
  obtain ⟨b, off, rfl, hb, _⟩ := hsrc 0 hm
  have hcell : ∀ j u, (flat i.size f m)[j]? = some u → w.cell? ((⟨b, off, none⟩ : Addr).add j) = some u := fun j u hu => by
    have hj : j < m * i.size := by have := (List.getElem?_eq_some_iff.1 hu).1; rwa [flat_length] at this
    have e1 : j / i.size < m := Nat.div_lt_of_lt_mul (by rw [Nat.mul_comm]; exact hj)
    have e2 : j % i.size < i.size := Nat.mod_lt _ hs
    have e3 : j / i.size * i.size + j % i.size = j := Nat.div_add_mod' j i.size
    have := flat_get (f := f) hs e1 e2
    rw [e3, hu] at this
    injection this with this
    subst this
    obtain ⟨b', off', e', _, hc⟩ := hsrc _ e1
    injection e' with e'
    injection e' with e' e''
    subst e' e''
    have := hc _ e2
    have hadd : (⟨b, off, none⟩ : Addr).add j = ⟨b, off + j, none⟩ := by unfold Addr.add; split <;> simp_all
    rw [hadd, ← this]
    congr 2; omega
  have hsr := Src.ofSlice (P := P) w (size := i.size) (e' := e) ht ⟨b, off, none⟩ m c (flat i.size f m) (flat_length _ _ _) hcell (fun u hu => by
    obtain ⟨j, hj, rfl⟩ := List.mem_map.1 hu
    rw [List.mem_range] at hj
    exact h1 _ (Nat.div_lt_of_lt_mul (by rw [Nat.mul_comm]; exact hj)) _ (Nat.mod_lt _ hs))
  have hsmall : 0 + m ≤ 9223372036854775807 := by simp only [maxLen] at h63; omega
  have hrun := run_append_grow_src (P := P) w t t ty e i z ht hi hz A0 0 0 [] (by cases A0 <;> simp [Builtin.firstCells, loadCells, loadCellsFrom]) (.slice (some ⟨b, off, none⟩) m c) m (flat i.size f m) hsr (by omega) (by omega) (growslice_fits (by omega) (by simpa using hbytes))
  simp only [Nat.zero_add, List.nil_append] at hrun
  refine ⟨_, _, hrun, grownCap_ge w m 0 e, grownCap_le_maxLen w m 0 e h63, ?_, fun k hk j hj => ?_⟩
  · have hge := grownCap_ge w m 0 e
    have e1 : (grownCap w m 0 e - m) * i.size + m * i.size = grownCap w m 0 e * i.size := by rw [← Nat.add_mul]; congr 1; omega
    simp [flat_length, size_zeroCells, hzs]
    omega
  · have hlt : k * i.size + j < m * i.size := by
      have : (k + 1) * i.size ≤ m * i.size := Nat.mul_le_mul_right i.size (by omega)
      rw [Nat.add_mul] at this; omega
    rw [Array.getElem?_append_left (by simpa [flat_length] using hlt), List.getElem?_toArray]
    exact flat_get hs hk hj

/-- .. at a step of a region that draws its order. -/
theorem step_append_copy_none {ops : Array Oper} {o : Oper} {a : Act} {K : Act → World → Prop} {Q : Exit → Act → World → Prop} {E : Prop} (hgd : o.guard = none) (sl x : Operand) (t : TypeId)
    (ho : o.op = .call { callee := .builtin .append, args := #[sl, x], argTypes := #[t, t] })
    (e : TypeId) (i : TypeInfo) (ht : P.underlying t = some (.slice e)) (hi : P.info? e = some i) (b0 o0 : Nat) (hv : a.eval sl = .slice (some ⟨b0, o0, none⟩) 0 0)
    (A : Option Addr) (c : Nat) (hx : a.eval x = .slice A 0 c)
    (h : K (a.put o.dst (.slice (some ⟨b0, o0, none⟩) 0 0)) w) :
    if Region.wanted o (yielded ops a.tmps) = true then Oper.wp P o a w K Q else E := by
  have hw : Region.wanted o (yielded ops a.tmps) = true := by simp [Region.wanted, hgd]
  rw [if_pos hw]
  have hrun := run_append_copy_none (P := P) w t o.type e i ht hi b0 o0 A c
  unfold Oper.wp execOp
  simp only [ho, resolve, invoke, builtin, Sem.run_bind, Sem.run_pure, Result.andThen_ok, List.map_toArray, List.map_cons, List.map_nil, hv, hx, hrun]
  exact h
theorem step_append_copy_some {ops : Array Oper} {o : Oper} {a : Act} {K : Act → World → Prop} {Q : Exit → Act → World → Prop} {E : Prop} (hgd : o.guard = none) (sl x : Operand) (t : TypeId)
    (ho : o.op = .call { callee := .builtin .append, args := #[sl, x], argTypes := #[t, t] })
    (e : TypeId) (i : TypeInfo) (z : Value) (s bytes : Nat) (ht : P.underlying t = some (.slice e)) (hi : P.info? e = some i) (hz : i.zero = some z)
    (hsize : i.size = s) (hby : i.bytes = bytes) (hzs : z.cells.size = s) (hs : 0 < s) (A0 : Option Addr) (hv : a.eval sl = .slice A0 0 0)
    (A : Option Addr) (m c : Nat) (f : Nat → Nat → Value) (hx : a.eval x = .slice A m c) (hsrc : Rd w w.heap.size A m s f) (hm : 0 < m) (h1 : ∀ k, k < m → ∀ j, j < s → (f k j).oneCell' = true)
    (h63 : m ≤ maxLen) (hbytes : m * bytes ≤ 140737488355328)
    (h : ∀ cap cur, m ≤ cap → cap ≤ maxLen → cap * s ≤ cur.size → (∀ k, k < m → ∀ j, j < s → cur[k * s + j]? = some (f k j)) → K (a.put o.dst (.slice (some ⟨w.heap.size, 0, none⟩) m cap)) (w.drew.alloc (.cells cur e))) :
    if Region.wanted o (yielded ops a.tmps) = true then Oper.wp P o a w K Q else E := by
  have hw : Region.wanted o (yielded ops a.tmps) = true := by simp [Region.wanted, hgd]
  rw [if_pos hw]
  obtain ⟨cap, cur, hrun, h2, h3, h4, h5⟩ := run_append_copy_some (P := P) w t o.type e i z s bytes ht hi hz hsize hby hzs hs A0 A m c f hsrc hm h1 h63 hbytes
  unfold Oper.wp execOp
  simp only [ho, resolve, invoke, builtin, Sem.run_bind, Sem.run_pure, Result.andThen_ok, List.map_toArray, List.map_cons, List.map_nil, hv, hx, hrun]
  exact h cap cur h2 h3 h4 h5
end

/-- A new row is the call's own. -/
theorem Own.new {w : World} {base : Nat} {e : TypeId} {s m cap : Nat} {cur : Array Value} {f : Nat → Nat → Value} (hb : base ≤ w.heap.size) (h1 : m ≤ cap) (h2 : cap ≤ maxLen) (h3 : cap * s ≤ cur.size) (h4 : ∀ k, k < m → ∀ j, j < s → cur[k * s + j]? = some (f k j)) :
    Own (w.alloc (.cells cur e)) base e s (.slice (some ⟨w.heap.size, 0, none⟩) m cap) m f :=
  .inr ⟨w.heap.size, 0, cap, cur, rfl, hb, heap_alloc_new w _, h1, h2, by omega, fun i hi j hj => by rw [Nat.zero_add]; exact h4 i hi j hj⟩

/-- A store into it. -/
theorem Own.set {w : World} {base : Nat} {e : TypeId} {s n g o c : Nat} {f : Nat → Nat → Value} (h : Own w base e s (.slice (some ⟨g, o, none⟩) n c) n f) {a b : Nat} (ha : a < n) (hb : b < s) (u : Value) :
    Own (w.setCell ⟨g, o + a * s + b, none⟩ u) base e s (.slice (some ⟨g, o, none⟩) n c) n (fun i j => if i = a ∧ j = b then u else f i j) := by
  rcases h with ⟨h, _⟩ | ⟨g', o', cap, cur, h1, h2, hg, hc, hm, h6, h7⟩
  · cases h
  · injection h1 with h1 _ h1'
    injection h1 with h1
    injection h1 with h1 h1''
    subst h1 h1' h1''
    have hle : (a + 1) * s ≤ n * s := Nat.mul_le_mul_right s ha
    have hle2 : n * s ≤ c * s := Nat.mul_le_mul_right s hc
    rw [Nat.add_mul] at hle
    have hin : o + a * s + b < cur.size := by omega
    refine .inr ⟨g, o, c, cur.setIfInBounds (o + a * s + b) u, rfl, h2, ?_, hc, hm, by simpa using h6, fun i hi j hj => ?_⟩
    · simp [World.setCell, Array.getElem?_modify, hg]
    · by_cases e : i = a ∧ j = b
      · obtain ⟨rfl, rfl⟩ := e
        simp [hin]
      · simp only [if_neg e]
        have hne : o + a * s + b ≠ o + i * s + j := fun e2 => by
          rcases Nat.lt_trichotomy i a with h | h | h
          · have : (i + 1) * s ≤ a * s := Nat.mul_le_mul_right s h
            rw [Nat.add_mul] at this; omega
          · subst h; exact e ⟨rfl, by omega⟩
          · have : (a + 1) * s ≤ i * s := Nat.mul_le_mul_right s h
            rw [Nat.add_mul] at this; omega
        rw [Array.getElem?_setIfInBounds_ne hne]
        exact h7 i hi j hj
end Go.Proofs.Ytnocbkhnmdmfhaa
