/- A slice of the call's own, anywhere in a block of its own: read, appended to one element at a time, cut at its head. -/
import Derived.Test.YtnocbkhnmdmfhaaBase
import Derived.Deep.AppendSrc
import Derived.Maps.AppendAt
namespace Go.Proofs.Ytnocbkhnmdmfhaa
open Go.RowKit

/-- v is a slice of n elements of s cells each, of element type e, in a block from base on that nobody froze; cell j of element i is f i j. -/
def Own (w : World) (base : Nat) (e : TypeId) (s : Nat) (v : Value) (n : Nat) (f : Nat → Nat → Value) : Prop :=
  (v = .slice none 0 0 ∧ n = 0) ∨
  ∃ g o cap cur, v = .slice (some ⟨g, o, none⟩) n cap ∧ base ≤ g ∧ w.heap[g]? = some (.cells cur e (0, 0)) ∧ n ≤ cap ∧ cap ≤ maxLen ∧ o + cap * s ≤ cur.size ∧ ∀ i, i < n → ∀ j, j < s → cur[o + i * s + j]? = some (f i j)

section
variable {w w' : World} {base e s n : Nat} {v : Value} {f f' : Nat → Nat → Value}
theorem Own.nil (w : World) (base e s : Nat) (f : Nat → Nat → Value) : Own w base e s (.slice none 0 0) 0 f := .inl ⟨rfl, rfl⟩
theorem Own.congr (h : Own w base e s v n f) (hf : ∀ i, i < n → ∀ j, j < s → f i j = f' i j) : Own w base e s v n f' := by
  rcases h with h | ⟨g, o, cap, cur, h1, h2, h3, h4, h5, h6, h7⟩
  · exact .inl h
  · exact .inr ⟨g, o, cap, cur, h1, h2, h3, h4, h5, h6, fun i hi j hj => by rw [h7 i hi j hj, hf i hi j hj]⟩
theorem Own.mono {base' : Nat} (h : Own w base e s v n f) (hb : base' ≤ base) : Own w base' e s v n f := by
  rcases h with h | ⟨g, o, cap, cur, h1, h2, h3⟩
  · exact .inl h
  · exact .inr ⟨g, o, cap, cur, h1, by omega, h3⟩
theorem Own.lt (h : Own w base e s v n f) : ∀ k, v.ownBlock = some k → base ≤ k ∧ k < w.heap.size := by
  intro k hk
  rcases h with ⟨rfl, _⟩ | ⟨g, o, cap, cur, rfl, hb, hg, _⟩
  · simp [Value.ownBlock] at hk
  · simp [Value.ownBlock] at hk
    subst hk
    exact ⟨hb, (Array.getElem?_eq_some_iff.1 hg).1⟩
theorem Own.of_block (h : Own w base e s v n f) (hb : ∀ k, v.ownBlock = some k → w'.heap[k]? = w.heap[k]?) : Own w' base e s v n f := by
  rcases h with h | ⟨g, o, cap, cur, rfl, h2, h3, h4⟩
  · exact .inl h
  · exact .inr ⟨g, o, cap, cur, rfl, h2, (hb g rfl).trans h3, h4⟩
theorem Own.kept {row : Option Nat} (h : Own w base e s v n f) (hg : w.grownBy w' row) (hne : v.ownBlock = none ∨ v.ownBlock ≠ row) : Own w' base e s v n f :=
  h.of_block fun k hk => hg.block k (h.lt k hk).2 (by rcases hne with h0 | h0 <;> rw [hk] at h0; cases h0; exact h0)
theorem Own.below {B : Nat} (h : Own w base e s v n f) (hb : Below B w w') (hB : ∀ k, v.ownBlock = some k → k < B) : Own w' base e s v n f := h.of_block fun k hk => hb.block k (hB k hk)
theorem Own.on (h : Own w base e s v n f) (hb : Below w.heap.size w w') : Own w' base e s v n f := h.below hb fun k hk => (h.lt k hk).2
theorem Own.alloc (h : Own w base e s v n f) (o : Obj) : Own (w.alloc o) base e s v n f := h.of_block fun k hk => Below.heap_alloc w o k (h.lt k hk).2
theorem Own.drew (h : Own w base e s v n f) : Own w.drew base e s v n f := h
theorem Own.drewN (h : Own w base e s v n f) (k : Nat) : Own (w.drewN k) base e s v n f := h
theorem Own.setCell (h : Own w base e s v n f) {a : Addr} (ha : v.ownBlock ≠ some a.block) (u : Value) : Own (w.setCell a u) base e s v n f :=
  h.of_block fun k hk => Below.heap_setCell w a u k (fun e => ha (by rw [hk, e]))
theorem Own.shape (h : Own w base e s v n f) : ∃ A c, v = .slice A n c := by
  rcases h with ⟨rfl, rfl⟩ | ⟨g, o, cap, cur, rfl, _⟩
  · exact ⟨_, _, rfl⟩
  · exact ⟨_, _, rfl⟩
theorem Own.len_le (h : Own w base e s v n f) : n ≤ maxLen := by
  rcases h with ⟨rfl, rfl⟩ | ⟨g, o, cap, cur, rfl, _, _, h4, h5, _⟩
  · exact Nat.zero_le _
  · omega
/-- Written out, where there is an element. -/
theorem Own.form (h : Own w base e s v n f) (hn : 0 < n) : ∃ g o cap, v = .slice (some ⟨g, o, none⟩) n cap ∧ base ≤ g ∧ g < w.heap.size ∧ n ≤ cap ∧ cap ≤ maxLen ∧ ∀ i, i < n → ∀ j, j < s → w.cell? ⟨g, o + i * s + j, none⟩ = some (f i j) := by
  rcases h with ⟨rfl, rfl⟩ | ⟨g, o, cap, cur, rfl, hb, hg, hc, hm, _, h7⟩
  · omega
  · exact ⟨g, o, cap, rfl, hb, (Array.getElem?_eq_some_iff.1 hg).1, hc, hm, fun i hi j hj => by rw [cell_of_row w g _ cur e (0, 0) hg]; exact h7 i hi j hj⟩
theorem Own.frozen {g o c : Nat} (h : Own w base e s (.slice (some ⟨g, o, none⟩) n c) n f) (k : Nat) : w.frozen? ⟨g, k, none⟩ = false := by
  rcases h with ⟨h, _⟩ | ⟨g', o', cap, cur, h1, _, hg, _⟩
  · cases h
  · injection h1 with h1
    injection h1 with h1
    injection h1 with h1
    subst h1
    exact frozen_of_row w g k cur e hg
/-- It reads. -/
theorem Own.rd (h : Own w base e s v n f) {A : Option Addr} {c : Nat} (hv : v = .slice A n c) : Rd w w.heap.size A n s f := by
  intro i hi
  obtain ⟨g, o, cap, h1, _, hlt, _, _, hc⟩ := h.form (by omega)
  rw [hv] at h1
  injection h1 with h1
  exact ⟨g, o, h1, hlt, fun j hj => hc i hi j hj⟩
/-- Behind a cut of its first element. -/
theorem Own.tail {g o c : Nat} (h : Own w base e s (.slice (some ⟨g, o, none⟩) n c) n f) (hn : 0 < n) : Own w base e s (.slice (some ⟨g, o + s, none⟩) (n - 1) (c - 1)) (n - 1) (fun i => f (i + 1)) := by
  rcases h with ⟨h, _⟩ | ⟨g', o', cap, cur, h1, hb, hg, hc, hm, h6, h7⟩
  · cases h
  · injection h1 with h1 _ h1'
    injection h1 with h1
    injection h1 with h1 h1''
    subst h1 h1' h1''
    have hcs : (c - 1) * s + s = c * s := by rw [← Nat.succ_mul]; congr 1; omega
    exact .inr ⟨g, o + s, c - 1, cur, rfl, hb, hg, by omega, by omega, by omega, fun i hi j hj => by
      have := h7 (i + 1) (by omega) j hj
      rw [← this]; congr 1; rw [Nat.add_mul]; omega⟩
theorem Own.tail_last {g o c : Nat} (h : Own w base e s (.slice (some ⟨g, o, none⟩) n c) n f) (hc1 : c = 1) : Own w base e s (.slice (some ⟨g, o, none⟩) (n - 1) (c - 1)) (n - 1) (fun i => f (i + 1)) := by
  rcases h with ⟨h, _⟩ | ⟨g', o', cap, cur, h1, hb, hg, hc, hm, h6, h7⟩
  · cases h
  · injection h1 with h1 _ h1'
    injection h1 with h1
    injection h1 with h1 h1''
    subst h1 h1' h1''
    exact .inr ⟨g, o, c - 1, cur, rfl, hb, hg, by omega, by omega, by subst hc1; simp; omega, fun i hi => by omega⟩
end

theorem heap_setRow_same {w : World} {g : Nat} {cur cs : Array Value} {e : TypeId} {fr : Nat × Nat} (h : w.heap[g]? = some (.cells cur e fr)) : (w.setRow g cs).heap[g]? = some (.cells cs e fr) := by
  simp [World.setRow, Array.getElem?_modify, h]
theorem heap_setRow_other {w : World} {g k : Nat} {cs : Array Value} (h : k ≠ g) : (w.setRow g cs).heap[k]? = w.heap[k]? := by
  simp only [World.setRow, Array.getElem?_modify]
  rw [if_neg (fun e => h e.symm)]
theorem grownBy_setRow (w : World) (g : Nat) (cs : Array Value) : w.grownBy (w.setRow g cs) (some g) :=
  ⟨rfl, rfl, rfl, by simp, fun k _ hne => heap_setRow_other (fun e => hne (by rw [e]))⟩

/-- One element: its s cells. -/
def elem (s : Nat) (u : Nat → Value) : List Value := (List.range s).map u
theorem elem_length (s : Nat) (u : Nat → Value) : (elem s u).length = s := by simp [elem]
theorem elem_get {s : Nat} {u : Nat → Value} {j : Nat} (hj : j < s) : (elem s u)[j]? = some (u j) := by simp [elem, hj]

/-- The cells of the first n elements, as a list. -/
def flat (s : Nat) (f : Nat → Nat → Value) (n : Nat) : List Value := (List.range (n * s)).map fun k => f (k / s) (k % s)
theorem flat_length (s : Nat) (f : Nat → Nat → Value) (n : Nat) : (flat s f n).length = n * s := by simp [flat]
theorem flat_get {s : Nat} (hs : 0 < s) {f : Nat → Nat → Value} {n i j : Nat} (hi : i < n) (hj : j < s) : (flat s f n)[i * s + j]? = some (f i j) := by
  have hlt : i * s + j < n * s := by
    have : (i + 1) * s ≤ n * s := Nat.mul_le_mul_right s hi
    rw [Nat.add_mul] at this; omega
  simp only [flat, List.getElem?_map]
  rw [List.getElem?_range hlt]
  simp only [Option.map_some]
  rw [show (i * s + j) / s = i by rw [Nat.mul_comm, Nat.mul_add_div hs, Nat.div_eq_of_lt hj, Nat.add_zero], show (i * s + j) % s = j by rw [Nat.mul_comm, Nat.mul_add_mod, Nat.mod_eq_of_lt hj]]

section
variable {P : Program} (w : World)
/-- append of one element: there is room. -/
theorem run_append_off_room (t ty e : TypeId) (i : TypeInfo) (ht : P.underlying t = some (.slice e)) (hi : P.info? e = some i)
    (g o sLen sCap : Nat) (cur : Array Value) (hg : w.heap[g]? = some (.cells cur e (0, 0)))
    (a : Addr) (c : Nat) (news : List Value) (hl : news.length = i.size) (hnews : ∀ j u, news[j]? = some u → w.cell? (a.add j) = some u) (h1 : ∀ u ∈ news, u.oneCell' = true)
    (hroom : sLen + 1 ≤ sCap) (hfit : o + sLen * i.size + news.length ≤ cur.size) :
    (Builtin.append_ #[t, t] ty #[.slice (some ⟨g, o, none⟩) sLen sCap, .slice (some a) 1 c]).run P w =
      .ok (.slice (some ⟨g, o, none⟩) (sLen + 1) sCap) (w.setRow g (cur.toList.take (o + sLen * i.size) ++ news ++ cur.toList.drop (o + sLen * i.size + news.length)).toArray) := by
  have hf := run_firstCells_some (P := P) w i.size 1 a 1 c news (by omega) hnews
  have hst := run_storeCells_at P g (o + sLen * i.size) e news 0 cur w hg (by simpa using hfit) h1
  simp only [Nat.add_zero] at hst
  simp [Builtin.append_, run_underlying ht, sizeOf, typeInfo, hi, Builtin.lenOf, hroom, hf, Addr.add_lit, hst]

/-- append of one element, onto whatever the call owns. -/
theorem run_append_one (base : Nat) (t ty e : TypeId) (i : TypeInfo) (z : Value) (s bytes : Nat) (ht : P.underlying t = some (.slice e)) (hi : P.info? e = some i) (hz : i.zero = some z)
    (hsize : i.size = s) (hby : i.bytes = bytes) (hzs : z.cells.size = s) (hs : 0 < s)
    (v : Value) (n : Nat) (f : Nat → Nat → Value) (hown : Own w base e s v n f)
    (a : Addr) (c : Nat) (hnews : ∀ j, j < s → w.cell? (a.add j) = some (f n j)) (h1 : ∀ j, j < s → (f n j).oneCell' = true)
    (h63 : n + 1 ≤ maxLen) (hbytes : (n + 1) * bytes ≤ 140737488355328) (hbase : base ≤ w.heap.size) :
    ∃ v' w', (Builtin.append_ #[t, t] ty #[v, .slice (some a) 1 c]).run P w = .ok v' w' ∧ Own w' base e s v' (n + 1) f ∧ w.grownBy w' v.ownBlock ∧ (v'.ownBlock = v.ownBlock ∨ v'.ownBlock = some w.heap.size) ∧ ∃ g o cap, v' = .slice (some ⟨g, o, none⟩) (n + 1) cap := by
  subst hsize
  subst hby
  have hsmall : n + 1 ≤ 9223372036854775807 := by simp only [maxLen] at h63; omega
  have hnews' : ∀ j u, (elem i.size (f n))[j]? = some u → w.cell? (a.add j) = some u := fun j u hu => by
    have hj : j < i.size := by have := (List.getElem?_eq_some_iff.1 hu).1; rwa [elem_length] at this
    rw [elem_get hj] at hu
    injection hu with hu
    subst hu
    exact hnews j hj
  have h1' : ∀ u ∈ elem i.size (f n), u.oneCell' = true := fun u hu => by
    obtain ⟨j, hj, rfl⟩ := List.mem_map.1 hu
    exact h1 j (List.mem_range.1 hj)
  have hsrc := Src.ofSlice (P := P) w (size := i.size) (e' := e) ht a 1 c (elem i.size (f n)) (by rw [elem_length]; omega) hnews' h1'
  -- what the growing arm leaves
  have grown : ∀ (A : Option Addr) (cap : Nat), cap < n + 1 → (Builtin.firstCells i.size n (.slice A n cap)).run P w.drew = .ok (flat i.size f n).toArray w.drew → ∀ row : Option Nat,
      ∃ v' w', (Builtin.append_ #[t, t] ty #[.slice A n cap, .slice (some a) 1 c]).run P w = .ok v' w' ∧ Own w' base e i.size v' (n + 1) f ∧ w.grownBy w' row ∧ v'.ownBlock = some w.heap.size ∧ ∃ g o cap, v' = .slice (some ⟨g, o, none⟩) (n + 1) cap := by
    intro A cap hcap hold row
    have hrun := run_append_grow_src (P := P) w t t ty e i z ht hi hz A n cap (flat i.size f n) hold (.slice (some a) 1 c) 1 (elem i.size (f n)) hsrc hcap (by omega) (growslice_fits hcap hbytes)
    refine ⟨_, _, hrun, .inr ⟨w.heap.size, 0, _, _, rfl, hbase, heap_alloc_new w.drew _, grownCap_ge w (n + 1) cap e, grownCap_le_maxLen w (n + 1) cap e h63, ?_, fun k hk j hj => ?_⟩, ⟨rfl, rfl, rfl, by simp, fun k hk _ => Below.heap_alloc w.drew _ k hk⟩, rfl, _, _, _, rfl⟩
    · have hge := grownCap_ge w (n + 1) cap e
      have e1 : (grownCap w (n + 1) cap e - (n + 1)) * i.size + (n + 1) * i.size = grownCap w (n + 1) cap e * i.size := by rw [← Nat.add_mul]; congr 1; omega
      simp [flat_length, elem_length, size_zeroCells, hzs]
      rw [Nat.add_mul] at e1
      omega
    · have hlt : k * i.size + j < (n + 1) * i.size := by
        have : (k + 1) * i.size ≤ (n + 1) * i.size := Nat.mul_le_mul_right i.size (by omega)
        rw [Nat.add_mul] at this; omega
      have hlen : (flat i.size f n ++ elem i.size (f n)).length = (n + 1) * i.size := by rw [List.length_append, flat_length, elem_length, Nat.add_mul]; omega
      rw [Nat.zero_add, Array.getElem?_append_left (by simpa [hlen] using hlt)]
      rw [List.getElem?_toArray]
      by_cases hkn : k < n
      · rw [List.getElem?_append_left (by
          rw [flat_length]
          have : (k + 1) * i.size ≤ n * i.size := Nat.mul_le_mul_right i.size hkn
          rw [Nat.add_mul] at this; omega)]
        exact flat_get hs hkn hj
      · obtain rfl : k = n := by omega
        rw [List.getElem?_append_right (by rw [flat_length]; omega), flat_length, show k * i.size + j - k * i.size = j by omega]
        exact elem_get hj
  rcases hown with ⟨rfl, rfl⟩ | ⟨g, o, cap, cur, rfl, hb, hg, hnc, hcm, hfit, hcur⟩
  · obtain ⟨v', w', h2, h3, h4, h5, h6⟩ := grown none 0 (by omega) (by simp [Builtin.firstCells, flat]) (Value.ownBlock (.slice none 0 0))
    exact ⟨v', w', h2, h3, h4, .inr h5, h6⟩
  · by_cases hroom : n + 1 ≤ cap
    · have hsz : o + n * i.size + (elem i.size (f n)).length ≤ cur.size := by
        rw [elem_length]
        have : (n + 1) * i.size ≤ cap * i.size := Nat.mul_le_mul_right i.size hroom
        rw [Nat.add_mul] at this; omega
      have hrun := run_append_off_room (P := P) w t ty e i ht hi g o n cap cur hg a c (elem i.size (f n)) (elem_length _ _) hnews' h1' hroom hsz
      refine ⟨_, _, hrun, .inr ⟨g, o, cap, _, rfl, hb, heap_setRow_same hg, hroom, hcm, ?_, fun k hk j hj => ?_⟩, grownBy_setRow w g _, .inl rfl, _, _, _, rfl⟩
      · rw [elem_length] at hsz
        simp [elem_length]; omega
      · rw [elem_length] at hsz
        have hto : (cur.toList.take (o + n * i.size)).length = o + n * i.size := by simp; omega
        rw [List.getElem?_toArray]
        by_cases hkn : k < n
        · have : (k + 1) * i.size ≤ n * i.size := Nat.mul_le_mul_right i.size hkn
          rw [Nat.add_mul] at this
          rw [List.append_assoc, List.getElem?_append_left (by omega), List.getElem?_take, if_pos (by omega)]
          rw [Array.getElem?_toList]
          exact hcur k hkn j hj
        · obtain rfl : k = n := by omega
          rw [List.append_assoc, List.getElem?_append_right (by omega), hto, show o + k * i.size + j - (o + k * i.size) = j by omega, List.getElem?_append_left (by rw [elem_length]; omega)]
          exact elem_get hj
    · have hcap : cap = n := by omega
      subst hcap
      have hold : (Builtin.firstCells i.size cap (.slice (some ⟨g, o, none⟩) cap cap)).run P w.drew = .ok (flat i.size f cap).toArray w.drew := by
        refine run_firstCells_some (P := P) w.drew i.size cap ⟨g, o, none⟩ cap cap (flat i.size f cap) (flat_length _ _ _) fun j u hu => ?_
        have hj : j < cap * i.size := by have := (List.getElem?_eq_some_iff.1 hu).1; rwa [flat_length] at this
        have e1 : j / i.size < cap := Nat.div_lt_of_lt_mul (by rw [Nat.mul_comm]; exact hj)
        have e2 : j % i.size < i.size := Nat.mod_lt _ hs
        have e3 : j / i.size * i.size + j % i.size = j := Nat.div_add_mod' j i.size
        have := flat_get (f := f) hs e1 e2
        rw [e3, hu] at this
        injection this with this
        subst this
        have := hcur _ e1 _ e2
        have hadd : (⟨g, o, none⟩ : Addr).add j = ⟨g, o + j, none⟩ := by unfold Addr.add; split <;> simp_all
        rw [hadd]
        show w.cell? ⟨g, o + j, none⟩ = _
        rw [cell_of_row w g _ cur e (0, 0) hg, ← this]
        congr 1; omega
      obtain ⟨v', w', h2, h3, h4, h5, h6⟩ := grown (some ⟨g, o, none⟩) cap (by omega) hold (Value.ownBlock (.slice (some ⟨g, o, none⟩) cap cap))
      exact ⟨v', w', h2, h3, h4, .inr h5, h6⟩

/-- .. as a law of the walk. -/
theorem wpList_append_one {ops : Array Oper} {rest : List Oper} {o : Oper} {a : Act} {Q : Exit → Act → World → Prop} (hgd : o.guard = none) (sl x : Operand) (t : TypeId)
    (ho : o.op = .call { callee := .builtin .append, args := #[sl, x], argTypes := #[t, t] })
    (base : Nat) (e : TypeId) (i : TypeInfo) (z : Value) (s bytes : Nat) (ht : P.underlying t = some (.slice e)) (hi : P.info? e = some i) (hz : i.zero = some z)
    (hsize : i.size = s) (hby : i.bytes = bytes) (hzs : z.cells.size = s) (hs : 0 < s)
    (v : Value) (n : Nat) (f : Nat → Nat → Value) (hv : a.eval sl = v) (hown : Own w base e s v n f)
    (ad : Addr) (c : Nat) (hx : a.eval x = .slice (some ad) 1 c) (hnews : ∀ j, j < s → w.cell? (ad.add j) = some (f n j)) (h1 : ∀ j, j < s → (f n j).oneCell' = true)
    (h63 : n + 1 ≤ maxLen) (hbytes : (n + 1) * bytes ≤ 140737488355328) (hbase : base ≤ w.heap.size)
    (h : ∀ v' w', Own w' base e s v' (n + 1) f → w.grownBy w' v.ownBlock → (v'.ownBlock = v.ownBlock ∨ v'.ownBlock = some w.heap.size) → wpList P ops Q rest (a.put o.dst v') w') : wpList P ops Q (o :: rest) a w := by
  refine wpList_plain hgd fun K hK => ?_
  obtain ⟨v', w', hrun, h2, h3, h4, _⟩ := run_append_one (P := P) w base t o.type e i z s bytes ht hi hz hsize hby hzs hs v n f hown ad c hnews h1 h63 hbytes hbase
  unfold Oper.wp execOp
  simp only [ho, resolve, invoke, builtin, Sem.run_bind, Sem.run_pure, Result.andThen_ok, List.map_toArray, List.map_cons, List.map_nil, hv, hx, hrun]
  exact hK _ _ (h v' w' h2 h3 h4)
/-- .. at a step of a region that draws its order. -/
theorem step_append_one {ops : Array Oper} {o : Oper} {a : Act} {K : Act → World → Prop} {Q : Exit → Act → World → Prop} {E : Prop} (hgd : o.guard = none) (sl x : Operand) (t : TypeId)
    (ho : o.op = .call { callee := .builtin .append, args := #[sl, x], argTypes := #[t, t] })
    (base : Nat) (e : TypeId) (i : TypeInfo) (z : Value) (s bytes : Nat) (ht : P.underlying t = some (.slice e)) (hi : P.info? e = some i) (hz : i.zero = some z)
    (hsize : i.size = s) (hby : i.bytes = bytes) (hzs : z.cells.size = s) (hs : 0 < s)
    (v : Value) (n : Nat) (f : Nat → Nat → Value) (hv : a.eval sl = v) (hown : Own w base e s v n f)
    (ad : Addr) (c : Nat) (hx : a.eval x = .slice (some ad) 1 c) (hnews : ∀ j, j < s → w.cell? (ad.add j) = some (f n j)) (h1 : ∀ j, j < s → (f n j).oneCell' = true)
    (h63 : n + 1 ≤ maxLen) (hbytes : (n + 1) * bytes ≤ 140737488355328) (hbase : base ≤ w.heap.size)
    (h : ∀ v' w', Own w' base e s v' (n + 1) f → w.grownBy w' v.ownBlock → (v'.ownBlock = v.ownBlock ∨ v'.ownBlock = some w.heap.size) → K (a.put o.dst v') w') :
    if Region.wanted o (yielded ops a.tmps) = true then Oper.wp P o a w K Q else E := by
  have hw : Region.wanted o (yielded ops a.tmps) = true := by simp [Region.wanted, hgd]
  rw [if_pos hw]
  obtain ⟨v', w', hrun, h2, h3, h4, _⟩ := run_append_one (P := P) w base t o.type e i z s bytes ht hi hz hsize hby hzs hs v n f hown ad c hnews h1 h63 hbytes hbase
  unfold Oper.wp execOp
  simp only [ho, resolve, invoke, builtin, Sem.run_bind, Sem.run_pure, Result.andThen_ok, List.map_toArray, List.map_cons, List.map_nil, hv, hx, hrun]
  exact h v' w' h2 h3 h4
end
end Go.Proofs.Ytnocbkhnmdmfhaa
