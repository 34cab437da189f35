/- What stands in a block behind an append of one element; blocks that hold no limb. -/
import Derived.Test.YtnocbkhnmdmfhaaNatLow
namespace Go.Proofs.Ytnocbkhnmdmfhaa
open Go.RowKit

/-- A block that holds no limb. -/
def NoInt (w : World) (b : Nat) : Prop := ∀ j n, w.cell? ⟨b, j, none⟩ ≠ some (.int .u32 n)
/-- A block without limbs behind an append: its cells are the old ones, the new element's and zeros. -/
theorem noInt_of {w : World} {g : Nat} {c : Array Value} {e : TypeId} {fr : Nat × Nat} (hg : w.heap[g]? = some (.cells c e fr)) (h : ∀ u ∈ c.toList, ∀ n, u ≠ .int .u32 n) : NoInt w g := fun j n hj => by
  rw [cell_of_row w g j c e fr hg] at hj
  exact h _ (by rw [Array.mem_toList_iff]; exact Array.mem_of_getElem? hj) n rfl
theorem mem_of_noInt {w : World} {g : Nat} {c : Array Value} {e : TypeId} {fr : Nat × Nat} (hg : w.heap[g]? = some (.cells c e fr)) (h : NoInt w g) : ∀ u ∈ c.toList, ∀ n, u ≠ .int .u32 n := fun u hu n e' => by
  rw [Array.mem_toList_iff] at hu
  obtain ⟨j, hj, e2⟩ := Array.getElem_of_mem hu
  exact h j n (by rw [cell_of_row w g j c _ fr hg, Array.getElem?_eq_getElem hj, e2, e'])
theorem lims_grownO {w w' : World} {B n : Nat} {A : Option Addr} {f : Nat → Nat} {row : Option Nat} (h : Lims w B A n f) (hB : B ≤ w.heap.size) (hg : w.grownBy w' row) (hni : ∀ g, row = some g → NoInt w g) : Lims w' B A n f := fun k hk => by
  obtain ⟨b', o', e, h1, h2⟩ := h k hk
  refine ⟨b', o', e, h1, fun j hj => ?_⟩
  have hc := h2 j hj
  rw [← hc]
  have hne : row ≠ some b' := fun e => hni b' e _ _ hc
  have := hg.block b' (by omega) (fun e => hne e.symm)
  simp only [World.cell?, this]
theorem mem_zeroCells {z : Array Value} {n : Nat} {u : Value} (h : u ∈ (Builtin.zeroCells z n).toList) : u ∈ z.toList := by
  simp only [Builtin.zeroCells, Array.toList_map, List.mem_map, Array.toList_range, List.mem_range] at h
  obtain ⟨k, hk, rfl⟩ := h
  have h0 : 0 < z.size := Nat.pos_of_ne_zero fun e => by rw [e] at hk; simp at hk
  have h1 : k % z.size < z.size := Nat.mod_lt _ h0
  rw [getElem!_pos z _ h1]
  exact Array.getElem_mem_toList h1
section
variable {P : Program} (w : World)
/-- What stands in the block behind an append of one element. -/
theorem run_append_cells (Pv : Value → Prop) (base : Nat) (t ty e : TypeId) (i : TypeInfo) (z : Value) (s bytes : Nat) (ht : P.underlying t = some (.slice e)) (hi : P.info? e = some i) (hz : i.zero = some z)
    (hsize : i.size = s) (hby : i.bytes = bytes) (hs : 0 < s)
    (v : Value) (n : Nat) (f : Nat → Nat → Value) (hown : Own w base e s v n f)
    (a : Addr) (c : Nat) (hnews : ∀ j, j < s → w.cell? (a.add j) = some (f n j)) (h1 : ∀ j, j < s → (f n j).oneCell' = true)
    (h63 : n + 1 ≤ maxLen) (hbytes : (n + 1) * bytes ≤ 140737488355328)
    (hPz : ∀ u ∈ z.cells.toList, Pv u) (hPf : ∀ k j, k ≤ n → j < s → Pv (f k j)) (hPv : ∀ g c e fr, v.ownBlock = some g → w.heap[g]? = some (.cells c e fr) → ∀ u ∈ c.toList, Pv u) :
    ∃ v' w', (Builtin.append_ #[t, t] ty #[v, .slice (some a) 1 c]).run P w = .ok v' w' ∧ ∀ g, v'.ownBlock = some g → ∃ c e fr, w'.heap[g]? = some (.cells c e fr) ∧ ∀ u ∈ c.toList, Pv u := by
  subst hsize
  subst hby
  have hsmall : n + 1 ≤ 9223372036854775807 := by simp only [maxLen] at h63; omega
  have hnews' : ∀ j u, (elem i.size (f n))[j]? = some u → w.cell? (a.add j) = some u := fun j u hu => by
    have hj : j < i.size := by have := (List.getElem?_eq_some_iff.1 hu).1; rwa [elem_length] at this
    rw [elem_get hj] at hu
    injection hu with hu
    subst hu
    exact hnews j hj
  have h1' : ∀ u ∈ elem i.size (f n), u.oneCell' = true := fun u hu => by
    obtain ⟨j, hj, rfl⟩ := List.mem_map.1 hu
    exact h1 j (List.mem_range.1 hj)
  have hPe : ∀ u ∈ elem i.size (f n), Pv u := fun u hu => by
    obtain ⟨j, hj, rfl⟩ := List.mem_map.1 hu
    exact hPf n j (Nat.le_refl _) (List.mem_range.1 hj)
  have hPo : ∀ u ∈ flat i.size f n, Pv u := fun u hu => by
    obtain ⟨j, hj, rfl⟩ := List.mem_map.1 hu
    have hj := List.mem_range.1 hj
    exact hPf _ _ (Nat.le_of_lt (Nat.div_lt_of_lt_mul (by rw [Nat.mul_comm]; exact hj))) (Nat.mod_lt _ hs)
  have hsrc := Src.ofSlice (P := P) w (size := i.size) (e' := e) ht a 1 c (elem i.size (f n)) (by rw [elem_length]; omega) hnews' h1'
  have grown : ∀ (A : Option Addr) (cap : Nat), cap < n + 1 → (Builtin.firstCells i.size n (.slice A n cap)).run P w.drew = .ok (flat i.size f n).toArray w.drew →
      ∃ v' w', (Builtin.append_ #[t, t] ty #[.slice A n cap, .slice (some a) 1 c]).run P w = .ok v' w' ∧ ∀ g, v'.ownBlock = some g → ∃ c e fr, w'.heap[g]? = some (.cells c e fr) ∧ ∀ u ∈ c.toList, Pv u := by
    intro A cap hcap hold
    have hrun := run_append_grow_src (P := P) w t t ty e i z ht hi hz A n cap (flat i.size f n) hold (.slice (some a) 1 c) 1 (elem i.size (f n)) hsrc hcap (by omega) (growslice_fits hcap hbytes)
    refine ⟨_, _, hrun, fun g hg => ?_⟩
    simp [Value.ownBlock] at hg
    subst hg
    refine ⟨_, e, _, heap_alloc_new w.drew _, fun u hu => ?_⟩
    simp only [Array.toList_append, List.mem_append] at hu
    rcases hu with (hu | hu) | hu
    · exact hPo u hu
    · exact hPe u hu
    · exact hPz u (mem_zeroCells hu)
  rcases hown with ⟨rfl, rfl⟩ | ⟨g, o, cap, cur, rfl, hb, hg, hnc, hcm, hfit, hcur⟩
  · exact grown none 0 (by omega) (by simp [Builtin.firstCells, flat])
  · by_cases hroom : n + 1 ≤ cap
    · have hsz : o + n * i.size + (elem i.size (f n)).length ≤ cur.size := by
        rw [elem_length]
        have : (n + 1) * i.size ≤ cap * i.size := Nat.mul_le_mul_right i.size hroom
        rw [Nat.add_mul] at this; omega
      have hrun := run_append_off_room (P := P) w t ty e i ht hi g o n cap cur hg a c (elem i.size (f n)) (elem_length _ _) hnews' h1' hroom hsz
      refine ⟨_, _, hrun, fun g' hg' => ?_⟩
      simp [Value.ownBlock] at hg'
      subst hg'
      refine ⟨_, e, _, heap_setRow_same hg, fun u hu => ?_⟩
      have hold := hPv g cur e _ rfl hg
      simp only [List.mem_append] at hu
      rcases hu with (hu | hu) | hu
      · exact hold u (List.mem_of_mem_take hu)
      · exact hPe u hu
      · exact hold u (List.mem_of_mem_drop hu)
    · have hcap : cap = n := by omega
      subst hcap
      have hold : (Builtin.firstCells i.size cap (.slice (some ⟨g, o, none⟩) cap cap)).run P w.drew = .ok (flat i.size f cap).toArray w.drew := by
        refine run_firstCells_some (P := P) w.drew i.size cap ⟨g, o, none⟩ cap cap (flat i.size f cap) (flat_length _ _ _) fun j u hu => ?_
        have hj : j < cap * i.size := by have := (List.getElem?_eq_some_iff.1 hu).1; rwa [flat_length] at this
        have e1 : j / i.size < cap := Nat.div_lt_of_lt_mul (by rw [Nat.mul_comm]; exact hj)
        have e2 : j % i.size < i.size := Nat.mod_lt _ hs
        have e3 : j / i.size * i.size + j % i.size = j := Nat.div_add_mod' j i.size
        have := flat_get (f := f) hs e1 e2
        rw [e3, hu] at this
        injection this with this
        subst this
        have := hcur _ e1 _ e2
        have hadd : (⟨g, o, none⟩ : Addr).add j = ⟨g, o + j, none⟩ := by unfold Addr.add; split <;> simp_all
        rw [hadd]
        show w.cell? ⟨g, o + j, none⟩ = _
        rw [cell_of_row w g _ cur e (0, 0) hg, ← this]
        congr 1; omega
      exact grown (some ⟨g, o, none⟩) cap (by omega) hold
end
/-- An own slice of canonical numbers. -/
def NatOwn (w : World) (base : Nat) (v : Value) (k : Nat) (x : Nat → Nat) : Prop :=
  ∃ f : Nat → Nat → Value, Own w base 43 1 v k f ∧ (∀ g, v.ownBlock = some g → NoInt w g) ∧ ∀ i, i < k → ∃ A c, f i 0 = .slice A (dl (x i)) c ∧ NatOk w w.heap.size A (x i) ∧ dl (x i) ≤ c ∧ c ≤ maxLen
theorem NatOwn.nil (w : World) (base : Nat) (x : Nat → Nat) : NatOwn w base (.slice none 0 0) 0 x := ⟨fun _ _ => undef, .inl ⟨rfl, rfl⟩, fun g h => by simp [Value.ownBlock] at h, fun i hi => by omega⟩
theorem NatOwn.on {w w' : World} {base k : Nat} {v : Value} {x : Nat → Nat} (h : NatOwn w base v k x) (hb : Below w.heap.size w w') : NatOwn w' base v k x := by
  obtain ⟨f, h1, h2, h3⟩ := h
  refine ⟨f, h1.on hb, fun g hg j n hj => ?_, fun i hi => ?_⟩
  · have hlt := (h1.lt g hg).2
    exact h2 g hg j n (by rw [← hb.cell (p := ⟨g, j, none⟩) hlt]; exact hj)
  · obtain ⟨A, c, e0, n1, h4⟩ := h3 i hi
    exact ⟨A, c, e0, n1.on hb, h4⟩
theorem NatOwn.tab {w : World} {base k : Nat} {v : Value} {x : Nat → Nat} (h : NatOwn w base v k x) : ∃ A c, v = .slice A k c ∧ k ≤ c ∧ c ≤ maxLen ∧ NatTab w w.heap.size A k x := by
  obtain ⟨f, h1, _, h3⟩ := h
  obtain ⟨A, c, rfl⟩ := h1.shape
  have hc : k ≤ c ∧ c ≤ maxLen := by
    rcases h1 with ⟨e1, e2⟩ | ⟨g1, o1, cap, cur, e1, _, _, h3, h4, _⟩
    · injection e1 with _ _ e3; subst e3; exact ⟨by omega, by unfold maxLen; omega⟩
    · injection e1 with _ _ e3; subst e3; exact ⟨h3, h4⟩
  refine ⟨A, c, rfl, hc.1, hc.2, fun i hi => ?_⟩
  obtain ⟨b, off, e, hb, hcell⟩ := h1.rd rfl i hi
  obtain ⟨B, d, e0, n1, n2, n3⟩ := h3 i hi
  have hc0 := hcell 0 (by omega)
  rw [Nat.mul_one, Nat.add_zero, e0] at hc0
  exact ⟨b, off, B, d, e, hb, hc0, n2, n3, n1⟩
theorem Try.infoNat : (Try.prog.info? 43).map (fun i => (i.zero, i.size, i.bytes)) = some (some (.slice none 0 0), 1, 24) := by kernel_rfl
theorem run_append_nat (w : World) (ty : TypeId) (base : Nat) (v : Value) (k : Nat) (x : Nat → Nat) (h : NatOwn w base v k x) (hbase : base ≤ w.heap.size) (hk : k ≤ 1048576)
    (b c : Nat) (A : Option Addr) (d : Nat) (y : Nat) (hr : x k = y)
    (c0 : w.cell? ⟨b, 0, none⟩ = some (.slice A (dl y) d)) (m1 : NatOk w w.heap.size A y) (m3 : dl y ≤ d) (m4 : d ≤ maxLen) :
    ∃ v' w', (Builtin.append_ #[39, 39] ty #[v, .slice (some ⟨b, 0, none⟩) 1 c]).run Try.prog w = .ok v' w' ∧ NatOwn w' base v' (k + 1) x ∧ w.grownBy w' v.ownBlock ∧ (∀ g, v.ownBlock = some g → base ≤ g) := by
  subst hr
  obtain ⟨f, hown, hni, hf⟩ := h
  obtain ⟨i, hi, hzz⟩ := Option.map_eq_some_iff.1 Try.infoNat
  simp only [Prod.mk.injEq] at hzz
  obtain ⟨hz, hs, hb⟩ := hzz
  let f' : Nat → Nat → Value := fun i j => if i < k then (if j < 1 then f i 0 else undef) else .slice A (dl (x k)) d
  have hown' : Own w base 43 1 v k f' := hown.congr fun i hi j hj => by
    obtain rfl : j = 0 := by omega
    simp [f', hi]
  have hnews : ∀ j, j < 1 → w.cell? ((⟨b, 0, none⟩ : Addr).add j) = some (f' k j) := fun j hj => by
    obtain rfl : j = 0 := by omega
    have : (⟨b, 0, none⟩ : Addr).add 0 = ⟨b, 0, none⟩ := by unfold Addr.add; split <;> simp_all
    rw [this]
    simpa [f'] using c0
  have h1 : ∀ j, j < 1 → (f' k j).oneCell' = true := fun j hj => by simp [f']; rfl
  obtain ⟨v1, w1, e1, o1, g1, a1, _⟩ := run_append_one (P := Try.prog) w base 39 ty 43 i _ 1 24 Try.underlying39 hi hz hs hb rfl (by omega) v k f' hown' ⟨b, 0, none⟩ c hnews h1 (by unfold maxLen; omega) (by omega) hbase
  obtain ⟨v2, w2, e2, hcells⟩ := run_append_cells (P := Try.prog) w (fun u => ∀ n, u ≠ .int .u32 n) base 39 ty 43 i _ 1 24 Try.underlying39 hi hz hs hb (by omega) v k f' hown' ⟨b, 0, none⟩ c hnews h1 (by unfold maxLen; omega) (by omega)
    (fun u hu n e => by
      have hu : u ∈ [Value.slice none 0 0] := hu
      rw [e] at hu; simp at hu)
    (fun i j hi hj n => by
      obtain rfl : j = 0 := by omega
      by_cases e : i < k
      · obtain ⟨B, x, e0, _⟩ := hf i e
        simp [f', e, e0]
      · simp [f', e])
    (fun g c' e' fr hg hh => mem_of_noInt hh (hni g hg))
  rw [e1] at e2
  injection e2 with e2 e3
  subst e2 e3
  have nat : ∀ A' y, NatOk w w.heap.size A' y → NatOk w1 w1.heap.size A' y := fun A' y hx => by
    have := lims_grownO hx (Nat.le_refl _) g1 (fun g hg => hni g hg)
    intro q hq
    obtain ⟨b', o', e, h1, h2⟩ := this q hq
    exact ⟨b', o', e, Nat.lt_of_lt_of_le h1 g1.size, h2⟩
  refine ⟨v1, w1, e1, ⟨f', o1, fun g hg => ?_, fun i hi => ?_⟩, g1, fun g hg => (hown.lt g hg).1⟩
  · obtain ⟨c', e', fr, hh, hu⟩ := hcells g hg
    exact noInt_of hh hu
  · by_cases e : i < k
    · obtain ⟨B, z, e0, n1, h4⟩ := hf i e
      exact ⟨B, z, by simp [f', e, e0], nat _ _ n1, h4⟩
    · obtain rfl : i = k := by omega
      exact ⟨A, d, by simp [f'], nat _ _ m1, m3, m4⟩
/-- .. as a law of the walk. -/
theorem wpList_append_nat {w : World} {ops : Array Oper} {rest : List Oper} {o : Oper} {a : Act} {Q : Exit → Act → World → Prop} (hgd : o.guard = none) (sl x : Operand)
    (ho : o.op = .call { callee := .builtin .append, args := #[sl, x], argTypes := #[39, 39] })
    (base : Nat) (v : Value) (k : Nat) (xs : Nat → Nat) (hv : a.eval sl = v) (h : NatOwn w base v k xs) (hbase : base ≤ w.heap.size) (hk : k ≤ 1048576)
    (b c : Nat) (hx : a.eval x = .slice (some ⟨b, 0, none⟩) 1 c) (A : Option Addr) (d : Nat) (y : Nat) (hr : xs k = y)
    (c0 : w.cell? ⟨b, 0, none⟩ = some (.slice A (dl y) d)) (m1 : NatOk w w.heap.size A y) (m3 : dl y ≤ d) (m4 : d ≤ maxLen)
    (hK : ∀ v' w', NatOwn w' base v' (k + 1) xs → Below base w w' → wpList Try.prog ops Q rest (a.put o.dst v') w') : wpList Try.prog ops Q (o :: rest) a w := by
  refine wpList_plain hgd fun K hK' => ?_
  obtain ⟨v', w', hrun, h2, h3, h4⟩ := run_append_nat w o.type base v k xs h hbase hk b c A d y hr c0 m1 m3 m4
  unfold Oper.wp execOp
  simp only [ho, resolve, invoke, builtin, Sem.run_bind, Sem.run_pure, Result.andThen_ok, List.map_toArray, List.map_cons, List.map_nil, hv, hx, hrun]
  exact hK' _ _ (hK v' w' h2 ((Below.refl base w).grown h3 hbase h4))
end Go.Proofs.Ytnocbkhnmdmfhaa
