/- Tables of polynomials with natural coefficients. -/
import Derived.Test.YtnocbkhnmdmfhaaEMul
import Derived.Test.YtnocbkhnmdmfhaaNumRows
namespace Go.Proofs.Ytnocbkhnmdmfhaa
open Go.RowKit

/-- A value that reads as the polynomial x. -/
def PolV (w : World) (V : Value) (x : Nat → Nat) : Prop := ∃ d, NatOwn w 0 V d x ∧ d ≤ 66 ∧ (∀ t, d ≤ t → x t = 0) ∧ ∀ D, (∀ t, D ≤ t → x t = 0) → d ≤ D
/-- A slice of the call's own of k polynomials. -/
def PolOwn (w : World) (base : Nat) (v : Value) (k : Nat) (x : Nat → Nat → Nat) : Prop :=
  ∃ P : Nat → Value, Own w base 39 1 v k (fun i _ => P i) ∧ (∀ g, v.ownBlock = some g → NoInt w g) ∧ ∀ i, i < k → PolV w (P i) (x i)
theorem Try.infoPol : (Try.prog.info? 39).map (fun i => (i.zero, i.size, i.bytes)) = some (some (.slice none 0 0), 1, 24) := by kernel_rfl
section
variable {w w' : World} {base k : Nat} {v V : Value} {x y : Nat → Nat}
theorem PolV.on (h : PolV w V x) (hb : Below w.heap.size w w') : PolV w' V x := by
  obtain ⟨d, h1, h2⟩ := h
  exact ⟨d, h1.on hb, h2⟩
theorem PolV.isSlice (h : PolV w V x) : ∃ A n c, V = .slice A n c := by
  obtain ⟨d, h1, _⟩ := h
  obtain ⟨A, c, e⟩ := h1.isSlice
  exact ⟨A, d, c, e⟩
theorem PolV.congr (h : PolV w V x) (e : ∀ t, x t = y t) : PolV w V y := by
  obtain ⟨d, h1, h2, h3, h4⟩ := h
  exact ⟨d, h1.congr fun t _ => e t, h2, fun t ht => by rw [← e]; exact h3 t ht, fun D hD => h4 D fun t ht => by rw [e]; exact hD t ht⟩
theorem natOwn_grown {row : Option Nat} {n : Nat} (h : NatOwn w base V n x) (hg : w.grownBy w' row) (hne : V.ownBlock = none ∨ V.ownBlock ≠ row) (hni : ∀ q, row = some q → NoInt w q) : NatOwn w' base V n x := by
  obtain ⟨f, k1, k2, k3⟩ := h
  refine ⟨f, k1.kept hg hne, fun q hq j z hz => ?_, fun i hi => ?_⟩
  · have hq2 := (k1.lt q hq).2
    have hb2 := hg.block q hq2 (fun e2 => by
      rcases hne with h0 | h0
      · rw [h0] at hq; cases hq
      · exact h0 (hq.trans e2))
    refine k2 q hq j z ?_
    rw [← hz]
    simp only [World.cell?, hb2]
  · obtain ⟨A, c, e0, n1, n2, n3⟩ := k3 i hi
    exact ⟨A, c, e0, natOk_grown n1 hg hni, n2, n3⟩
end
section
variable {w w' : World} {base k : Nat} {v V : Value} {x : Nat → Nat → Nat} {X : Nat → Nat}
theorem ne_pol : (39 : Nat) ≠ 43 := by decide
/-- A polynomial's block is no row's. -/
theorem PolV.ne (h : PolV w V X) {s n : Nat} {r : Value} {f : Nat → Nat → Value} (hr : Own w base 39 s r n f) : V.ownBlock = none ∨ V.ownBlock ≠ r.ownBlock := by
  obtain ⟨d, ⟨g, k1, _⟩, _⟩ := h
  exact own_ne (hr.mono (Nat.zero_le base)) k1 ne_pol
theorem PolV.grown (h : PolV w V X) {row : Option Nat} (hg : w.grownBy w' row) (hne : V.ownBlock = none ∨ V.ownBlock ≠ row) (hni : ∀ q, row = some q → NoInt w q) : PolV w' V X := by
  obtain ⟨d, h1, h2⟩ := h
  exact ⟨d, natOwn_grown h1 hg hne hni, h2⟩
theorem PolV.setFar (h : PolV w V X) {b j : Nat} (hne : V.ownBlock ≠ some b) (hni : NoInt w b) {u : Value} (hu : ∀ z, u ≠ .int .u32 z) : PolV (w.setCell ⟨b, j, none⟩ u) V X := by
  obtain ⟨d, h1, h2⟩ := h
  exact ⟨d, h1.setFar hne hni hu, h2⟩
theorem PolOwn.on (h : PolOwn w base v k x) (hb : Below w.heap.size w w') : PolOwn w' base v k x := by
  obtain ⟨P, h1, h2, h3⟩ := h
  exact ⟨P, h1.on hb, fun g hg => noInt_on (h2 g hg) hb (h1.lt g hg).2, fun i hi => (h3 i hi).on hb⟩
theorem PolOwn.isSlice (h : PolOwn w base v k x) : ∃ A c, v = .slice A k c := by
  obtain ⟨P, h1, _⟩ := h
  exact h1.shape
theorem PolOwn.lt (h : PolOwn w base v k x) : ∀ b, v.ownBlock = some b → base ≤ b ∧ b < w.heap.size := by
  obtain ⟨P, h1, _⟩ := h
  exact h1.lt
theorem PolOwn.nil (w : World) (base : Nat) (x : Nat → Nat → Nat) : PolOwn w base (.slice none 0 0) 0 x := ⟨fun _ => undef, .inl ⟨rfl, rfl⟩, fun g h => by simp [Value.ownBlock] at h, fun i hi => by omega⟩
/-- append of one polynomial. -/
theorem run_append_pol (w : World) (ty : TypeId) (base : Nat) (v : Value) (k : Nat) (x : Nat → Nat → Nat) (h : PolOwn w base v k x) (hbase : base ≤ w.heap.size) (hk : k ≤ 1048576)
    (b c : Nat) (V : Value) (c0 : w.cell? ⟨b, 0, none⟩ = some V) (hV : PolV w V (x k)) :
    ∃ v' w', (Builtin.append_ #[91, 91] ty #[v, .slice (some ⟨b, 0, none⟩) 1 c]).run Try.prog w = .ok v' w' ∧ PolOwn w' base v' (k + 1) x ∧ w.grownBy w' v.ownBlock ∧ (v'.ownBlock = v.ownBlock ∨ v'.ownBlock = some w.heap.size) := by
  obtain ⟨P, hown, hni, hP⟩ := h
  obtain ⟨i, hi, hzz⟩ := Option.map_eq_some_iff.1 Try.infoPol
  simp only [Prod.mk.injEq] at hzz
  obtain ⟨hz, hs, hb⟩ := hzz
  obtain ⟨VA, vn, vc, hVs⟩ := hV.isSlice
  have hown' : Own w base 39 1 v k (fun i _ => if i = k then V else P i) := hown.congr fun i hi _ _ => by rw [if_neg (by omega)]
  have hnews : ∀ j, j < 1 → w.cell? ((⟨b, 0, none⟩ : Addr).add j) = some ((fun i (_ : Nat) => if i = k then V else P i) k j) := fun j hj => by
    obtain rfl : j = 0 := by omega
    have : (⟨b, 0, none⟩ : Addr).add 0 = ⟨b, 0, none⟩ := by unfold Addr.add; split <;> simp_all
    rw [this]
    show _ = some (if k = k then V else P k)
    rw [if_pos rfl]
    exact c0
  have h1 : ∀ j, j < 1 → ((fun i (_ : Nat) => if i = k then V else P i) k j).oneCell' = true := fun j hj => by
    show (if k = k then V else P k).oneCell' = true
    rw [if_pos rfl, hVs]
    rfl
  obtain ⟨v1, w1, e1, o1, g1, a1, _⟩ := run_append_one (P := Try.prog) w base 91 ty 39 i _ 1 24 Try.underlying91 hi hz hs hb rfl (by omega) v k _ hown' ⟨b, 0, none⟩ c hnews h1 (by unfold maxLen; omega) (by omega) hbase
  obtain ⟨v2, w2, e2, hcells⟩ := run_append_cells (P := Try.prog) w (fun u => ∀ n, u ≠ .int .u32 n) base 91 ty 39 i _ 1 24 Try.underlying91 hi hz hs hb (by omega) v k _ hown' ⟨b, 0, none⟩ c hnews h1 (by unfold maxLen; omega) (by omega)
    (fun u hu n e => by
      have hu : u ∈ [Value.slice none 0 0] := hu
      rw [e] at hu; simp at hu)
    (fun i j hi hj n => by
      show (if i = k then V else P i) ≠ _
      by_cases e : i = k
      · rw [if_pos e, hVs]
        exact fun h => by cases h
      · rw [if_neg e]
        obtain ⟨A', n', c', e'⟩ := (hP i (by omega)).isSlice
        rw [e']
        exact fun h => by cases h)
    (fun g c' e' fr hg hh => mem_of_noInt hh (hni g hg))
  rw [e1] at e2
  injection e2 with e2 e3
  subst e2 e3
  refine ⟨v1, w1, e1, ⟨fun i => if i = k then V else P i, o1, fun g hg => ?_, fun i hi => ?_⟩, g1, a1⟩
  · obtain ⟨c', e', fr, hh, hu⟩ := hcells g hg
    exact noInt_of hh hu
  · show PolV w1 (if i = k then V else P i) (x i)
    by_cases e : i = k
    · rw [if_pos e, e]
      exact hV.grown g1 (hV.ne hown) hni
    · rw [if_neg e]
      exact (hP i (by omega)).grown g1 ((hP i (by omega)).ne hown) hni
/-- .. at a step of a region that draws its order. -/
theorem step_append_pol {ops : Array Oper} {o : Oper} {a : Act} {w : World} {K : Act → World → Prop} {Q : Exit → Act → World → Prop} {E : Prop} (hgd : o.guard = none) (sl y : Operand)
    (ho : o.op = .call { callee := .builtin .append, args := #[sl, y], argTypes := #[91, 91] })
    (base : Nat) (v : Value) (k : Nat) (x : Nat → Nat → Nat) (hv : a.eval sl = v) (h : PolOwn w base v k x) (hbase : base ≤ w.heap.size) (hk : k ≤ 1048576)
    (b c : Nat) (hy : a.eval y = .slice (some ⟨b, 0, none⟩) 1 c) (V : Value) (c0 : w.cell? ⟨b, 0, none⟩ = some V) (hV : PolV w V (x k))
    (hK : ∀ v' w', PolOwn w' base v' (k + 1) x → w.grownBy w' v.ownBlock → (v'.ownBlock = v.ownBlock ∨ v'.ownBlock = some w.heap.size) → K (a.put o.dst v') w') :
    if Region.wanted o (yielded ops a.tmps) = true then Oper.wp Try.prog o a w K Q else E := by
  have hw : Region.wanted o (yielded ops a.tmps) = true := by simp [Region.wanted, hgd]
  rw [if_pos hw]
  obtain ⟨v', w', hrun, h2, h3, h4⟩ := run_append_pol w o.type base v k x h hbase hk b c V c0 hV
  unfold Oper.wp execOp
  simp only [ho, resolve, invoke, builtin, Sem.run_bind, Sem.run_pure, Result.andThen_ok, List.map_toArray, List.map_cons, List.map_nil, hv, hy, hrun]
  exact hK v' w' h2 h3 h4
end
theorem PolOwn.monoB {b' : Nat} {v : Value} {k : Nat} {x : Nat → Nat → Nat} {w : World} {base : Nat} (h : PolOwn w base v k x) (hb : b' ≤ base) : PolOwn w b' v k x := by
  obtain ⟨P, h1, h2⟩ := h
  exact ⟨P, h1.mono hb, h2⟩
/-- A polynomial that is read. -/
theorem PolOwn.at {v : Value} {k : Nat} {x : Nat → Nat → Nat} {w : World} {base i : Nat} (h : PolOwn w base v k x) (hi : i < k) : ∃ b o d V, v = .slice (some ⟨b, o, none⟩) k d ∧ base ≤ b ∧ b < w.heap.size ∧ w.cell? ⟨b, o + i, none⟩ = some V ∧ PolV w V (x i) ∧ w.frozen? ⟨b, o + i, none⟩ = false := by
  obtain ⟨P, h1, h2, h3⟩ := h
  obtain ⟨b, o, d, e, hb, hl, _, _, hc⟩ := h1.form (by omega)
  have hc0 := hc i hi 0 (by omega)
  rw [Nat.mul_one, Nat.add_zero] at hc0
  refine ⟨b, o, d, P i, e, hb, hl, hc0, h3 i hi, ?_⟩
  rw [e] at h1
  exact h1.frozen (o + i)
/-- A polynomial that is written. -/
theorem PolOwn.set {x : Nat → Nat → Nat} {w : World} {base k i b o d : Nat} (h : PolOwn w base (.slice (some ⟨b, o, none⟩) k d) k x) (hi : i < k) {V : Value} {y : Nat → Nat} (hy : PolV w V y) :
    PolOwn (w.setCell ⟨b, o + i, none⟩ V) base (.slice (some ⟨b, o, none⟩) k d) k (fun u => if u = i then y else x u) := by
  obtain ⟨P, k1, k2, k3⟩ := h
  have hni : NoInt w b := k2 b rfl
  obtain ⟨VA, vn, vc, hVs⟩ := hy.isSlice
  have hnu : ∀ u : Int, V ≠ .int .u32 u := fun u e => by rw [hVs] at e; cases e
  have hfar : ∀ {U : Value} {z : Nat → Nat}, PolV w U z → PolV (w.setCell ⟨b, o + i, none⟩ V) U z := fun hU => by
    refine hU.setFar ?_ hni hnu
    rcases hU.ne k1 with h0 | h0
    · rw [h0]; exact fun e => by cases e
    · exact h0
  have ks := k1.set (a := i) (b := 0) hi (by omega) V
  rw [Nat.mul_one, Nat.add_zero] at ks
  refine ⟨fun u => if u = i then V else P u, ks.congr fun u _ j hj => ?_, fun q hq => ?_, fun u hu => ?_⟩
  · obtain rfl : j = 0 := by omega
    show (if u = i ∧ 0 = 0 then V else P u) = if u = i then V else P u
    by_cases ei : u = i
    · rw [if_pos ⟨ei, rfl⟩, if_pos ei]
    · rw [if_neg fun hh => ei hh.1, if_neg ei]
  · obtain rfl : b = q := by simpa [Value.ownBlock] using hq
    exact noInt_setCell hni hnu
  · show PolV _ (if u = i then V else P u) (if u = i then y else x u)
    by_cases ei : u = i
    · rw [if_pos ei, if_pos ei]
      exact hfar hy
    · rw [if_neg ei, if_neg ei]
      exact hfar (k3 u hu)
/-- m rows of polynomials in slices of the call's own: row v has n v polynomials x v. -/
structure PolTab (w : World) (g base m : Nat) (F : Nat → Value) (n : Nat → Nat) (x : Nat → Nat → Nat → Nat) : Prop where
  row : w.rowIs g 91 m F
  own : ∀ v, v < m → PolOwn w base (F v) (n v) (x v)
  apart : ∀ v u, v < m → u < m → v ≠ u → (F v).ownBlock = none ∨ (F v).ownBlock ≠ (F u).ownBlock
/-- One entry changed. -/
def updP (x : Nat → Nat → Nat → Nat) (v k : Nat) (y : Nat → Nat) : Nat → Nat → Nat → Nat := fun u j => if u = v ∧ j = k then y else x u j
section
variable {w w' : World} {g base m : Nat} {F : Nat → Value} {n n' : Nat → Nat} {x x' : Nat → Nat → Nat → Nat}
theorem PolOwn.congr {v : Value} {k : Nat} {y y' : Nat → Nat → Nat} (h : PolOwn w base v k y) (e : ∀ i, i < k → ∀ t, y i t = y' i t) : PolOwn w base v k y' := by
  obtain ⟨P, h1, h2, h3⟩ := h
  exact ⟨P, h1, h2, fun i hi => (h3 i hi).congr (e i hi)⟩
theorem PolTab.on (h : PolTab w g base m F n x) (hb : Below w.heap.size w w') : PolTab w' g base m F n x := ⟨rowIs_on h.row hb, fun v hv => (h.own v hv).on hb, h.apart⟩
theorem PolTab.congr (h : PolTab w g base m F n x) (e1 : ∀ v, v < m → n v = n' v) (e2 : ∀ v, v < m → ∀ k, k < n v → ∀ t, x v k t = x' v k t) : PolTab w g base m F n' x' :=
  ⟨h.row, fun v hv => by rw [← e1 v hv]; exact (h.own v hv).congr (e2 v hv), h.apart⟩
theorem PolTab.noInt (h : PolTab w g base m F n x) : NoInt w g := noInt_row h.row fun i hi u e => by
  obtain ⟨A, c, hs⟩ := (h.own i hi).isSlice
  rw [hs] at e
  cases e
/-- A polynomial that is read. -/
theorem PolTab.at (h : PolTab w g base m F n x) {v k : Nat} (hv : v < m) (hk : k < n v) : ∃ b o d V, F v = .slice (some ⟨b, o, none⟩) (n v) d ∧ base ≤ b ∧ b < w.heap.size ∧ w.cell? ⟨b, o + k, none⟩ = some V ∧ PolV w V (x v k) ∧ w.frozen? ⟨b, o + k, none⟩ = false := by
  obtain ⟨P, h1, h2, h3⟩ := h.own v hv
  obtain ⟨b, o, d, e, hb, hl, _, _, hc⟩ := h1.form (by omega)
  have hc0 := hc k hk 0 (by omega)
  rw [Nat.mul_one, Nat.add_zero] at hc0
  refine ⟨b, o, d, P k, e, hb, hl, hc0, h3 k hk, ?_⟩
  rw [e] at h1
  exact h1.frozen (o + k)
/-- A polynomial that is written. -/
theorem PolTab.set (h : PolTab w g base m F n x) (hgb : g < base) {v k b o d : Nat} (hv : v < m) (hk : k < n v) (hF : F v = .slice (some ⟨b, o, none⟩) (n v) d) {V : Value} {y : Nat → Nat} (hy : PolV w V y) :
    PolTab (w.setCell ⟨b, o + k, none⟩ V) g base m F n (updP x v k y) := by
  obtain ⟨P, k1, k2, k3⟩ := h.own v hv
  have hob : (F v).ownBlock = some b := by rw [hF]; rfl
  have hbb := k1.lt b hob
  have hni : NoInt w b := k2 b hob
  obtain ⟨VA, vn, vc, hVs⟩ := hy.isSlice
  have hnu : ∀ u : Int, V ≠ .int .u32 u := fun u e => by rw [hVs] at e; cases e
  have hfar : ∀ {U : Value} {z : Nat → Nat}, PolV w U z → PolV (w.setCell ⟨b, o + k, none⟩ V) U z := fun hU => by
    refine hU.setFar ?_ hni hnu
    rcases hU.ne k1 with h0 | h0
    · rw [h0]; exact fun e => by cases e
    · rwa [hob] at h0
  refine ⟨h.row.setOther (by simp; omega) _, fun u hu => ?_, h.apart⟩
  by_cases e : u = v
  · subst e
    rw [hF] at k1 ⊢
    have ks := k1.set (a := k) (b := 0) hk (by omega) V
    rw [Nat.mul_one, Nat.add_zero] at ks
    refine ⟨fun i => if i = k then V else P i, ks.congr fun i _ j hj => ?_, fun q hq => ?_, fun i hi => ?_⟩
    · obtain rfl : j = 0 := by omega
      show (if i = k ∧ 0 = 0 then V else P i) = if i = k then V else P i
      by_cases ei : i = k
      · rw [if_pos ⟨ei, rfl⟩, if_pos ei]
      · rw [if_neg fun hh => ei hh.1, if_neg ei]
    · obtain rfl : b = q := by simpa [Value.ownBlock] using hq
      exact noInt_setCell hni hnu
    · show PolV _ (if i = k then V else P i) (updP x u k y u i)
      unfold updP
      by_cases ei : i = k
      · rw [if_pos ei, if_pos ⟨rfl, ei⟩]
        exact hfar hy
      · rw [if_neg ei, if_neg fun hh => ei hh.2]
        exact hfar (k3 i hi)
  · obtain ⟨P', j1, j2, j3⟩ := h.own u hu
    have hne : (F u).ownBlock ≠ some b := fun hh => by
      rcases h.apart u v hu hv e with h0 | h0
      · rw [h0] at hh; cases hh
      · rw [hob] at h0; exact h0 hh
    refine ⟨P', j1.setCell (a := ⟨b, o + k, none⟩) hne _, fun q hq => noInt_setCell (j2 q hq) hnu, fun i hi => ?_⟩
    show PolV _ (P' i) (updP x v k y u i)
    unfold updP
    rw [if_neg fun hh => e hh.1]
    exact hfar (j3 i hi)
/-- A row that was appended to is stored back. -/
theorem PolTab.put (h : PolTab w g base m F n x) (hgb : g < base) {v : Nat} (hv : v < m) {v' : Value} {k' : Nat} {y : Nat → Nat → Nat} (hown : PolOwn w' base v' k' y) (hg : w.grownBy w' (F v).ownBlock) (hat : v'.ownBlock = (F v).ownBlock ∨ v'.ownBlock = some w.heap.size) :
    PolTab (w'.setCell ⟨g, v, none⟩ v') g base m (fun u => if u = v then v' else F u) (fun u => if u = v then k' else n u) (fun u => if u = v then y else x u) := by
  obtain ⟨Pv, f1, f2, f3⟩ := h.own v hv
  have hlt : ∀ u, u < m → ∀ k, (F u).ownBlock = some k → base ≤ k ∧ k < w.heap.size := fun u hu => (h.own u hu).lt
  have hgw : g < w.heap.size := h.row.lt
  have hgr : w'.rowIs g 91 m F := h.row.of_block (hg.block g hgw (fun e => by have := (hlt v hv g e.symm).1; omega))
  have hnig : NoInt w' g := noInt_row hgr fun i hi u e => by
    obtain ⟨A, c, hs⟩ := (h.own i hi).isSlice
    rw [hs] at e
    cases e
  have hsl : ∃ A c, v' = .slice A k' c := hown.isSlice
  have hnu : ∀ u : Int, v' ≠ .int .u32 u := fun u e => by
    obtain ⟨A, c, hs⟩ := hsl
    rw [hs] at e
    cases e
  have hfar : ∀ {U : Value} {z : Nat → Nat}, PolV w' U z → PolV (w'.setCell ⟨g, v, none⟩ v') U z := fun {U z} hU => by
    refine hU.setFar (fun e => ?_) hnig hnu
    obtain ⟨d, ⟨f, q1, _⟩, _⟩ := hU
    rcases q1 with ⟨rfl, _⟩ | ⟨g', o', cap', cur', rfl, _, q2, _⟩
    · simp [Value.ownBlock] at e
    · simp [Value.ownBlock] at e
      subst e
      obtain ⟨cs, c1, _⟩ := hgr
      rw [q2] at c1
      injection c1 with c1
      injection c1 with _ c1
      exact absurd c1 (by decide)
  refine ⟨?_, fun u hu => ?_, fun a b ha hb hab => ?_⟩
  · exact (hgr.set v v').congr fun u _ => by split <;> rfl
  · by_cases e : u = v
    · subst e
      simp only [if_true]
      obtain ⟨P', k1, k2, k3⟩ := hown
      exact ⟨P', k1.setCell (fun e => by have := (k1.lt _ e).1; simp at this; omega) _, fun q hq => noInt_setCell (k2 q hq) hnu, fun i hi => hfar (k3 i hi)⟩
    · simp only [if_neg e]
      obtain ⟨P', k1, k2, k3⟩ := h.own u hu
      have hk := k1.kept hg (h.apart u v hu hv e)
      refine ⟨P', hk.setCell (fun e => by have := (hk.lt _ e).1; simp at this; omega) _, fun q hq => noInt_setCell (fun j z hz => ?_) hnu, fun i hi => hfar ((k3 i hi).grown hg ((k3 i hi).ne f1) f2)⟩
      have hq2 := (k1.lt q hq).2
      have hb2 := hg.block q hq2 (fun e2 => by
        rcases h.apart u v hu hv e with h0 | h0
        · rw [h0] at hq; cases hq
        · exact h0 (hq.trans e2))
      refine k2 q hq j z ?_
      rw [← hz]
      simp only [World.cell?, hb2]
  · by_cases ea : a = v
    · have eb : ¬ b = v := fun e => hab (by rw [ea, e])
      simp only [if_pos ea, if_neg eb]
      subst ea
      rcases hat with h1 | h1
      · rw [h1]; exact h.apart a b ha hb hab
      · right
        rw [h1]
        intro e2
        have := (hlt b hb _ e2.symm).2
        omega
    · simp only [if_neg ea]
      by_cases eb : b = v
      · simp only [if_pos eb]
        subst eb
        rcases hat with h1 | h1
        · rw [h1]; exact h.apart a b ha hb hab
        · rw [h1]
          cases hfa : (F a).ownBlock with
          | none => exact .inl rfl
          | some k =>
            right
            intro e2
            injection e2 with e2
            have := (hlt a ha k hfa).2
            omega
      · simp only [if_neg eb]; exact h.apart a b ha hb hab
end
theorem polTab_start {w : World} {g base m : Nat} {x : Nat → Nat → Nat → Nat} (h : w.rowIs g 91 m (fun _ => .slice none 0 0)) : PolTab w g base m (fun _ => .slice none 0 0) (fun _ => 0) x :=
  ⟨h, fun _ _ => PolOwn.nil _ _ _, fun _ _ _ _ _ => .inl rfl⟩
end Go.Proofs.Ytnocbkhnmdmfhaa
