/- Tables of ints of one's own. -/
import Derived.Test.YtnocbkhnmdmfhaaMinPlus
import Derived.Test.YtnocbkhnmdmfhaaNumRows
import Derived.Test.YtnocbkhnmdmfhaaTabL
import Derived.Test.YtnocbkhnmdmfhaaTabOwn
namespace Go.Proofs.Ytnocbkhnmdmfhaa
open Go.RowKit

/-- One entry changed. -/
def updI (x : Nat → Nat → Int) (v k : Nat) (y : Int) : Nat → Nat → Int := fun u j => if u = v ∧ j = k then y else x u j
theorem updI_at (x : Nat → Nat → Int) (v k : Nat) (y : Int) : updI x v k y v k = y := if_pos ⟨rfl, rfl⟩
theorem updI_off {x : Nat → Nat → Int} {v k u j : Nat} {y : Int} (h : ¬ (u = v ∧ j = k)) : updI x v k y u j = x u j := if_neg h
/-- m rows of ints in slices of the call's own: row v has n v ints x v. -/
def IntTab (w : World) (g base m : Nat) (F : Nat → Value) (n : Nat → Nat) (x : Nat → Nat → Int) : Prop :=
  TabOwn w g base 22 3 1 m F n (fun v i _ => .int .i64 (x v i))
section
variable {w w' : World} {g base m : Nat} {F : Nat → Value} {n n' : Nat → Nat} {x x' : Nat → Nat → Int}
theorem IntTab.on (h : IntTab w g base m F n x) (hb : Below w.heap.size w w') : IntTab w' g base m F n x := ⟨rowIs_on h.row hb, fun v hv => (h.own v hv).on hb, h.apart⟩
theorem IntTab.congr (h : IntTab w g base m F n x) (e1 : ∀ v, v < m → n v = n' v) (e2 : ∀ v, v < m → ∀ k, k < n v → x v k = x' v k) : IntTab w g base m F n' x' :=
  ⟨h.row, fun v hv => by
    rw [← e1 v hv]
    exact (h.own v hv).congr fun i hi j _ => by
      show Value.int .i64 (x v i) = .int .i64 (x' v i)
      rw [e2 v hv i hi], h.apart⟩
/-- An entry that is read. -/
theorem IntTab.at (h : IntTab w g base m F n x) {v k : Nat} (hv : v < m) (hk : k < n v) : ∃ b o d, F v = .slice (some ⟨b, o, none⟩) (n v) d ∧ base ≤ b ∧ b < w.heap.size ∧ w.cell? ⟨b, o + k, none⟩ = some (.int .i64 (x v k)) ∧ w.frozen? ⟨b, o + k, none⟩ = false := by
  have h1 := h.own v hv
  obtain ⟨b, o, d, e, hb, hl, _, _, hc⟩ := h1.form (by omega)
  have hc0 := hc k hk 0 (by omega)
  rw [Nat.mul_one, Nat.add_zero] at hc0
  refine ⟨b, o, d, e, hb, hl, hc0, ?_⟩
  rw [e] at h1
  exact h1.frozen (o + k)
/-- An entry that is written. -/
theorem IntTab.set (h : IntTab w g base m F n x) (hgb : g < base) {v k b o d : Nat} {y : Int} (hv : v < m) (hk : k < n v) (hF : F v = .slice (some ⟨b, o, none⟩) (n v) d) :
    IntTab (w.setCell ⟨b, o + k, none⟩ (.int .i64 y)) g base m F n (updI x v k y) := by
  have hob : (F v).ownBlock = some b := by rw [hF]; rfl
  have hbb := (h.own v hv).lt b hob
  refine ⟨h.row.setOther (by simp; omega) _, fun u hu => ?_, h.apart⟩
  by_cases e : u = v
  · subst e
    have k1 := h.own u hu
    rw [hF] at k1 ⊢
    have ks := k1.set (a := k) (b := 0) hk (by omega) (.int .i64 y)
    rw [Nat.mul_one, Nat.add_zero] at ks
    exact ks.congr fun i _ j hj => by
      obtain rfl : j = 0 := by omega
      show (if i = k ∧ 0 = 0 then _ else _) = Value.int .i64 (updI x u k y u i)
      unfold updI
      by_cases ei : i = k
      · rw [if_pos ⟨ei, rfl⟩, if_pos ⟨rfl, ei⟩]
      · rw [if_neg fun hh => ei hh.1, if_neg fun hh => ei hh.2]
  · have k1 := h.own u hu
    have hne : (F u).ownBlock ≠ some b := fun hh => by
      rcases h.apart u v hu hv e with h0 | h0
      · rw [h0] at hh; cases hh
      · rw [hob] at h0; exact h0 hh
    exact (k1.setCell (a := ⟨b, o + k, none⟩) hne _).congr fun i _ j _ => by
      show Value.int .i64 (x u i) = .int .i64 (updI x v k y u i)
      rw [updI_off fun hh => e hh.1]
/-- A row that was appended to is stored back. -/
theorem IntTab.put (h : IntTab w g base m F n x) (hgb : g < base) {v : Nat} (hv : v < m) {v' : Value} {k' : Nat} {y : Nat → Int} (hown : Own w' base 3 1 v' k' (fun i _ => .int .i64 (y i))) (hg : w.grownBy w' (F v).ownBlock) (hat : v'.ownBlock = (F v).ownBlock ∨ v'.ownBlock = some w.heap.size) :
    IntTab (w'.setCell ⟨g, v, none⟩ v') g base m (fun u => if u = v then v' else F u) (fun u => if u = v then k' else n u) (fun u => if u = v then y else x u) := by
  have h1 := TabOwn.put h hgb hv hown hg hat
  refine ⟨h1.row, fun u hu => ?_, h1.apart⟩
  have h2 := h1.own u hu
  by_cases e : u = v
  · simp only [if_pos e] at h2 ⊢
    exact h2
  · simp only [if_neg e] at h2 ⊢
    exact h2
/-- Read as rows. -/
theorem IntTab.rows (h : IntTab w g base m F n x) (hx : ∀ v, v < m → ∀ k, k < n v → -9223372036854775808 ≤ x v k ∧ x v k ≤ 9223372036854775807) : IntRows w (some ⟨g, 0, none⟩) m n x := fun i hi => by
  have h1 := h.own i hi
  obtain ⟨A, c, e⟩ := h1.shape
  have hc := h.row.cell hi
  rw [e] at h1 hc
  exact ⟨g, 0, A, c, rfl, h.row.lt, by rw [Nat.zero_add]; exact hc, h1.cap.1, h1.cap.2, h1.rd rfl, fun j hj => hx i hi j hj⟩
end
theorem intTab_start {w : World} {g base m : Nat} {x : Nat → Nat → Int} (h : w.rowIs g 22 m (fun _ => .slice none 0 0)) : IntTab w g base m (fun _ => .slice none 0 0) (fun _ => 0) x :=
  ⟨h, fun _ _ => Own.nil _ _ _ _ _, fun _ _ _ _ _ => .inl rfl⟩
/-- append of one int at a step of a region that draws its order. -/
theorem step_append_int {ops : Array Oper} {o : Oper} {a : Act} {w : World} {K : Act → World → Prop} {Q : Exit → Act → World → Prop} {E : Prop} (hgd : o.guard = none) (sl y : Operand)
    (ho : o.op = .call { callee := .builtin .append, args := #[sl, y], argTypes := #[22, 22] })
    (base : Nat) (v : Value) (k : Nat) (x : Nat → Int) (hv : a.eval sl = v) (h : Own w base 3 1 v k (fun i _ => .int .i64 (x i))) (hbase : base ≤ w.heap.size) (hk : k ≤ 1048576)
    (b c : Nat) (hy : a.eval y = .slice (some ⟨b, 0, none⟩) 1 c) (c0 : w.cell? ⟨b, 0, none⟩ = some (.int .i64 (x k)))
    (hK : ∀ v' w', Own w' base 3 1 v' (k + 1) (fun i _ => .int .i64 (x i)) → w.grownBy w' v.ownBlock → (v'.ownBlock = v.ownBlock ∨ v'.ownBlock = some w.heap.size) → K (a.put o.dst v') w') :
    if Region.wanted o (yielded ops a.tmps) = true then Oper.wp Try.prog o a w K Q else E := by
  obtain ⟨i0, qi0, qz0, qz1, qz2⟩ := info_parts Try.infoInt
  exact step_append_one w hgd sl y _ ho base 3 i0 _ 1 8 Try.underlying22 qi0 qz0 qz1 qz2 rfl (by omega) v k _ hv h ⟨b, 0, none⟩ c hy (fun j hj => by
      obtain rfl : j = 0 := by omega
      exact c0) (fun _ _ => rfl) (by unfold maxLen; omega) (by omega) hbase hK
end Go.Proofs.Ytnocbkhnmdmfhaa
