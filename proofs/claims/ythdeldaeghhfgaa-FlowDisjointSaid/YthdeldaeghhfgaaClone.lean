/- slices.Clone of the arcs of a network. -/
import Derived.Test.YthdeldaeghhfgaaCopy
import Derived.Test.YthdeldaeghhfgaaGiven
namespace Go.Proofs.Ythdeldaeghhfgaa
open Go.RowKit

section
variable {P : Program} {w : World}
theorem wpList_append_copy_none {ops : Array Oper} {rest : List Oper} {o : Oper} {a : Act} {Q : Exit → Act → World → Prop} (hgd : o.guard = none) (sl x : Operand) (t : TypeId)
    (ho : o.op = .call { callee := .builtin .append, args := #[sl, x], argTypes := #[t, t] })
    (e : TypeId) (i : TypeInfo) (ht : P.underlying t = some (.slice e)) (hi : P.info? e = some i) (b0 o0 : Nat) (hv : a.eval sl = .slice (some ⟨b0, o0, none⟩) 0 0)
    (A : Option Addr) (c : Nat) (hx : a.eval x = .slice A 0 c)
    (h : wpList P ops Q rest (a.put o.dst (.slice (some ⟨b0, o0, none⟩) 0 0)) w) : wpList P ops Q (o :: rest) a w := by
  refine wpList_plain hgd fun K hK => ?_
  have hrun := run_append_copy_none (P := P) w t o.type e i ht hi b0 o0 A c
  unfold Oper.wp execOp
  simp only [ho, resolve, invoke, builtin, Sem.run_bind, Sem.run_pure, Result.andThen_ok, List.map_toArray, List.map_cons, List.map_nil, hv, hx, hrun]
  exact hK _ _ h
theorem wpList_append_copy_some {ops : Array Oper} {rest : List Oper} {o : Oper} {a : Act} {Q : Exit → Act → World → Prop} (hgd : o.guard = none) (sl x : Operand) (t : TypeId)
    (ho : o.op = .call { callee := .builtin .append, args := #[sl, x], argTypes := #[t, t] })
    (e : TypeId) (i : TypeInfo) (z : Value) (s bytes : Nat) (ht : P.underlying t = some (.slice e)) (hi : P.info? e = some i) (hz : i.zero = some z)
    (hsize : i.size = s) (hby : i.bytes = bytes) (hzs : z.cells.size = s) (hs : 0 < s) (A0 : Option Addr) (hv : a.eval sl = .slice A0 0 0)
    (A : Option Addr) (m c : Nat) (f : Nat → Nat → Value) (hx : a.eval x = .slice A m c) (hsrc : Rd w w.heap.size A m s f) (hm : 0 < m) (h1 : ∀ k, k < m → ∀ j, j < s → (f k j).oneCell' = true)
    (h63 : m ≤ maxLen) (hbytes : m * bytes ≤ 140737488355328)
    (h : ∀ cap cur, m ≤ cap → cap ≤ maxLen → cap * s ≤ cur.size → (∀ k, k < m → ∀ j, j < s → cur[k * s + j]? = some (f k j)) → wpList P ops Q rest (a.put o.dst (.slice (some ⟨w.heap.size, 0, none⟩) m cap)) (w.drew.alloc (.cells cur e))) :
    wpList P ops Q (o :: rest) a w := by
  refine wpList_plain hgd fun K hK => ?_
  obtain ⟨cap, cur, hrun, h2, h3, h4, h5⟩ := run_append_copy_some (P := P) w t o.type e i z s bytes ht hi hz hsize hby hzs hs A0 A m c f hsrc hm h1 h63 hbytes
  unfold Oper.wp execOp
  simp only [ho, resolve, invoke, builtin, Sem.run_bind, Sem.run_pure, Result.andThen_ok, List.map_toArray, List.map_cons, List.map_nil, hv, hx, hrun]
  exact hK _ _ (h cap cur h2 h3 h4 h5)
end

/-- What a copy leaves: a slice of the call's own. -/
def Cloned (e : TypeId) (s n : Nat) (f : Nat → Nat → Value) (w : World) (E : Ending) (w' : World) : Prop :=
  ∃ A c, E = .returned (.slice A n c) ∧ Own w' w.heap.size e s (.slice A n c) n f ∧ Below w.heap.size w w'

set_option maxHeartbeats 2000000 in
theorem cloneArcs_any (N : Net) (A : Option Addr) (c : Nat) (w : World) (h : N.Reads w w.heap.size A) (hc : N.n ≤ c) (hn : N.n ≤ 1024) :
    Calls Try.prog 48 #[.slice A N.n c] w (Cloned 36 3 N.n (arcCell N) w) := by
  obtain ⟨i0, qi0, qz0, qz1, qz2⟩ := info_parts Try.infoArc
  have hq := fun (W : World) (a : Option Addr) => Lib.run_eql_slice_nil (P := Try.prog) W 22 36 a N.n c 0 0 Try.underlying22
  cases A with
  | none =>
    have h0 : N.n = 0 := by
      rcases Nat.eq_zero_or_pos N.n with h0 | h0
      · exact h0
      · obtain ⟨b, o, e, _⟩ := h.at h0; cases e
    have H0 := hid h0
    clear h0
    go_enter Try.func48, Try.ntmps48
    go_wp2
    go_ret
    exact ⟨none, 0, by rw [H0.out]; rfl, by rw [H0.out]; exact Own.nil _ _ _ _ _, Below.refl _ _⟩
  | some a =>
    obtain ⟨ab, ao, ap⟩ := a
    rcases Nat.eq_zero_or_pos N.n with h0 | h0
    · have H0 := hid h0
      obtain ⟨n, hn'⟩ : ∃ n, n = N.n := ⟨_, rfl⟩
      have HN := hid hn'
      rw [← hn'] at h0 hc hn hq ⊢
      clear hn' h
      subst h0
      go_enter Try.func48, Try.ntmps48
      go_wp2_with (first | (at_builtin; (refine wpList_append_copy_none rfl (.tmp 5) (.tmp 6) _ rfl 36 i0 Try.underlying22 qi0 w.heap.size 0 rfl (some ⟨ab, ao, ap⟩) c rfl ?_)))
      go_ret
      exact ⟨_, _, rfl, .inr ⟨_, 0, 0, #[], rfl, Nat.le_refl _, heap_new_at rfl, Nat.le_refl _, by unfold maxLen; omega, by simp, fun i hi => absurd hi (by omega)⟩, (Below.refl _ _).alloc (Nat.le_refl _) _⟩
    · have n3 : Hid (N.n ≤ maxLen) := by show _ ≤ _; unfold maxLen; omega
      have n4 : Hid (N.n * 24 ≤ 140737488355328) := by show _ ≤ _; omega
      have NR : Hid (∀ o1, Rd (w.alloc o1) (w.alloc o1).heap.size (some ⟨ab, ao, ap⟩) N.n 3 (arcCell N)) := fun o1 => (Rd.alloc h (Nat.le_refl _) o1).mono (by simp)
      go_enter Try.func48, Try.ntmps48
      go_wp2_with (first | (at_builtin; (refine wpList_append_copy_some rfl (.tmp 5) (.tmp 6) _ rfl 36 i0 _ 3 24 Try.underlying22 qi0 qz0 qz1 qz2 rfl (by omega) _ rfl (some ⟨ab, ao, ap⟩) N.n c (arcCell N) rfl (NR.out _) h0 (fun _ _ _ _ => arcCell_one _ _) n3.out n4.out ?_); intro cap cur k1 k2 k3 k4))
      go_ret
      have hO := Own.new (w := w.alloc (Obj.cells #[] 36)) (base := w.heap.size) (e := 36) (by simp) k1 k2 k3 k4
      simp only [World.size_alloc] at hO
      exact ⟨_, _, rfl, hO.drew, (((Below.refl _ _).alloc (Nat.le_refl _) _).alloc (by simp) _).drew⟩
set_option maxHeartbeats 2000000 in
theorem cloneInts_any (A : Option Addr) (nn c : Nat) (f : Nat → Int) (w : World) (h : Ints w w.heap.size A nn f) (hc : nn ≤ c) (hn : nn ≤ 1048576) :
    Calls Try.prog 43 #[.slice A nn c] w (Cloned 3 1 nn (fun i _ => .int .i64 (f i)) w) := by
  obtain ⟨i0, qi0, qz0, qz1, qz2⟩ := info_parts Try.infoInt
  have hq := fun (W : World) (a : Option Addr) => Lib.run_eql_slice_nil (P := Try.prog) W 33 3 a nn c 0 0 Try.underlying33
  cases A with
  | none =>
    have h0 : nn = 0 := by
      rcases Nat.eq_zero_or_pos nn with h0 | h0
      · exact h0
      · obtain ⟨b, o, e, _⟩ := h.at h0; cases e
    have H0 := hid h0
    clear h0
    go_enter Try.func43, Try.ntmps43
    go_wp2
    go_ret
    exact ⟨none, 0, by rw [H0.out]; rfl, by rw [H0.out]; exact Own.nil _ _ _ _ _, Below.refl _ _⟩
  | some a =>
    obtain ⟨ab, ao, ap⟩ := a
    rcases Nat.eq_zero_or_pos nn with h0 | h0
    · have H0 := hid h0
      obtain ⟨n, hn'⟩ : ∃ n, n = nn := ⟨_, rfl⟩
      have HN := hid hn'
      rw [← hn'] at h0 hc hn hq ⊢
      clear hn' h
      subst h0
      go_enter Try.func43, Try.ntmps43
      go_wp2_with (first | (at_builtin; (refine wpList_append_copy_none rfl (.tmp 5) (.tmp 6) _ rfl 3 i0 Try.underlying33 qi0 w.heap.size 0 rfl (some ⟨ab, ao, ap⟩) c rfl ?_)))
      go_ret
      exact ⟨_, _, rfl, .inr ⟨_, 0, 0, #[], rfl, Nat.le_refl _, heap_new_at rfl, Nat.le_refl _, by unfold maxLen; omega, by simp, fun i hi => absurd hi (by omega)⟩, (Below.refl _ _).alloc (Nat.le_refl _) _⟩
    · have n3 : Hid (nn ≤ maxLen) := by show _ ≤ _; unfold maxLen; omega
      have n4 : Hid (nn * 8 ≤ 140737488355328) := by show _ ≤ _; omega
      have NR : Hid (∀ o1, Rd (w.alloc o1) (w.alloc o1).heap.size (some ⟨ab, ao, ap⟩) nn 1 (fun i _ => .int .i64 (f i))) := fun o1 => (Rd.alloc h (Nat.le_refl _) o1).mono (by simp)
      go_enter Try.func43, Try.ntmps43
      go_wp2_with (first | (at_builtin; (refine wpList_append_copy_some rfl (.tmp 5) (.tmp 6) _ rfl 3 i0 _ 1 8 Try.underlying33 qi0 qz0 qz1 qz2 rfl (by omega) _ rfl (some ⟨ab, ao, ap⟩) nn c (fun i _ => .int .i64 (f i)) rfl (NR.out _) h0 (fun _ _ _ _ => rfl) n3.out n4.out ?_); intro cap cur k1 k2 k3 k4))
      go_ret
      have hO := Own.new (w := w.alloc (Obj.cells #[] 3)) (base := w.heap.size) (e := 3) (by simp) k1 k2 k3 k4
      simp only [World.size_alloc] at hO
      exact ⟨_, _, rfl, hO.drew, (((Below.refl _ _).alloc (Nat.le_refl _) _).alloc (by simp) _).drew⟩
end Go.Proofs.Ythdeldaeghhfgaa
