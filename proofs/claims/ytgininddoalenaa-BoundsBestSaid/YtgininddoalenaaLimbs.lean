/- Numbers in memory; nat.short, nat.Trim, nat.Of. -/
import Derived.Test.YtgininddoalenaaNatMath
import Derived.Test.YtgininddoalenaaCopy
import Derived.Deep.LoopGhost
import Derived.IntWalk
namespace Go.Proofs.Ytgininddoalenaa
open Go.RowKit

/-- A slice reads as limbs; as the canonical limbs of x. -/
def Lims (w : World) (B : Nat) (A : Option Addr) (n : Nat) (f : Nat → Nat) : Prop := Rd w B A n 1 (fun i _ => .int .u32 (f i : Nat))
def NatOk (w : World) (B : Nat) (A : Option Addr) (x : Nat) : Prop := Lims w B A (dl x) (dg x)
section
variable {w w' : World} {B B' n i : Nat} {A : Option Addr} {f : Nat → Nat} {x : Nat}
theorem Lims.at (h : Lims w B A n f) (hi : i < n) : ∃ b off, A = some ⟨b, off, none⟩ ∧ b < B ∧ w.cell? ⟨b, off + i, none⟩ = some (.int .u32 (f i : Nat)) := Rd.at1 h hi
theorem Lims.on (h : Lims w w.heap.size A n f) (hb : Below w.heap.size w w') : Lims w' w'.heap.size A n f := (Rd.below h hb (Nat.le_refl _)).mono hb.size
theorem NatOk.on (h : NatOk w w.heap.size A x) (hb : Below w.heap.size w w') : NatOk w' w'.heap.size A x := Lims.on h hb
end
theorem lims_row {w : World} {b n : Nat} {t : TypeId} {f : Nat → Nat} (h : w.rowIs b t n (fun i => .int .u32 (f i : Nat))) : Lims w w.heap.size (some ⟨b, 0, none⟩) n f := Rd_of_row h

/-- What a function that returns the number x leaves. -/
def NatPost (x : Nat) (w : World) (e : Ending) (w' : World) : Prop :=
  ∃ A c, e = .returned (.slice A (dl x) c) ∧ dl x ≤ c ∧ c ≤ maxLen ∧ NatOk w' w'.heap.size A x ∧ Below w.heap.size w w'

theorem run_append_nil_none {P : Program} (w : World) (t ty e : TypeId) (i : TypeInfo) (ht : P.underlying t = some (.slice e)) (hi : P.info? e = some i) (A : Option Addr) (c : Nat) :
    (Builtin.append_ #[t, t] ty #[.slice none 0 0, .slice A 0 c]).run P w = .ok (.slice none 0 0) w := by
  cases A with
  | none => simp [Builtin.append_, run_underlying ht, sizeOf, typeInfo, hi, Builtin.lenOf, Builtin.firstCells]
  | some a => simp [Builtin.append_, run_underlying ht, sizeOf, typeInfo, hi, Builtin.lenOf, Builtin.firstCells, loadCells, loadCellsFrom]

section
variable {P : Program} {w : World}
theorem wpList_append_nil_none {ops : Array Oper} {rest : List Oper} {o : Oper} {a : Act} {Q : Exit → Act → World → Prop} (hgd : o.guard = none) (sl x : Operand) (t : TypeId)
    (ho : o.op = .call { callee := .builtin .append, args := #[sl, x], argTypes := #[t, t] })
    (e : TypeId) (i : TypeInfo) (ht : P.underlying t = some (.slice e)) (hi : P.info? e = some i) (hv : a.eval sl = .slice none 0 0)
    (A : Option Addr) (c : Nat) (hx : a.eval x = .slice A 0 c)
    (h : wpList P ops Q rest (a.put o.dst (.slice none 0 0)) w) : wpList P ops Q (o :: rest) a w := by
  refine wpList_plain hgd fun K hK => ?_
  have hrun := run_append_nil_none (P := P) w t o.type e i ht hi A c
  unfold Oper.wp execOp
  simp only [ho, resolve, invoke, builtin, Sem.run_bind, Sem.run_pure, Result.andThen_ok, List.map_toArray, List.map_cons, List.map_nil, hv, hx, hrun]
  exact hK _ _ h
theorem wpList_append_copy_some {ops : Array Oper} {rest : List Oper} {o : Oper} {a : Act} {Q : Exit → Act → World → Prop} (hgd : o.guard = none) (sl x : Operand) (t : TypeId)
    (ho : o.op = .call { callee := .builtin .append, args := #[sl, x], argTypes := #[t, t] })
    (e : TypeId) (i : TypeInfo) (z : Value) (s bytes : Nat) (ht : P.underlying t = some (.slice e)) (hi : P.info? e = some i) (hz : i.zero = some z)
    (hsize : i.size = s) (hby : i.bytes = bytes) (hzs : z.cells.size = s) (hs : 0 < s) (A0 : Option Addr) (hv : a.eval sl = .slice A0 0 0)
    (A : Option Addr) (m c : Nat) (f : Nat → Nat → Value) (hx : a.eval x = .slice A m c) (hsrc : Rd w w.heap.size A m s f) (hm : 0 < m) (h1 : ∀ k, k < m → ∀ j, j < s → (f k j).oneCell' = true)
    (h63 : m ≤ maxLen) (hbytes : m * bytes ≤ 140737488355328)
    (h : ∀ cap cur, m ≤ cap → cap ≤ maxLen → cap * s ≤ cur.size → (∀ k, k < m → ∀ j, j < s → cur[k * s + j]? = some (f k j)) → wpList P ops Q rest (a.put o.dst (.slice (some ⟨w.heap.size, 0, none⟩) m cap)) (w.drew.alloc (.cells cur e))) :
    wpList P ops Q (o :: rest) a w := by
  refine wpList_plain hgd fun K hK => ?_
  obtain ⟨cap, cur, hrun, h2, h3, h4, h5⟩ := run_append_copy_some (P := P) w t o.type e i z s bytes ht hi hz hsize hby hzs hs A0 A m c f hsrc hm h1 h63 hbytes
  unfold Oper.wp execOp
  simp only [ho, resolve, invoke, builtin, Sem.run_bind, Sem.run_pure, Result.andThen_ok, List.map_toArray, List.map_cons, List.map_nil, hv, hx, hrun]
  exact hK _ _ (h cap cur h2 h3 h4 h5)
end

theorem Try.infoU32 : (Try.prog.info? 77).map (fun i => (i.zero, i.size, i.bytes)) = some (some (.int .u32 0), 1, 4) := by kernel_rfl

set_option maxHeartbeats 2000000 in
theorem short_any (A : Option Addr) (n c : Nat) (f : Nat → Nat) (w : World) (h : Lims w w.heap.size A n f) (hf : Hid (∀ i, i < n → f i < 4294967296)) (hc : n ≤ c) (hm : c ≤ maxLen) :
    Calls Try.prog 107 #[.slice A n c] w fun e w' => e = .returned (.slice A (dl (nv f n)) (dl (nv f n))) ∧ NatOk w w.heap.size A (nv f n) ∧ w = w' := by
  have hm9 : c ≤ 9223372036854775807 := by unfold maxLen at hm; omega
  go_enter Try.func107, Try.ntmps107
  go_wp2
  go_loopg [3] n (fun g kv wx => ∃ k : Nat, k ≤ n ∧ k ≤ g ∧ kv = .int .i64 (k : Nat) ∧ Hid (∀ i, k ≤ i → i < n → f i = 0) ∧ w = wx)
  case atStart => exact ⟨n, by omega, by omega, rfl, hid fun i h1 h2 => absurd h1 (by omega), rfl⟩
  case round =>
    obtain ⟨k, hk, hkg, rfl, hz, rfl⟩ := hrel
    by_cases h0 : 0 < k
    · obtain ⟨b, o, rfl, hb, e0⟩ := h.at (i := k - 1) (by omega)
      have h0' : (0 : Int) < (k : Int) := by omega
      have hw2 : ((k : Int) - 1).toNat = k - 1 := by omega
      by_cases hz0 : f (k - 1) = 0
      · rw [hz0] at e0
        have HN : Hid (∀ i, k - 1 ≤ i → i < n → f i = 0) := fun i h1 h2 => by
          by_cases e : i = k - 1
          · rw [e]; exact hz0
          · exact hz.out i (by omega) h2
        clear hz0
        go_wp2
        go_roundg (gk - 1)
        case measure => omega
        case rel => exact ⟨k - 1, by omega, by omega, by congr 1; omega, HN, rfl⟩
      · obtain ⟨d1, d2⟩ := dl_of (f := f) hk hf.out hz.out (.inr hz0)
        obtain ⟨v, hv⟩ : ∃ v : Int, v = (f (k - 1) : Nat) := ⟨_, rfl⟩
        rw [← hv] at e0
        have hv2 : (v == 0) = false := by simp; omega
        have D1 := hid d1
        have hR : NatOk w w.heap.size (some ⟨b, o, none⟩) (nv f n) := by
          unfold NatOk Lims
          rw [d1]
          exact fun i hi => by
            obtain ⟨b', o', e, hb', hc'⟩ := h i (by omega)
            exact ⟨b', o', e, hb', fun j hj => by show _ = some (Value.int .u32 (dg (nv f n) i : Nat)); rw [d2 i hi]; exact hc' j hj⟩
        clear hv d1 d2 hz0
        go_wp2
        go_ret
        exact ⟨by rw [D1.out]; rfl, hR, rfl⟩
    · obtain rfl : k = 0 := by omega
      obtain ⟨d1, d2⟩ := dl_of (f := f) hk hf.out hz.out (.inl rfl)
      have D1 := hid d1
      have hR : NatOk w w.heap.size A (nv f n) := by
        unfold NatOk Lims
        rw [d1]
        exact fun i hi => absurd hi (by omega)
      clear d1 d2
      cases A with
      | none =>
        go_wp2
        go_ret
        exact ⟨by rw [D1.out]; rfl, hR, rfl⟩
      | some a =>
        go_wp2
        go_ret
        exact ⟨by rw [D1.out]; rfl, hR, rfl⟩

set_option maxHeartbeats 2000000 in
theorem trim_any (A : Option Addr) (n c : Nat) (f : Nat → Nat) (w : World) (h : Lims w w.heap.size A n f) (hf : Hid (∀ i, i < n → f i < 4294967296)) (hc : n ≤ c) (hm : c ≤ maxLen) (hn : n ≤ 1073741824) :
    Calls Try.prog 111 #[.slice A n c] w (NatPost (nv f n) w) := by
  obtain ⟨i0, qi0, qz0, qz1, qz2⟩ := info_parts Try.infoU32
  have hl : dl (nv f n) ≤ n := dl_le (nv_lt hf.out)
  obtain ⟨x, hx⟩ : ∃ x, nv f n = x := ⟨_, rfl⟩
  have HX := hid hx
  rw [hx] at hl ⊢
  clear hx
  go_enter Try.func111, Try.ntmps111
  go_wp2_with fail
  refine (short_any A n c f w h hf hc hm).mono ?_
  rintro e w1 ⟨rfl, hR, rfl⟩
  rw [HX.out] at hR ⊢
  rcases Nat.eq_zero_or_pos (dl x) with h0 | h0
  · have H0 := hid h0
    rw [h0]
    clear h0
    go_wp2_with (first | (at_builtin; (refine wpList_append_nil_none rfl (.const (.slice none 0 0)) (.tmp 4) _ rfl 77 i0 Try.underlying39 qi0 rfl A 0 rfl ?_)))
    go_ret
    exact ⟨none, 0, by rw [H0.out]; rfl, by have := H0.out; omega, by unfold maxLen; omega, fun i hi => absurd hi (by have := H0.out; omega), Below.refl _ _⟩
  · have n3 : Hid (dl x ≤ maxLen) := by show _ ≤ _; unfold maxLen; omega
    have n4 : Hid (dl x * 4 ≤ 140737488355328) := by show _ ≤ _; omega
    go_wp2_with (first | (at_builtin; (refine wpList_append_copy_some rfl (.const (.slice none 0 0)) (.tmp 4) _ rfl 77 i0 _ 1 4 Try.underlying39 qi0 qz0 qz1 qz2 rfl (by omega) none rfl A (dl x) (dl x) (fun i _ => .int .u32 (dg x i : Nat)) rfl hR h0 (fun _ _ _ _ => rfl) n3.out n4.out ?_); intro cap cur k1 k2 k3 k4))
    go_ret
    have hO := Own.new (w := w) (base := w.heap.size) (e := 77) (Nat.le_refl _) k1 k2 k3 k4
    exact ⟨_, cap, rfl, k1, k2, hO.drew.rd rfl, (((Below.refl _ _).alloc (Nat.le_refl _) _).drew)⟩

/-- The limbs of a number that fits into 64 bits. -/
def two (x : Nat) (i : Nat) : Nat := if i = 0 then x % 4294967296 else x / 4294967296
theorem nv_two (x : Nat) : nv (two x) 2 = x := by
  simp only [nv, two]
  have := Nat.mod_add_div x 4294967296
  simp
  omega

set_option maxHeartbeats 2000000 in
theorem natOf_any (x : Nat) (w : World) (hx : x < 18446744073709551616) :
    Calls Try.prog 112 #[.int .u64 (x : Nat)] w (NatPost x w) := by
  have hL : Lims (w.alloc (Obj.cells #[Value.int .u32 ((x : Int) % 4294967296), Value.int .u32 ((x : Int) / 4294967296)] 77)) (w.alloc (Obj.cells #[Value.int .u32 ((x : Int) % 4294967296), Value.int .u32 ((x : Int) / 4294967296)] 77)).heap.size (some ⟨w.heap.size, 0, none⟩) 2 (two x) := by
    refine lims_row (t := 77) ⟨_, heap_alloc_new _ _, rfl, fun i hi => ?_⟩
    match i, hi with
    | 0, _ => simp [two]
    | 1, _ => simp [two]
  have H2 : Hid (∀ i, i < 2 → two x i < 4294967296) := fun i hi => by
    unfold two
    split <;> omega
  go_enter Try.func112, Try.ntmps112
  go_wp2_with fail
  refine (trim_any _ 2 2 (two x) _ hL H2 (Nat.le_refl _) (by unfold maxLen; omega) (by omega)).mono ?_
  rintro e w2 ⟨A, c, rfl, g1, g2, g3, g4⟩
  rw [nv_two] at g1 g3 ⊢
  have hB := onS ((Below.refl _ _).alloc (Nat.le_refl _) _) g4
  clear g4 hL
  go_wp2
  go_ret
  exact ⟨A, c, rfl, g1, g2, g3, hB⟩
end Go.Proofs.Ytgininddoalenaa
