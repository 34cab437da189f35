/- Numbers in limbs of 32 bits: plain laws. Binomial coefficients: plain laws. Numbers in memory; nat.short, nat.Trim, nat.Of. nat.plus and nat.Add. nat.times and nat.Mul. -/
import Derived.Test.YtnocbkhnmdmfhaaBase
import Derived.Test.YtnocbkhnmdmfhaaCopy
import Derived.Deep.LoopGhost
import Derived.IntWalk
import Derived.Deep.DeepCutAuto
import Derived.Test.YtnocbkhnmdmfhaaRows
import Derived.WalkKit

namespace Go.Proofs.Ytnocbkhnmdmfhaa

/-- The number with the limbs f 0 .. f (n-1). -/
def nv (f : Nat → Nat) : Nat → Nat
  | 0 => 0
  | k + 1 => nv f k + f k * 4294967296 ^ k
/-- The limbs of x, and how many there are. -/
def dg (x i : Nat) : Nat := x / 4294967296 ^ i % 4294967296
def dl (x : Nat) : Nat := if h : x = 0 then 0 else dl (x / 4294967296) + 1
termination_by x
decreasing_by exact Nat.div_lt_self (by omega) (by omega)

theorem Bpow_pos (n : Nat) : 0 < 4294967296 ^ n := Nat.pow_pos (by omega)
theorem nv_congr {f g : Nat → Nat} {n : Nat} (h : ∀ i, i < n → f i = g i) : nv f n = nv g n := by
  induction n with
  | zero => rfl
  | succ n ih => simp only [nv]; rw [ih fun i hi => h i (by omega), h n (by omega)]
theorem nv_lt {f : Nat → Nat} {n : Nat} (h : ∀ i, i < n → f i < 4294967296) : nv f n < 4294967296 ^ n := by
  induction n with
  | zero => simp [nv]
  | succ n ih =>
    have h1 := ih fun i hi => h i (by omega)
    have h2 := h n (by omega)
    have h3 : (f n + 1) * 4294967296 ^ n ≤ 4294967296 * 4294967296 ^ n := Nat.mul_le_mul_right _ h2
    simp only [nv, Nat.pow_succ]
    grind
theorem nv_zeros {f : Nat → Nat} {n m : Nat} (hnm : n ≤ m) (h : ∀ i, n ≤ i → i < m → f i = 0) : nv f m = nv f n := by
  induction m with
  | zero => have : n = 0 := by omega
            rw [this]
  | succ m ih =>
    by_cases e : n = m + 1
    · rw [e]
    · simp only [nv]
      rw [ih (by omega) fun i h1 h2 => h i h1 (by omega), h m (by omega) (by omega)]
      omega
theorem nv_zero {f : Nat → Nat} {n : Nat} (h : ∀ i, i < n → f i = 0) : nv f n = 0 := nv_zeros (Nat.zero_le n) fun i _ hi => h i hi
/-- The lowest limb apart. -/
theorem nv_low (f : Nat → Nat) (n : Nat) : nv f (n + 1) = f 0 + 4294967296 * nv (fun i => f (i + 1)) n := by
  induction n with
  | zero => simp [nv]
  | succ n ih =>
    have h1 : nv f (n + 1 + 1) = nv f (n + 1) + f (n + 1) * 4294967296 ^ (n + 1) := rfl
    have h2 : nv (fun i => f (i + 1)) (n + 1) = nv (fun i => f (i + 1)) n + f (n + 1) * 4294967296 ^ n := rfl
    rw [h1, h2, ih, Nat.pow_succ]
    grind
theorem nv_ge {f : Nat → Nat} {n k : Nat} (hk : k < n) (h : f k ≠ 0) : 4294967296 ^ k ≤ nv f n := by
  induction n with
  | zero => omega
  | succ n ih =>
    simp only [nv]
    by_cases e : k = n
    · subst e
      have : 1 * 4294967296 ^ k ≤ f k * 4294967296 ^ k := Nat.mul_le_mul_right _ (by omega)
      omega
    · have := ih (by omega)
      omega

theorem dg_lt (x i : Nat) : dg x i < 4294967296 := Nat.mod_lt _ (by omega)
theorem dg_zero (i : Nat) : dg 0 i = 0 := by simp [dg]
theorem dg_succ (x i : Nat) : dg x (i + 1) = dg (x / 4294967296) i := by
  unfold dg
  rw [Nat.pow_succ, Nat.mul_comm, Nat.div_div_eq_div_mul]
theorem dg_first (x : Nat) : dg x 0 = x % 4294967296 := by simp [dg]
theorem dl_zero : dl 0 = 0 := by unfold dl; simp
theorem dl_pos {x : Nat} (h : x ≠ 0) : dl x = dl (x / 4294967296) + 1 := by rw [dl]; simp [h]
theorem nv_dg (x : Nat) : nv (dg x) (dl x) = x := by
  induction x using Nat.strongRecOn with
  | _ x ih =>
    by_cases h : x = 0
    · subst h; rw [dl_zero]; rfl
    · rw [dl_pos h, nv_low, dg_first]
      have := ih (x / 4294967296) (Nat.div_lt_self (by omega) (by omega))
      rw [show (fun i => dg x (i + 1)) = dg (x / 4294967296) from funext fun i => dg_succ x i, this]
      exact Nat.mod_add_div x 4294967296
theorem dg_last {x : Nat} (h : x ≠ 0) : dg x (dl x - 1) ≠ 0 := by
  induction x using Nat.strongRecOn with
  | _ x ih =>
    rw [dl_pos h, Nat.add_sub_cancel]
    by_cases h1 : x / 4294967296 = 0
    · rw [h1, dl_zero, dg_first]
      have := Nat.mod_add_div x 4294967296
      rw [h1] at this
      omega
    · have h2 := ih (x / 4294967296) (Nat.div_lt_self (by omega) (by omega)) h1
      have h3 := dl_pos h1
      rw [h3, Nat.add_sub_cancel] at h2
      rw [h3, dg_succ]
      exact h2
theorem dl_eq_zero {x : Nat} : dl x = 0 ↔ x = 0 := by
  constructor
  · intro h
    rcases Nat.eq_zero_or_pos x with h0 | h0
    · exact h0
    · rw [dl_pos (by omega)] at h; omega
  · intro h; rw [h]; exact dl_zero
theorem lt_pow_dl (x : Nat) : x < 4294967296 ^ dl x := by
  have := nv_lt (f := dg x) (n := dl x) fun i _ => dg_lt x i
  rwa [nv_dg] at this
theorem pow_dl_le {x : Nat} (h : x ≠ 0) : 4294967296 ^ (dl x - 1) ≤ x := by
  have h1 : dl x ≠ 0 := fun e => h (dl_eq_zero.1 e)
  have := nv_ge (f := dg x) (n := dl x) (k := dl x - 1) (by omega) (dg_last h)
  rwa [nv_dg] at this
theorem dl_le {x n : Nat} (h : x < 4294967296 ^ n) : dl x ≤ n := by
  by_cases h0 : x = 0
  · rw [h0, dl_zero]; omega
  · have h1 := pow_dl_le h0
    have h2 : 4294967296 ^ (dl x - 1) < 4294967296 ^ n := by omega
    have := (Nat.pow_lt_pow_iff_right (a := 4294967296) (by omega)).1 h2
    omega
theorem dg_of {f : Nat → Nat} {n : Nat} (h : ∀ i, i < n → f i < 4294967296) : ∀ i, i < n → dg (nv f n) i = f i := by
  induction n generalizing f with
  | zero => intro i hi; omega
  | succ n ih =>
    intro i hi
    rw [nv_low]
    have h0 := h 0 (by omega)
    cases i with
    | zero =>
      rw [dg_first, Nat.add_mul_mod_self_left, Nat.mod_eq_of_lt h0]
    | succ i =>
      rw [dg_succ, Nat.add_mul_div_left _ _ (by omega), Nat.div_eq_of_lt h0, Nat.zero_add]
      exact ih (f := fun i => f (i + 1)) (fun i hi => h (i + 1) (by omega)) i (by omega)
/-- The limbs up to the highest one that is not 0 are the canonical ones. -/
theorem dl_of {f : Nat → Nat} {n m : Nat} (hnm : n ≤ m) (h : ∀ i, i < m → f i < 4294967296) (hz : ∀ i, n ≤ i → i < m → f i = 0) (hl : n = 0 ∨ f (n - 1) ≠ 0) : dl (nv f m) = n ∧ ∀ i, i < n → dg (nv f m) i = f i := by
  have hv := nv_zeros hnm hz
  rw [hv]
  refine ⟨?_, dg_of fun i hi => h i (by omega)⟩
  have h1 := dl_le (nv_lt (f := f) (n := n) fun i hi => h i (by omega))
  rcases hl with h0 | h0
  · omega
  · rcases Nat.eq_zero_or_pos n with e | e
    · omega
    · have h2 := nv_ge (f := f) (n := n) (k := n - 1) (by omega) h0
      have h3 := lt_pow_dl (nv f n)
      have h4 : 4294967296 ^ (n - 1) < 4294967296 ^ dl (nv f n) := by omega
      have := (Nat.pow_lt_pow_iff_right (a := 4294967296) (by omega)).1 h4
      omega
theorem dl_mono {x y : Nat} (h : x ≤ y) : dl x ≤ dl y := dl_le (Nat.lt_of_le_of_lt h (lt_pow_dl y))

/-- One limb turned. -/
def upd (f : Nat → Nat) (k v : Nat) : Nat → Nat := fun i => if i = k then v else f i
theorem upd_same (f : Nat → Nat) (k v : Nat) : upd f k v k = v := by simp [upd]
theorem upd_other {f : Nat → Nat} {k v i : Nat} (h : i ≠ k) : upd f k v i = f i := by simp [upd, h]
theorem nv_upd_ge {f : Nat → Nat} {k v n : Nat} (h : n ≤ k) : nv (upd f k v) n = nv f n := nv_congr fun i hi => upd_other (by omega)
theorem nv_upd {f : Nat → Nat} {k v n : Nat} (h : k < n) : nv (upd f k v) n + f k * 4294967296 ^ k = nv f n + v * 4294967296 ^ k := by
  induction n with
  | zero => omega
  | succ n ih =>
    simp only [nv]
    by_cases e : k = n
    · subst e
      rw [nv_upd_ge (Nat.le_refl _), upd_same]
      omega
    · rw [upd_other (by omega)]
      have := ih (by omega)
      omega
theorem carry_step (s P : Nat) (n : Nat) : (s % 4294967296) * 4294967296 ^ n * P + (s / 4294967296) * 4294967296 ^ (n + 1) * P = s * 4294967296 ^ n * P := by
  have h := Nat.mod_add_div s 4294967296
  have h2 : s * 4294967296 ^ n * P = (s % 4294967296 + 4294967296 * (s / 4294967296)) * 4294967296 ^ n * P := by rw [h]
  rw [h2, Nat.pow_succ]
  grind
theorem carry_step1 (s : Nat) (n : Nat) : (s % 4294967296) * 4294967296 ^ n + (s / 4294967296) * 4294967296 ^ (n + 1) = s * 4294967296 ^ n := by
  have := carry_step s 1 n
  simpa using this

/-- The limbs from i on. -/
def hv (f : Nat → Nat) (i n : Nat) : Nat := nv (fun j => f (i + j)) (n - i)
theorem hv_end (f : Nat → Nat) (n : Nat) : hv f n n = 0 := by simp [hv, nv]
theorem hv_all (f : Nat → Nat) (n : Nat) : hv f 0 n = nv f n := by unfold hv; simp
theorem hv_step {f : Nat → Nat} {i n : Nat} (h : i < n) : hv f i n = f i + 4294967296 * hv f (i + 1) n := by
  unfold hv
  rw [show n - i = (n - (i + 1)) + 1 by omega, nv_low]
  simp only [Nat.add_zero]
  rw [show (fun j => f (i + (j + 1))) = fun j => f (i + 1 + j) from funext fun j => by rw [show i + (j + 1) = i + 1 + j by omega]]
theorem hv_congr {f g : Nat → Nat} {i n : Nat} (h : ∀ j, i ≤ j → j < n → f j = g j) : hv f i n = hv g i n := nv_congr fun j hj => h _ (by omega) (by omega)
end Go.Proofs.Ytnocbkhnmdmfhaa

namespace Go.Proofs.Ytnocbkhnmdmfhaa

/-- The number of subsets with k elements of a set with n elements. -/
def chs : Nat → Nat → Nat
  | _, 0 => 1
  | 0, _ + 1 => 0
  | n + 1, k + 1 => chs n k + chs n (k + 1)

theorem chs_zero (n : Nat) : chs n 0 = 1 := by cases n <;> rfl
theorem chs_gt {n k : Nat} (h : n < k) : chs n k = 0 := by
  induction n generalizing k with
  | zero => cases k with
    | zero => omega
    | succ k => rfl
  | succ n ih => cases k with
    | zero => omega
    | succ k => simp only [chs]; rw [ih (by omega), ih (by omega)]
theorem chs_self (n : Nat) : chs n n = 1 := by
  induction n with
  | zero => rfl
  | succ n ih => simp only [chs]; rw [ih, chs_gt (by omega)]
theorem chs_pos {n k : Nat} (h : k ≤ n) : 0 < chs n k := by
  induction n generalizing k with
  | zero => have : k = 0 := by omega
            subst this; simp [chs]
  | succ n ih => cases k with
    | zero => simp [chs]
    | succ k => simp only [chs]; have := ih (k := k) (by omega); omega
/-- The step of the product formula. -/
theorem chs_step (n k : Nat) : (k + 1) * chs n (k + 1) = (n - k) * chs n k := by
  induction n generalizing k with
  | zero => cases k <;> simp [chs]
  | succ n ih =>
    cases k with
    | zero =>
      have h1 := ih 0
      simp only [chs_zero] at h1
      simp only [chs, chs_zero]
      omega
    | succ k =>
      have h1 := ih k
      have h2 := ih (k + 1)
      simp only [chs]
      by_cases h : k ≤ n
      · by_cases h' : k + 1 ≤ n
        · obtain ⟨d, hd⟩ : ∃ d, n = k + 1 + d := ⟨n - (k + 1), by omega⟩
          subst hd
          rw [show k + 1 + d - k = d + 1 by omega] at h1
          rw [show k + 1 + d - (k + 1) = d by omega] at h2
          rw [show k + 1 + d + 1 - (k + 1) = d + 1 by omega]
          grind
        · have : k = n := by omega
          subst this
          rw [chs_gt (show k < k + 1 by omega), chs_gt (show k < k + 1 + 1 by omega)]
          simp
      · rw [chs_gt (show n < k by omega), chs_gt (show n < k + 1 by omega), chs_gt (show n < k + 1 + 1 by omega)]
        simp
theorem chs_symm {n k : Nat} (h : k ≤ n) : chs n k = chs n (n - k) := by
  induction n generalizing k with
  | zero => have : k = 0 := by omega
            subst this; rfl
  | succ n ih =>
    cases k with
    | zero => rw [chs_zero, Nat.sub_zero, chs_self]
    | succ k =>
      by_cases e : k = n
      · subst e; rw [chs_self, Nat.sub_self, chs_zero]
      · rw [show n + 1 - (k + 1) = (n - (k + 1)) + 1 by omega]
        simp only [chs]
        rw [ih (k := k) (by omega), ih (k := k + 1) (by omega), show n - k = n - (k + 1) + 1 by omega]
        omega
theorem chs_le_pow (n k : Nat) : chs n k ≤ 2 ^ n := by
  induction n generalizing k with
  | zero => cases k <;> simp [chs]
  | succ n ih =>
    cases k with
    | zero => simp only [chs]; exact Nat.pow_pos (by omega)
    | succ k =>
      simp only [chs, Nat.pow_succ]
      have := ih k
      have := ih (k + 1)
      omega
end Go.Proofs.Ytnocbkhnmdmfhaa

namespace Go.Proofs.Ytnocbkhnmdmfhaa
open Go.RowKit

/-- A slice reads as limbs; as the canonical limbs of x. -/
def Lims (w : World) (B : Nat) (A : Option Addr) (n : Nat) (f : Nat → Nat) : Prop := Rd w B A n 1 (fun i _ => .int .u32 (f i : Nat))
def NatOk (w : World) (B : Nat) (A : Option Addr) (x : Nat) : Prop := Lims w B A (dl x) (dg x)
section
variable {w w' : World} {B B' n i : Nat} {A : Option Addr} {f : Nat → Nat} {x : Nat}
theorem Lims.at (h : Lims w B A n f) (hi : i < n) : ∃ b off, A = some ⟨b, off, none⟩ ∧ b < B ∧ w.cell? ⟨b, off + i, none⟩ = some (.int .u32 (f i : Nat)) := Rd.at1 h hi
theorem Lims.on (h : Lims w w.heap.size A n f) (hb : Below w.heap.size w w') : Lims w' w'.heap.size A n f := (Rd.below h hb (Nat.le_refl _)).mono hb.size
theorem NatOk.on (h : NatOk w w.heap.size A x) (hb : Below w.heap.size w w') : NatOk w' w'.heap.size A x := Lims.on h hb
end
theorem lims_row {w : World} {b n : Nat} {t : TypeId} {f : Nat → Nat} (h : w.rowIs b t n (fun i => .int .u32 (f i : Nat))) : Lims w w.heap.size (some ⟨b, 0, none⟩) n f := Rd_of_row h

/-- What a function that returns the number x leaves. -/
def NatPost (x : Nat) (w : World) (e : Ending) (w' : World) : Prop :=
  ∃ A c, e = .returned (.slice A (dl x) c) ∧ dl x ≤ c ∧ c ≤ maxLen ∧ NatOk w' w'.heap.size A x ∧ Below w.heap.size w w'

theorem run_append_nil_none {P : Program} (w : World) (t ty e : TypeId) (i : TypeInfo) (ht : P.underlying t = some (.slice e)) (hi : P.info? e = some i) (A : Option Addr) (c : Nat) :
    (Builtin.append_ #[t, t] ty #[.slice none 0 0, .slice A 0 c]).run P w = .ok (.slice none 0 0) w := by
  cases A with
  | none => simp [Builtin.append_, run_underlying ht, sizeOf, typeInfo, hi, Builtin.lenOf, Builtin.firstCells]
  | some a => simp [Builtin.append_, run_underlying ht, sizeOf, typeInfo, hi, Builtin.lenOf, Builtin.firstCells, loadCells, loadCellsFrom]

section
variable {P : Program} {w : World}
theorem wpList_append_nil_none {ops : Array Oper} {rest : List Oper} {o : Oper} {a : Act} {Q : Exit → Act → World → Prop} (hgd : o.guard = none) (sl x : Operand) (t : TypeId)
    (ho : o.op = .call { callee := .builtin .append, args := #[sl, x], argTypes := #[t, t] })
    (e : TypeId) (i : TypeInfo) (ht : P.underlying t = some (.slice e)) (hi : P.info? e = some i) (hv : a.eval sl = .slice none 0 0)
    (A : Option Addr) (c : Nat) (hx : a.eval x = .slice A 0 c)
    (h : wpList P ops Q rest (a.put o.dst (.slice none 0 0)) w) : wpList P ops Q (o :: rest) a w := by
  refine wpList_plain hgd fun K hK => ?_
  have hrun := run_append_nil_none (P := P) w t o.type e i ht hi A c
  unfold Oper.wp execOp
  simp only [ho, resolve, invoke, builtin, Sem.run_bind, Sem.run_pure, Result.andThen_ok, List.map_toArray, List.map_cons, List.map_nil, hv, hx, hrun]
  exact hK _ _ h
theorem wpList_append_copy_some {ops : Array Oper} {rest : List Oper} {o : Oper} {a : Act} {Q : Exit → Act → World → Prop} (hgd : o.guard = none) (sl x : Operand) (t : TypeId)
    (ho : o.op = .call { callee := .builtin .append, args := #[sl, x], argTypes := #[t, t] })
    (e : TypeId) (i : TypeInfo) (z : Value) (s bytes : Nat) (ht : P.underlying t = some (.slice e)) (hi : P.info? e = some i) (hz : i.zero = some z)
    (hsize : i.size = s) (hby : i.bytes = bytes) (hzs : z.cells.size = s) (hs : 0 < s) (A0 : Option Addr) (hv : a.eval sl = .slice A0 0 0)
    (A : Option Addr) (m c : Nat) (f : Nat → Nat → Value) (hx : a.eval x = .slice A m c) (hsrc : Rd w w.heap.size A m s f) (hm : 0 < m) (h1 : ∀ k, k < m → ∀ j, j < s → (f k j).oneCell' = true)
    (h63 : m ≤ maxLen) (hbytes : m * bytes ≤ 140737488355328)
    (h : ∀ cap cur, m ≤ cap → cap ≤ maxLen → cap * s ≤ cur.size → (∀ k, k < m → ∀ j, j < s → cur[k * s + j]? = some (f k j)) → wpList P ops Q rest (a.put o.dst (.slice (some ⟨w.heap.size, 0, none⟩) m cap)) (w.drew.alloc (.cells cur e))) :
    wpList P ops Q (o :: rest) a w := by
  refine wpList_plain hgd fun K hK => ?_
  obtain ⟨cap, cur, hrun, h2, h3, h4, h5⟩ := run_append_copy_some (P := P) w t o.type e i z s bytes ht hi hz hsize hby hzs hs A0 A m c f hsrc hm h1 h63 hbytes
  unfold Oper.wp execOp
  simp only [ho, resolve, invoke, builtin, Sem.run_bind, Sem.run_pure, Result.andThen_ok, List.map_toArray, List.map_cons, List.map_nil, hv, hx, hrun]
  exact hK _ _ (h cap cur h2 h3 h4 h5)
end

theorem Try.infoU32 : (Try.prog.info? 77).map (fun i => (i.zero, i.size, i.bytes)) = some (some (.int .u32 0), 1, 4) := by kernel_rfl

set_option maxHeartbeats 2000000 in
theorem short_any (A : Option Addr) (n c : Nat) (f : Nat → Nat) (w : World) (h : Lims w w.heap.size A n f) (hf : Hid (∀ i, i < n → f i < 4294967296)) (hc : n ≤ c) (hm : c ≤ maxLen) :
    Calls Try.prog 95 #[.slice A n c] w fun e w' => e = .returned (.slice A (dl (nv f n)) (dl (nv f n))) ∧ NatOk w w.heap.size A (nv f n) ∧ w = w' := by
  have hm9 : c ≤ 9223372036854775807 := by unfold maxLen at hm; omega
  go_enter Try.func95, Try.ntmps95
  go_wp2
  go_loopg [3] n (fun g kv wx => ∃ k : Nat, k ≤ n ∧ k ≤ g ∧ kv = .int .i64 (k : Nat) ∧ Hid (∀ i, k ≤ i → i < n → f i = 0) ∧ w = wx)
  case atStart => exact ⟨n, by omega, by omega, rfl, hid fun i h1 h2 => absurd h1 (by omega), rfl⟩
  case round =>
    obtain ⟨k, hk, hkg, rfl, hz, rfl⟩ := hrel
    by_cases h0 : 0 < k
    · obtain ⟨b, o, rfl, hb, e0⟩ := h.at (i := k - 1) (by omega)
      have h0' : (0 : Int) < (k : Int) := by omega
      have hw2 : ((k : Int) - 1).toNat = k - 1 := by omega
      by_cases hz0 : f (k - 1) = 0
      · rw [hz0] at e0
        have HN : Hid (∀ i, k - 1 ≤ i → i < n → f i = 0) := fun i h1 h2 => by
          by_cases e : i = k - 1
          · rw [e]; exact hz0
          · exact hz.out i (by omega) h2
        clear hz0
        go_wp2
        go_roundg (gk - 1)
        case measure => omega
        case rel => exact ⟨k - 1, by omega, by omega, by congr 1; omega, HN, rfl⟩
      · obtain ⟨d1, d2⟩ := dl_of (f := f) hk hf.out hz.out (.inr hz0)
        obtain ⟨v, hv⟩ : ∃ v : Int, v = (f (k - 1) : Nat) := ⟨_, rfl⟩
        rw [← hv] at e0
        have hv2 : (v == 0) = false := by simp; omega
        have D1 := hid d1
        have hR : NatOk w w.heap.size (some ⟨b, o, none⟩) (nv f n) := by
          unfold NatOk Lims
          rw [d1]
          exact fun i hi => by
            obtain ⟨b', o', e, hb', hc'⟩ := h i (by omega)
            exact ⟨b', o', e, hb', fun j hj => by show _ = some (Value.int .u32 (dg (nv f n) i : Nat)); rw [d2 i hi]; exact hc' j hj⟩
        clear hv d1 d2 hz0
        go_wp2
        go_ret
        exact ⟨by rw [D1.out]; rfl, hR, rfl⟩
    · obtain rfl : k = 0 := by omega
      obtain ⟨d1, d2⟩ := dl_of (f := f) hk hf.out hz.out (.inl rfl)
      have D1 := hid d1
      have hR : NatOk w w.heap.size A (nv f n) := by
        unfold NatOk Lims
        rw [d1]
        exact fun i hi => absurd hi (by omega)
      clear d1 d2
      cases A with
      | none =>
        go_wp2
        go_ret
        exact ⟨by rw [D1.out]; rfl, hR, rfl⟩
      | some a =>
        go_wp2
        go_ret
        exact ⟨by rw [D1.out]; rfl, hR, rfl⟩

set_option maxHeartbeats 2000000 in
theorem trim_any (A : Option Addr) (n c : Nat) (f : Nat → Nat) (w : World) (h : Lims w w.heap.size A n f) (hf : Hid (∀ i, i < n → f i < 4294967296)) (hc : n ≤ c) (hm : c ≤ maxLen) (hn : n ≤ 1073741824) :
    Calls Try.prog 84 #[.slice A n c] w (NatPost (nv f n) w) := by
  obtain ⟨i0, qi0, qz0, qz1, qz2⟩ := info_parts Try.infoU32
  have hl : dl (nv f n) ≤ n := dl_le (nv_lt hf.out)
  obtain ⟨x, hx⟩ : ∃ x, nv f n = x := ⟨_, rfl⟩
  have HX := hid hx
  rw [hx] at hl ⊢
  clear hx
  go_enter Try.func84, Try.ntmps84
  go_wp2_with fail
  refine (short_any A n c f w h hf hc hm).mono ?_
  rintro e w1 ⟨rfl, hR, rfl⟩
  rw [HX.out] at hR ⊢
  rcases Nat.eq_zero_or_pos (dl x) with h0 | h0
  · have H0 := hid h0
    rw [h0]
    clear h0
    go_wp2_with (first | (at_builtin; (refine wpList_append_nil_none rfl (.const (.slice none 0 0)) (.tmp 4) _ rfl 77 i0 Try.underlying43 qi0 rfl A 0 rfl ?_)))
    go_ret
    exact ⟨none, 0, by rw [H0.out]; rfl, by have := H0.out; omega, by unfold maxLen; omega, fun i hi => absurd hi (by have := H0.out; omega), Below.refl _ _⟩
  · have n3 : Hid (dl x ≤ maxLen) := by show _ ≤ _; unfold maxLen; omega
    have n4 : Hid (dl x * 4 ≤ 140737488355328) := by show _ ≤ _; omega
    go_wp2_with (first | (at_builtin; (refine wpList_append_copy_some rfl (.const (.slice none 0 0)) (.tmp 4) _ rfl 77 i0 _ 1 4 Try.underlying43 qi0 qz0 qz1 qz2 rfl (by omega) none rfl A (dl x) (dl x) (fun i _ => .int .u32 (dg x i : Nat)) rfl hR h0 (fun _ _ _ _ => rfl) n3.out n4.out ?_); intro cap cur k1 k2 k3 k4))
    go_ret
    have hO := Own.new (w := w) (base := w.heap.size) (e := 77) (Nat.le_refl _) k1 k2 k3 k4
    exact ⟨_, cap, rfl, k1, k2, hO.drew.rd rfl, (((Below.refl _ _).alloc (Nat.le_refl _) _).drew)⟩

/-- The limbs of a number that fits into 64 bits. -/
def two (x : Nat) (i : Nat) : Nat := if i = 0 then x % 4294967296 else x / 4294967296
theorem nv_two (x : Nat) : nv (two x) 2 = x := by
  simp only [nv, two]
  have := Nat.mod_add_div x 4294967296
  simp
  omega

set_option maxHeartbeats 2000000 in
theorem natOf_any (x : Nat) (w : World) (hx : x < 18446744073709551616) :
    Calls Try.prog 50 #[.int .u64 (x : Nat)] w (NatPost x w) := by
  have hL : Lims (w.alloc (Obj.cells #[Value.int .u32 ((x : Int) % 4294967296), Value.int .u32 ((x : Int) / 4294967296)] 77)) (w.alloc (Obj.cells #[Value.int .u32 ((x : Int) % 4294967296), Value.int .u32 ((x : Int) / 4294967296)] 77)).heap.size (some ⟨w.heap.size, 0, none⟩) 2 (two x) := by
    refine lims_row (t := 77) ⟨_, heap_alloc_new _ _, rfl, fun i hi => ?_⟩
    match i, hi with
    | 0, _ => simp [two]
    | 1, _ => simp [two]
  have H2 : Hid (∀ i, i < 2 → two x i < 4294967296) := fun i hi => by
    unfold two
    split <;> omega
  go_enter Try.func50, Try.ntmps50
  go_wp2_with fail
  refine (trim_any _ 2 2 (two x) _ hL H2 (Nat.le_refl _) (by unfold maxLen; omega) (by omega)).mono ?_
  rintro e w2 ⟨A, c, rfl, g1, g2, g3, g4⟩
  rw [nv_two] at g1 g3 ⊢
  have hB := onS ((Below.refl _ _).alloc (Nat.le_refl _) _) g4
  clear g4 hL
  go_wp2
  go_ret
  exact ⟨A, c, rfl, g1, g2, g3, hB⟩
end Go.Proofs.Ytnocbkhnmdmfhaa

namespace Go.Proofs.Ytnocbkhnmdmfhaa
open Go.RowKit

/-- A number's limbs with zeros behind them. -/
def padded (g : Nat → Nat) (m : Nat) (i : Nat) : Nat := if i < m then g i else 0
theorem nv_padded (g : Nat → Nat) {m n : Nat} (h : m ≤ n) : nv (padded g m) n = nv g m := by
  rw [nv_zeros h fun i h1 _ => by unfold padded; rw [if_neg (by omega)]]
  exact nv_congr fun i hi => by unfold padded; rw [if_pos hi]
theorem padded_lt {g : Nat → Nat} {m : Nat} (h : ∀ i, i < m → g i < 4294967296) (i : Nat) : padded g m i < 4294967296 := by
  unfold padded
  split
  · exact h i ‹_›
  · omega

set_option maxHeartbeats 4000000 in
theorem plus_any (A A2 : Option Addr) (n c n2 c2 : Nat) (f f2 : Nat → Nat) (w : World) (h : Lims w w.heap.size A n f) (h2 : Lims w w.heap.size A2 n2 f2) (hf : Hid (∀ i, i < n → f i < 4294967296)) (hf2 : Hid (∀ i, i < n2 → f2 i < 4294967296)) (hn : n ≤ 536870912) (hn2 : n2 ≤ 536870912) :
    Calls Try.prog 159 #[.slice A n c, .slice A2 n2 c2] w (NatPost (nv f n + nv f2 n2) w) := by
  have hmk := fun (x : Int) (h0 : 0 ≤ x) (h1 : x ≤ 1073741824) W => run_makeI (P := Try.prog) 43 77 _ 4 Try.underlying43 Try.infoU32 rfl x h0 (by omega) (by omega) W
  go_enter Try.func159, Try.ntmps159
  go_upto_if 13 with fail
  go_cut [0, 1] (fun v0 v1 wx => ∃ B m d, ∃ g : Nat → Nat, ∃ B2 m2 d2, ∃ g2 : Nat → Nat, v0 = .slice B m d ∧ v1 = .slice B2 m2 d2 ∧ m2 ≤ m ∧ m ≤ 536870912 ∧ Lims w w.heap.size B m g ∧ Lims w w.heap.size B2 m2 g2 ∧ Hid (∀ i, i < m → g i < 4294967296) ∧ Hid (∀ i, i < m2 → g2 i < 4294967296) ∧ Hid (nv f n + nv f2 n2 = nv g m + nv g2 m2) ∧ w = wx)
  case first =>
    by_cases hlt : n < n2
    · go_wp2
      go_meet
      exact ⟨A2, n2, c2, f2, A, n, c, f, rfl, rfl, by omega, hn2, h2, h, hf2, hf, Nat.add_comm _ _, rfl⟩
    · go_wp2
      go_meet
      exact ⟨A, n, c, f, A2, n2, c2, f2, rfl, rfl, by omega, hn, h, h2, hf, hf2, rfl, rfl⟩
  case rest =>
    obtain ⟨B, m, d, g, B2, m2, d2, g2, rfl, rfl, hm, hmb, hg, hg2, hgb, hgb2, hsum, rfl⟩ := hcut
    clear h h2 hf hf2
    have hmk2 := fun W => hmk ((m : Int) + 1) (by omega) (by omega) W
    have e1 : ((m : Int) + 1).toNat = m + 1 := by omega
    have hrow0 := World.rowIs_made w (.int .u32 0) (m + 1) 77
    clear hmk
    go_wp2
    go_loopg [22, 6] m (fun gg iv cv wx => ∃ k cc : Nat, ∃ o : Nat → Nat, iv = .int .i64 (k : Nat) ∧ cv = .int .u64 (cc : Nat) ∧ k ≤ m ∧ m ≤ k + gg ∧ cc ≤ 1 ∧ Below w.heap.size w wx ∧ wx.rowIs w.heap.size 77 (m + 1) (fun i => .int .u32 (o i : Nat)) ∧ Hid (∀ i, o i < 4294967296) ∧ Hid (nv o k + cc * 4294967296 ^ k = nv g k + nv (padded g2 m2) k))
    case atStart => exact ⟨0, 0, fun _ => 0, rfl, rfl, by omega, by omega, by omega, (Below.refl _ _).alloc (Nat.le_refl _) _, hrow0, hid fun _ => by show 0 < _; omega, hid rfl⟩
    case round =>
      clear hrow0 hmk2
      obtain ⟨k, cc, o, rfl, rfl, hk, hkg, hcc, hB, hrow, HO, HV⟩ := hrel
      have hz := hrow.lt
      by_cases hlt : k < m
      · obtain ⟨b, o1, rfl, hb, e0⟩ := (hg.on hB).at hlt
        have q1 := hgb.out k hlt
        have y0 := hrow.cell (i := k) (by omega)
        have z0 := hrow.frozen k
        have hlt' : (k : Int) < (m : Int) := by omega
        have key : ∀ t : Nat, t = padded g2 m2 k → Hid (nv (upd o k ((g k + cc + t) % 4294967296)) (k + 1) + (g k + cc + t) / 4294967296 * 4294967296 ^ (k + 1) = nv g (k + 1) + nv (padded g2 m2) (k + 1)) := fun t ht => by
          show _ = _
          simp only [nv]
          rw [nv_upd_ge (Nat.le_refl _), upd_same]
          have hv := HV.out
          have hc := carry_step1 (g k + cc + t) k
          rw [← ht]
          grind
        have hrw : ∀ s : Nat, ∀ v : Int, v = ((s % 4294967296 : Nat) : Int) → Hid ((wr.setCell ⟨w.heap.size, k, none⟩ (.int .u32 v)).rowIs w.heap.size 77 (m + 1) (fun i => .int .u32 (upd o k (s % 4294967296) i : Nat))) := fun s v hv => by
          refine (hrow.set k _).congr fun i _ => ?_
          unfold upd
          by_cases e : i = k
          · rw [if_pos e, if_pos e, hv]
          · rw [if_neg e, if_neg e]
        have hob : ∀ s : Nat, Hid (∀ i, upd o k (s % 4294967296) i < 4294967296) := fun s i => by
          unfold upd
          split
          · omega
          · exact HO.out i
        by_cases hlt2 : k < m2
        · obtain ⟨b2, o2, rfl, hb2, e2⟩ := (hg2.on hB).at hlt2
          have q2 := hgb2.out k hlt2
          have hlt3 : (k : Int) < (m2 : Int) := by omega
          obtain ⟨x, hx⟩ : ∃ x, x = g k := ⟨_, rfl⟩
          obtain ⟨y, hy⟩ : ∃ y, y = g2 k := ⟨_, rfl⟩
          have K1 := key y (by rw [hy]; unfold padded; rw [if_pos hlt2])
          have K2 := hid (hrw (x + cc + y) (((x : Int) + cc + y) % 4294967296) (by omega))
          have K3 := hob (x + cc + y)
          rw [← hx] at e0 q1 K1
          rw [← hy] at e2 q2
          clear key hrw hob hx hy
          go_wp2
          go_roundg (gk - 1)
          case measure => omega
          case rel => exact ⟨k + 1, (x + cc + y) / 4294967296, _, by go_num, by congr 1 <;> omega, by omega, by omega, by omega, hB.setCell (Nat.le_refl _) _, K2.out, K3, K1⟩
        · have hlt3 : ¬ (k : Int) < (m2 : Int) := by omega
          obtain ⟨x, hx⟩ : ∃ x, x = g k := ⟨_, rfl⟩
          have K1 := key 0 (by unfold padded; rw [if_neg hlt2])
          have K2 := hid (hrw (x + cc + 0) (((x : Int) + cc) % 4294967296) (by omega))
          have K3 := hob (x + cc + 0)
          rw [← hx] at e0 q1 K1
          clear key hrw hob hx
          go_wp2
          go_roundg (gk - 1)
          case measure => omega
          case rel => exact ⟨k + 1, (x + cc + 0) / 4294967296, _, by go_num, by congr 1 <;> omega, by omega, by omega, by omega, hB.setCell (Nat.le_refl _) _, K2.out, K3, K1⟩
      · obtain rfl : k = m := by omega
        have y0 := hrow.cell (i := k) (by omega)
        have z0 := hrow.frozen k
        have e2 : (k : Int) < (k : Int) + 1 := by omega
        have HS : Hid (nv f n + nv f2 n2 = nv (upd o k cc) (k + 1)) := by
          show _ = _
          simp only [nv]
          rw [nv_upd_ge (Nat.le_refl _), upd_same, HV.out, nv_padded g2 hm, hsum.out]
        have hrow2 : (wr.setCell ⟨w.heap.size, k, none⟩ (.int .u32 (cc : Nat))).rowIs w.heap.size 77 (k + 1) (fun i => .int .u32 (upd o k cc i : Nat)) := by
          refine (hrow.set k _).congr fun i _ => ?_
          unfold upd
          by_cases e : i = k
          · rw [if_pos e, if_pos e]
          · rw [if_neg e, if_neg e]
        have hob : Hid (∀ i, i < k + 1 → upd o k cc i < 4294967296) := fun i _ => by
          unfold upd
          split
          · omega
          · exact HO.out i
        have hB2 : Below w.heap.size w (wr.setCell ⟨w.heap.size, k, none⟩ (.int .u32 (cc : Nat))) := hB.setCell (Nat.le_refl _) _
        go_wp2_with fail
        refine (short_any (some ⟨w.heap.size, 0, none⟩) (k + 1) (k + 1) (upd o k cc) _ (lims_row hrow2) hob (Nat.le_refl _) (by unfold maxLen; omega)).mono ?_
        rintro e w1 ⟨rfl, hR, rfl⟩
        rw [← HS.out] at hR ⊢
        have hdl : dl (nv f n + nv f2 n2) ≤ k + 1 := by rw [HS.out]; exact dl_le (nv_lt hob.out)
        clear hrow hrow2 hB HV HO y0 z0
        go_wp2
        go_ret
        exact ⟨_, _, rfl, Nat.le_refl _, by unfold maxLen; omega, hR, hB2⟩

/-- A list of numbers in memory: a slice of slices. -/
def NatTab (w : World) (B : Nat) (T : Option Addr) (m : Nat) (x : Nat → Nat) : Prop :=
  ∀ v, v < m → ∃ b off A c, T = some ⟨b, off, none⟩ ∧ b < B ∧ w.cell? ⟨b, off + v, none⟩ = some (.slice A (dl (x v)) c) ∧ dl (x v) ≤ c ∧ c ≤ maxLen ∧ NatOk w B A (x v)
theorem NatTab.on {w w' : World} {T : Option Addr} {m : Nat} {x : Nat → Nat} (h : NatTab w w.heap.size T m x) (hb : Below w.heap.size w w') : NatTab w' w'.heap.size T m x := fun v hv => by
  obtain ⟨b, off, A, c, e, h1, h2, h3, h4, h5⟩ := h v hv
  have := hb.size
  exact ⟨b, off, A, c, e, by omega, by rw [hb.cell (by simp; omega)]; exact h2, h3, h4, h5.on hb⟩
/-- The sum of the first k. -/
def sumN (x : Nat → Nat) : Nat → Nat
  | 0 => 0
  | k + 1 => sumN x k + x k
theorem dg_all (x : Nat) : Hid (∀ i, i < dl x → dg x i < 4294967296) := fun i _ => dg_lt x i

theorem plus_nat (A A2 : Option Addr) (c c2 x y : Nat) (w : World) (h : NatOk w w.heap.size A x) (h2 : NatOk w w.heap.size A2 y) (hn : dl x ≤ 536870912) (hn2 : dl y ≤ 536870912) :
    Calls Try.prog 159 #[.slice A (dl x) c, .slice A2 (dl y) c2] w (NatPost (x + y) w) := by
  have := plus_any A A2 (dl x) c (dl y) c2 (dg x) (dg y) w h h2 (dg_all x) (dg_all y) hn hn2
  rwa [nv_dg, nv_dg] at this
theorem short_nat (A : Option Addr) (c x : Nat) (w : World) (h : NatOk w w.heap.size A x) (hc : dl x ≤ c) (hm : c ≤ maxLen) :
    Calls Try.prog 95 #[.slice A (dl x) c] w fun e w' => e = .returned (.slice A (dl x) (dl x)) ∧ w = w' := by
  refine (short_any A (dl x) c (dg x) w h (dg_all x) hc hm).mono ?_
  rintro e w' ⟨he, _, hw⟩
  rw [nv_dg] at he
  exact ⟨he, hw⟩
theorem trim_nat (A : Option Addr) (c x : Nat) (w : World) (h : NatOk w w.heap.size A x) (hc : dl x ≤ c) (hm : c ≤ maxLen) (hn : dl x ≤ 1073741824) :
    Calls Try.prog 84 #[.slice A (dl x) c] w (NatPost x w) := by
  have := trim_any A (dl x) c (dg x) w h (dg_all x) hc hm hn
  rwa [nv_dg] at this

set_option maxHeartbeats 4000000 in
theorem natAdd_any (T : Option Addr) (m c : Nat) (x : Nat → Nat) (w : World) (h : NatTab w w.heap.size T m x) (hm : m ≤ 1048576) (hs : Hid (∀ k, k ≤ m → dl (sumN x k) ≤ 536870912)) (hx : Hid (∀ k, k < m → dl (x k) ≤ 536870912)) :
    Calls Try.prog 156 #[.slice T m c] w (NatPost (sumN x m) w) := by
  go_enter Try.func156, Try.ntmps156
  go_wp2
  go_loopg [8, 3] m (fun g iv sv wx => ∃ k : Nat, ∃ A c, iv = .int .i64 (k : Nat) ∧ sv = .slice A (dl (sumN x k)) c ∧ k ≤ m ∧ m ≤ k + g ∧ dl (sumN x k) ≤ c ∧ c ≤ maxLen ∧ NatOk wx wx.heap.size A (sumN x k) ∧ Below w.heap.size w wx)
  case atStart => exact ⟨0, none, 0, rfl, by simp [sumN, dl_zero], by omega, by omega, by simp [sumN, dl_zero], by omega, fun i hi => absurd hi (by simp [sumN, dl_zero]), Below.refl _ _⟩
  case round =>
    obtain ⟨k, A, cA, rfl, rfl, hk, hkg, hc, hcm, hA, hB⟩ := hrel
    by_cases hlt : k < m
    · obtain ⟨b, off, B, cB, rfl, hb, e0, hcB, hcB2, hBk⟩ := (h.on hB) k hlt
      have hlt' : (k : Int) < (m : Int) := by omega
      have H1 := hs.out k hk
      have H2 := hx.out k hlt
      go_wp2_with fail
      refine (short_nat B cB (x k) wr hBk hcB hcB2).mono ?_
      rintro e w1 ⟨rfl, rfl⟩
      go_wp2_with fail
      refine (plus_nat A B cA (dl (x k)) (sumN x k) (x k) wr hA hBk H1 H2).mono ?_
      rintro e w1 ⟨A', c', rfl, g1, g2, g3, g4⟩
      have hB2 := onS hB g4
      clear g4 hA hB hBk e0
      go_wp2
      go_roundg (gk - 1)
      case measure => omega
      case rel => exact ⟨k + 1, A', c', by go_num, rfl, by omega, by omega, g1, g2, g3, hB2⟩
    · obtain rfl : k = m := by omega
      have H1 := hs.out k (Nat.le_refl _)
      go_wp2_with fail
      refine (trim_nat A cA (sumN x k) wr hA hc hcm (by omega)).mono ?_
      rintro e w1 ⟨A', c', rfl, g1, g2, g3, g4⟩
      have hB2 := onS hB g4
      clear g4
      go_wp2
      go_ret
      exact ⟨A', c', rfl, g1, g2, g3, hB2⟩
end Go.Proofs.Ytnocbkhnmdmfhaa

namespace Go.Proofs.Ytnocbkhnmdmfhaa
open Go.RowKit

theorem limb_mul {x y : Nat} (hx : x < 4294967296) (hy : y < 4294967296) : x * y ≤ 18446744065119617025 := by
  have : x * y ≤ 4294967295 * 4294967295 := Nat.mul_le_mul (by omega) (by omega)
  omega
theorem times_step {o g : Nat → Nat} {N k j x cc y : Nat} {v : Nat} (hkj : k + j < N) (hv : nv o N + cc * 4294967296 ^ (k + j) = v + x * nv g j * 4294967296 ^ k) (hy : y = g j) :
    nv (upd o (k + j) ((x * y + o (k + j) + cc) % 4294967296)) N + (x * y + o (k + j) + cc) / 4294967296 * 4294967296 ^ (k + (j + 1)) = v + x * nv g (j + 1) * 4294967296 ^ k := by
  have h1 := nv_upd (f := o) (v := (x * y + o (k + j) + cc) % 4294967296) hkj
  have h2 := carry_step1 (x * y + o (k + j) + cc) (k + j)
  have h3 : (4294967296 : Nat) ^ (k + j) = 4294967296 ^ k * 4294967296 ^ j := Nat.pow_add _ _ _
  simp only [nv]
  rw [show k + (j + 1) = k + j + 1 by omega, ← hy]
  generalize (x * y + o (k + j) + cc) % 4294967296 = r at *
  generalize (x * y + o (k + j) + cc) / 4294967296 * 4294967296 ^ (k + j + 1) = q at *
  generalize nv (upd o (k + j) r) N = u at *
  grind

set_option maxRecDepth 100000 in
set_option maxHeartbeats 4000000 in
theorem times_any (A A2 : Option Addr) (n c m c2 : Nat) (f g : Nat → Nat) (w : World) (h : Lims w w.heap.size A n f) (h2 : Lims w w.heap.size A2 m g) (hf : Hid (∀ i, i < n → f i < 4294967296)) (hg : Hid (∀ i, i < m → g i < 4294967296)) (hn : n ≤ 536870912) (hm : m ≤ 536870912) :
    Calls Try.prog 160 #[.slice A n c, .slice A2 m c2] w (NatPost (nv f n * nv g m) w) := by
  have hmk := fun W => run_makeI (P := Try.prog) 43 77 _ 4 Try.underlying43 Try.infoU32 rfl ((n : Int) + (m : Int)) (by omega) (by omega) (by omega) W
  have e1 : ((n : Int) + (m : Int)).toNat = n + m := by omega
  have hrow0 := World.rowIs_made w (.int .u32 0) (n + m) 77
  go_enter Try.func160, Try.ntmps160
  go_wp2
  go_loopg [20] n (fun gg iv wx => ∃ k : Nat, ∃ o : Nat → Nat, iv = .int .i64 (k : Nat) ∧ k ≤ n ∧ n ≤ k + gg ∧ Below w.heap.size w wx ∧ wx.rowIs w.heap.size 77 (n + m) (fun i => .int .u32 (o i : Nat)) ∧ Hid (∀ i, o i < 4294967296) ∧ Hid (∀ i, k + m ≤ i → o i = 0) ∧ Hid (nv o (n + m) = nv f k * nv g m))
  case atStart => exact ⟨0, fun _ => 0, rfl, by omega, by omega, (Below.refl _ _).alloc (Nat.le_refl _) _, hrow0, hid fun _ => by show 0 < _; omega, hid fun _ _ => rfl, hid (by rw [nv_zero fun _ _ => rfl]; simp [nv])⟩
  case round =>
    clear hrow0 hmk e1
    obtain ⟨k, o, rfl, hk, hkg, hB, hrow, HO, HZ, HV⟩ := hrel
    by_cases hlt : k < n
    · obtain ⟨b, o1, rfl, hb, e0⟩ := (h.on hB).at hlt
      have q1 := hf.out k hlt
      have hlt' : (k : Int) < (n : Int) := by omega
      obtain ⟨x, hx⟩ : ∃ x, x = f k := ⟨_, rfl⟩
      rw [← hx] at e0 q1
      have HX := hid hx
      obtain ⟨wo, rfl⟩ : ∃ wo : World, wo = wr := ⟨_, rfl⟩
      obtain ⟨K, rfl⟩ : ∃ K : Nat, K = gk := ⟨_, rfl⟩
      clear hx
      go_wp2
      go_loopg [27, 8] m (fun gg jv cv wx => ∃ j cc : Nat, ∃ o' : Nat → Nat, jv = .int .i64 (j : Nat) ∧ cv = .int .u64 (cc : Nat) ∧ j ≤ m ∧ m ≤ j + gg ∧ cc < 4294967296 ∧ Below w.heap.size w wx ∧ wx.rowIs w.heap.size 77 (n + m) (fun i => .int .u32 (o' i : Nat)) ∧ Hid (∀ i, o' i < 4294967296) ∧ Hid (∀ i, k + m ≤ i → o' i = 0) ∧ Hid (nv o' (n + m) + cc * 4294967296 ^ (k + j) = nv o (n + m) + x * nv g j * 4294967296 ^ k))
      case atStart => exact ⟨0, 0, o, rfl, rfl, by omega, by omega, by omega, hB, hrow, HO, HZ, hid (by simp [nv])⟩
      case round =>
        clear hB hrow e0
        obtain ⟨j, cc, o', rfl, rfl, hj, hjg, hcc, hB, hrow, HO', HZ', HV'⟩ := hrel
        have hz := hrow.lt
        by_cases hjlt : j < m
        · obtain ⟨b2, o2, rfl, hb2, e2⟩ := (h2.on hB).at hjlt
          have q2 := hg.out j hjlt
          have hjlt' : (j : Int) < (m : Int) := by omega
          have y0 := hrow.cell (i := k + j) (by omega)
          have z0 := hrow.frozen (k + j)
          have q3 := HO'.out (k + j)
          have hix : ((k : Int) + (j : Int)).toNat = k + j := by omega
          obtain ⟨y, hy⟩ : ∃ y, y = g j := ⟨_, rfl⟩
          obtain ⟨u, hu⟩ : ∃ u, u = o' (k + j) := ⟨_, rfl⟩
          rw [← hy] at e2 q2
          have K1 := hid (times_step (y := y) (show k + j < n + m by omega) HV'.out hy)
          rw [← hu] at y0 q3 K1
          have p0 : (0 : Int) ≤ (x : Int) * (y : Int) := by rw [← Int.natCast_mul]; omega
          have p1 : (x : Int) * (y : Int) ≤ 18446744065119617025 := by rw [← Int.natCast_mul]; have := limb_mul q1 q2; omega
          have p2 : (x : Int) * (y : Int) = ((x * y : Nat) : Int) := by rw [Int.natCast_mul]
          have p3 := limb_mul q1 q2
          have K2 : Hid ((wr.setCell ⟨w.heap.size, k + j, none⟩ (.int .u32 (((x : Int) * y + u + cc) % 4294967296))).rowIs w.heap.size 77 (n + m) (fun i => .int .u32 (upd o' (k + j) ((x * y + u + cc) % 4294967296) i : Nat))) := by
            refine (hrow.set (k + j) _).congr fun i _ => ?_
            unfold upd
            by_cases e : i = k + j
            · rw [if_pos e, if_pos e]; congr 1 <;> omega
            · rw [if_neg e, if_neg e]
          have K3 : Hid (∀ i, upd o' (k + j) ((x * y + u + cc) % 4294967296) i < 4294967296) := fun i => by
            unfold upd
            split
            · omega
            · exact HO'.out i
          have K4 : Hid (∀ i, k + m ≤ i → upd o' (k + j) ((x * y + u + cc) % 4294967296) i = 0) := fun i hi => by
            rw [upd_other (by omega)]; exact HZ'.out i hi
          have K5 : Hid ((((x : Int) * y + u + cc) / 4294967296) = (((x * y + u + cc) / 4294967296 : Nat) : Int)) := by show _ = _; omega
          have K6 : Hid ((x * y + u + cc) / 4294967296 < 4294967296) := by show _ < _; omega
          clear hy hu p2 hrow
          go_wp2
          go_roundg (gk - 1)
          case measure => omega
          case rel => exact ⟨j + 1, (x * y + u + cc) / 4294967296, _, by go_num, by rw [← K5.out], by omega, by omega, K6.out, hB.setCell (Nat.le_refl _) _, K2.out, K3, K4, K1⟩
        · obtain rfl : j = m := by omega
          have y0 := hrow.cell (i := k + j) (by omega)
          have z0 := hrow.frozen (k + j)
          have hix : ((k : Int) + (j : Int)).toNat = k + j := by omega
          have K1 : Hid (nv (upd o' (k + j) cc) (n + j) = nv f (k + 1) * nv g j) := by
            have h1 := nv_upd (f := o') (v := cc) (show k + j < n + j by omega)
            rw [HZ'.out (k + j) (Nat.le_refl _)] at h1
            have h3 := HV'.out
            rw [HV.out, HX.out] at h3
            show _ = _
            simp only [nv]
            grind
          have K2 : Hid ((wr.setCell ⟨w.heap.size, k + j, none⟩ (.int .u32 (cc : Nat))).rowIs w.heap.size 77 (n + j) (fun i => .int .u32 (upd o' (k + j) cc i : Nat))) := by
            refine (hrow.set (k + j) _).congr fun i _ => ?_
            unfold upd
            by_cases e : i = k + j
            · rw [if_pos e, if_pos e]
            · rw [if_neg e, if_neg e]
          have K3 : Hid (∀ i, upd o' (k + j) cc i < 4294967296) := fun i => by
            unfold upd
            split
            · omega
            · exact HO'.out i
          have K4 : Hid (∀ i, k + 1 + j ≤ i → upd o' (k + j) cc i = 0) := fun i hi => by
            rw [upd_other (by omega)]; exact HZ'.out i (by omega)
          clear hrow
          go_wp2
          go_roundg (K - 1)
          case measure => omega
          case rel => exact ⟨k + 1, _, by go_num, by omega, by omega, hB.setCell (Nat.le_refl _) _, K2.out, K3, K4, K1⟩
    · obtain rfl : k = n := by omega
      have hob : Hid (∀ i, i < k + m → o i < 4294967296) := fun i _ => HO.out i
      go_wp2_with fail
      refine (short_any (some ⟨w.heap.size, 0, none⟩) (k + m) (k + m) o wr (lims_row hrow) hob (Nat.le_refl _) (by unfold maxLen; omega)).mono ?_
      rintro e w1 ⟨rfl, hR, rfl⟩
      rw [HV.out] at hR ⊢
      have hdl : dl (nv f k * nv g m) ≤ k + m := by rw [← HV.out]; exact dl_le (nv_lt hob.out)
      clear hrow HO HZ
      go_wp2
      go_ret
      exact ⟨_, _, rfl, Nat.le_refl _, by unfold maxLen; omega, hR, hB⟩

theorem times_nat (A A2 : Option Addr) (c c2 x y : Nat) (w : World) (h : NatOk w w.heap.size A x) (h2 : NatOk w w.heap.size A2 y) (hn : dl x ≤ 536870912) (hn2 : dl y ≤ 536870912) :
    Calls Try.prog 160 #[.slice A (dl x) c, .slice A2 (dl y) c2] w (NatPost (x * y) w) := by
  have := times_any A A2 (dl x) c (dl y) c2 (dg x) (dg y) w h h2 (dg_all x) (dg_all y) hn hn2
  rwa [nv_dg, nv_dg] at this

/-- A number below 2^32 that is not 0 has one limb. -/
theorem dl_small {x : Nat} (h : 0 < x) (h1 : x < 4294967296) : dl x = 1 := by
  rw [dl_pos (by omega), Nat.div_eq_of_lt h1, dl_zero]
theorem dg_small {x : Nat} (h1 : x < 4294967296) : dg x 0 = x := by rw [dg_first, Nat.mod_eq_of_lt h1]
/-- A slice literal of one limb that is not 0. -/
theorem natOk_one {w : World} {x : Nat} (T : TypeId) (h : 0 < x) (h1 : x < 4294967296) : NatOk (w.alloc (Obj.cells #[Value.int .u32 (x : Nat)] T)) (w.alloc (Obj.cells #[Value.int .u32 (x : Nat)] T)).heap.size (some ⟨w.heap.size, 0, none⟩) x := by
  refine lims_row (t := T) ⟨_, heap_alloc_new _ _, by rw [dl_small h h1]; rfl, fun i hi => ?_⟩
  rw [dl_small h h1] at hi
  obtain rfl : i = 0 := by omega
  show _ = some (Value.int .u32 (dg x 0 : Nat))
  rw [dg_small h1]
  rfl

/-- The product of the first k. -/
def prodN (x : Nat → Nat) : Nat → Nat
  | 0 => 1
  | k + 1 => prodN x k * x k

set_option maxHeartbeats 4000000 in
theorem natMul_any (T : Option Addr) (m c : Nat) (x : Nat → Nat) (w : World) (h : NatTab w w.heap.size T m x) (hm : m ≤ 1048576) (hs : Hid (∀ k, k ≤ m → dl (prodN x k) ≤ 536870912)) (hx : Hid (∀ k, k < m → dl (x k) ≤ 536870912)) :
    Calls Try.prog 158 #[.slice T m c] w (NatPost (prodN x m) w) := by
  have d1 : Hid (dl (prodN x 0) = 1) := dl_small (by show 0 < 1; omega) (by show 1 < _; omega)
  have hone := natOk_one (w := w) 77 (x := 1) (by omega) (by omega)
  go_enter Try.func158, Try.ntmps158
  go_wp2
  go_loopg [9, 3] m (fun g iv sv wx => ∃ k : Nat, ∃ A c, iv = .int .i64 (k : Nat) ∧ sv = .slice A (dl (prodN x k)) c ∧ k ≤ m ∧ m ≤ k + g ∧ dl (prodN x k) ≤ c ∧ c ≤ maxLen ∧ NatOk wx wx.heap.size A (prodN x k) ∧ Below w.heap.size w wx)
  case atStart => exact ⟨0, _, 1, rfl, by rw [d1.out], by omega, by omega, by rw [d1.out]; omega, by unfold maxLen; omega, hone, (Below.refl _ _).alloc (Nat.le_refl _) _⟩
  case round =>
    clear hone
    obtain ⟨k, A, cA, rfl, rfl, hk, hkg, hc, hcm, hA, hB⟩ := hrel
    by_cases hlt : k < m
    · obtain ⟨b, off, B, cB, rfl, hb, e0, hcB, hcB2, hBk⟩ := (h.on hB) k hlt
      have hlt' : (k : Int) < (m : Int) := by omega
      have H1 := hs.out k hk
      have H2 := hx.out k hlt
      go_wp2_with fail
      refine (short_nat B cB (x k) wr hBk hcB hcB2).mono ?_
      rintro e w1 ⟨rfl, rfl⟩
      go_wp2_with fail
      refine (times_nat A B cA (dl (x k)) (prodN x k) (x k) wr hA hBk H1 H2).mono ?_
      rintro e w1 ⟨A', c', rfl, g1, g2, g3, g4⟩
      have hB2 := onS hB g4
      clear g4 hA hB hBk e0
      go_wp2
      go_roundg (gk - 1)
      case measure => omega
      case rel => exact ⟨k + 1, A', c', by go_num, rfl, by omega, by omega, g1, g2, g3, hB2⟩
    · obtain rfl : k = m := by omega
      have H1 := hs.out k (Nat.le_refl _)
      go_wp2_with fail
      refine (trim_nat A cA (prodN x k) wr hA hc hcm (by omega)).mono ?_
      rintro e w1 ⟨A', c', rfl, g1, g2, g3, g4⟩
      have hB2 := onS hB g4
      clear g4
      go_wp2
      go_ret
      exact ⟨A', c', rfl, g1, g2, g3, hB2⟩
end Go.Proofs.Ytnocbkhnmdmfhaa
