/- Polynomials over the fractions: values, sizes. Fractions that come in, cell by cell. channel.Compare; ChannelPolynomials returns true. -/
import Derived.Test.YtlfmnaepcndhiaaRefEval
import Derived.Test.YtlfmnaepcndhiaaOpen

namespace Go.Proofs.Ytlfmnaepcndhiaa

theorem powR_zero (x : Rat) : powR x 0 = 1 := rfl
theorem evR_zero (a : Nat → Rat) (x : Rat) : evR a x 0 = 0 := rfl
theorem powR_add (x : Rat) (i j : Nat) : powR x (i + j) = powR x i * powR x j := by
  induction j with
  | zero => rw [powR_zero, Nat.add_zero, Rat.mul_one]
  | succ j ih => show powR x (i + j) * x = powR x i * (powR x j * x); rw [ih]; grind
theorem horR_evR (a : Nat → Rat) (m : Nat) (x : Rat) : ∀ k, k ≤ m → evR a x m = evR a x (m - k) + horR a m x k * powR x (m - k) := by
  intro k
  induction k with
  | zero => intro _; show _ = evR a x m + 0 * _; grind
  | succ k ih =>
    intro hk
    rw [ih (by omega)]
    obtain ⟨j, hj⟩ : ∃ j, m - k = j + 1 := ⟨m - k - 1, by omega⟩
    rw [hj, show m - (k + 1) = j by omega]
    show evR a x j + a j * powR x j + horR a m x k * (powR x j * x) = evR a x j + (horR a m x k * x + a (m - 1 - k)) * powR x j
    rw [show m - 1 - k = j by omega]
    grind
theorem horR_eq (a : Nat → Rat) (m : Nat) (x : Rat) : horR a m x m = evR a x m := by
  have := horR_evR a m x m (Nat.le_refl _)
  rw [Nat.sub_self, evR_zero, powR_zero] at this
  grind
theorem evR_congr {a b : Nat → Rat} {x : Rat} {m : Nat} (h : ∀ i, i < m → a i = b i) : evR a x m = evR b x m := by
  induction m with
  | zero => rfl
  | succ m ih =>
    show evR a x m + a m * _ = evR b x m + b m * _
    rw [ih fun i hi => h i (by omega), h m (by omega)]
theorem evR_clen (a : Nat → Rat) (x : Rat) (m : Nat) : evR a x (clen a m) = evR a x m := by
  induction m with
  | zero => rfl
  | succ m ih =>
    unfold clen
    split
    · rename_i e
      rw [ih]
      show _ = evR a x m + a m * _
      rw [e]; grind
    · rfl
theorem evR_cut (a : Nat → Rat) (x : Rat) (m k : Nat) : evR (cutR a m) x (m + k) = evR a x m := by
  induction k with
  | zero => exact evR_congr fun i hi => by simp only [cutR]; rw [if_pos (by omega)]
  | succ k ih =>
    show evR (cutR a m) x (m + k) + cutR a m (m + k) * _ = _
    rw [ih]
    simp only [cutR]
    rw [if_neg (by omega)]
    grind
theorem evR_add (a b : Nat → Rat) (x : Rat) (m : Nat) : evR (fun i => a i + b i) x m = evR a x m + evR b x m := by
  induction m with
  | zero => show (0 : Rat) = 0 + 0; grind
  | succ m ih =>
    show evR _ x m + (a m + b m) * powR x m = evR a x m + a m * powR x m + (evR b x m + b m * powR x m)
    rw [ih]; grind
theorem evR_sumP (a b : Nat → Rat) (x : Rat) (m m' : Nat) : evR (sumP a m b m') x (max m m') = evR a x m + evR b x m' := by
  have e : sumP a m b m' = fun i => cutR a m i + cutR b m' i := rfl
  rw [e, evR_add]
  congr 1
  · obtain ⟨k, hk⟩ : ∃ k, max m m' = m + k := ⟨max m m' - m, by omega⟩
    rw [hk, evR_cut]
  · obtain ⟨k, hk⟩ : ∃ k, max m m' = m' + k := ⟨max m m' - m', by omega⟩
    rw [hk, evR_cut]
theorem evR_upd (S : Nat → Rat) (x v : Rat) (p M : Nat) (hp : p < M) : evR (updR S p (S p + v)) x M = evR S x M + v * powR x p := by
  induction M with
  | zero => omega
  | succ M ih =>
    show evR _ x M + updR S p (S p + v) M * powR x M = evR S x M + S M * powR x M + v * powR x p
    by_cases e : p = M
    · subst e
      rw [evR_congr (b := S) fun i hi => by unfold updR; rw [if_neg (by omega)]]
      unfold updR
      rw [if_pos rfl]; grind
    · rw [ih (by omega)]
      unfold updR
      rw [if_neg (fun h => e h.symm)]; grind
theorem evR_inP (a b S : Nat → Rat) (x : Rat) (i M : Nat) : ∀ j, i + j ≤ M → evR (inP a b i S j) x M = evR S x M + a i * powR x i * evR b x j := by
  intro j
  induction j with
  | zero => intro _; show evR S x M = _ + _ * (0 : Rat); grind
  | succ j ih =>
    intro hj
    show evR (updR (inP a b i S j) (i + j) (inP a b i S j (i + j) + a i * b j)) x M = _
    rw [evR_upd _ _ _ _ _ (by omega), ih (by omega), powR_add]
    show _ = evR S x M + a i * powR x i * (evR b x j + b j * powR x j)
    grind
theorem evR_outP (a b : Nat → Rat) (x : Rat) (m' M : Nat) : ∀ i, i + m' ≤ M + 1 → evR (outP a b m' i) x M = evR a x i * evR b x m' := by
  intro i
  induction i with
  | zero =>
    intro _
    show evR (fun _ => (0 : Rat)) x M = 0 * _
    have : ∀ M, evR (fun _ => (0 : Rat)) x M = 0 := fun M => by
      induction M with
      | zero => rfl
      | succ M ih => show evR _ x M + 0 * _ = 0; rw [ih]; grind
    rw [this]; grind
  | succ i ih =>
    intro hi
    show evR (inP a b i (outP a b m' i) m') x M = (evR a x i + a i * powR x i) * _
    rw [evR_inP _ _ _ _ _ _ _ (by omega), ih (by omega)]
    grind
theorem evR_mulP (a b : Nat → Rat) (x : Rat) (m m' : Nat) : evR (mulP a m b m') x (m + m') = evR a x m * evR b x m' := evR_outP a b x m' (m + m') m (by omega)

/-- What Eval needs of the sizes. -/
structure EvalFits (a : Nat → Rat) (m : Nat) (x : Rat) (N : Nat) : Prop where
  top : ∀ k, k ≤ m → rsz (horR a m x k) N ∧ rsz (horR a m x k * x) N
  low : ∀ k, k ≤ m → rsz (evR a x k) N ∧ rsz (powR x k) N
  term : ∀ k, k < m → rsz (a k * powR x k) N
  ent : ∀ k, k < m → rsz (a k) N
  arg : rsz x N
theorem rsz_one : rsz 1 1 := ⟨by show dl 1 ≤ 1; rw [dl_one]; omega, by show dl 1 ≤ 1; rw [dl_one]; omega⟩
theorem rsz_horR {a : Nat → Rat} {m N E : Nat} {x : Rat} (ha : ∀ k, k < m → rsz (a k) E) (hx : rsz x N) : ∀ k, k ≤ m → rsz (horR a m x k) (1 + k * (N + E + 1)) := by
  intro k
  induction k with
  | zero => intro _; exact rsz_zero.mono (by omega)
  | succ k ih =>
    intro hk
    have := rsz_add (rsz_mul (ih (by omega)) hx) (ha (m - 1 - k) (by omega))
    rw [Nat.add_mul, Nat.one_mul]
    exact this.mono (by omega)
theorem rsz_powR {N : Nat} {x : Rat} (hx : rsz x N) (k : Nat) : rsz (powR x k) (1 + k * N) := by
  induction k with
  | zero => exact rsz_one.mono (by omega)
  | succ k ih =>
    rw [Nat.add_mul, Nat.one_mul]
    exact (rsz_mul ih hx).mono (by omega)
theorem rsz_evR {a : Nat → Rat} {m N E K : Nat} {x : Rat} (ha : ∀ k, k < m → rsz (a k) E) (hx : rsz x N) (hK : m * N + E + 2 ≤ K) : ∀ k, k ≤ m → rsz (evR a x k) (1 + k * K) := by
  intro k
  induction k with
  | zero => intro _; exact rsz_zero.mono (by omega)
  | succ k ih =>
    intro hk
    have h1 := rsz_add (ih (by omega)) (rsz_mul (ha k (by omega)) (rsz_powR hx k))
    have h2 : k * N ≤ m * N := Nat.mul_le_mul_right N (by omega)
    rw [Nat.add_mul, Nat.one_mul]
    exact h1.mono (by omega)
theorem evalFits {a : Nat → Rat} {m N E K : Nat} {x : Rat} (ha : ∀ k, k < m → rsz (a k) E) (hx : rsz x N) (hK : 1 + m * (m * N + E + N + 3) + N ≤ K) (hE : E ≤ K) : EvalFits a m x K := by
  have h0 : m * (N + E + 1) ≤ m * (m * N + E + N + 3) := Nat.mul_le_mul_left m (by omega)
  have h3 : m * N ≤ m * (m * N + E + N + 3) := Nat.mul_le_mul_left m (by omega)
  refine ⟨fun k hk => ?_, fun k hk => ?_, fun k hk => ?_, fun k hk => (ha k hk).mono hE, hx.mono (by omega)⟩
  · have h1 : k * (N + E + 1) ≤ m * (N + E + 1) := Nat.mul_le_mul_right _ hk
    have := rsz_horR ha hx k hk
    exact ⟨this.mono (by omega), (rsz_mul this hx).mono (by omega)⟩
  · have h1 : k * (m * N + E + 2) ≤ m * (m * N + E + 2) := Nat.mul_le_mul_right _ hk
    have h2 : m * (m * N + E + 2) ≤ m * (m * N + E + N + 3) := Nat.mul_le_mul_left m (by omega)
    have h4 : k * N ≤ m * N := Nat.mul_le_mul_right _ hk
    exact ⟨(rsz_evR ha hx (Nat.le_refl _) k hk).mono (by omega), (rsz_powR hx k).mono (by omega)⟩
  · have h1 : k * N ≤ m * N := Nat.mul_le_mul_right _ (by omega)
    have h4 : 1 * (m * N + E + N + 3) ≤ m * (m * N + E + N + 3) := Nat.mul_le_mul_right _ (by omega)
    exact (rsz_mul (ha k hk) (rsz_powR hx k)).mono (by omega)
end Go.Proofs.Ytlfmnaepcndhiaa

namespace Go.Proofs.Ytlfmnaepcndhiaa
open Go.ChangeShapes Go.WideShapes Go.ChangeAt Go.RowKit

theorem wf_u32 {n : Int} (h : (Lit.int .u32 n).wf = true) : 0 ≤ n ∧ n < 4294967296 := by
  have : 0 ≤ n ∧ n ≤ 4294967295 := by simpa [Lit.wf, IntKind.min, IntKind.max, IntKind.signed, IntKind.bits] using h
  omega
section
variable {H : Type} {enc : TypeId × Value → H} {w : World} {base : Nat} {spare : Nat → Bool} {held : Bool} {cs : List Value}
theorem sees_nat (h : Sees enc Try.prog w base spare held 30 cs) : ∃ A n c x, cs = [.slice A n c] ∧ n ≤ c ∧ c ≤ maxLen ∧ NatRaw w w.heap.size A n x := by
  obtain ⟨A, n, c, g, e, h1, h2, hr, hw⟩ := sees_ints Try.underlying30 Try.underlying68 (by kernel_rfl) h
  refine ⟨A, n, c, _, e, h1, h2, fun i => (g i).toNat, fun i hi => ?_, fun i hi => ?_, rfl⟩
  · obtain ⟨b, off, e1, hb, hc⟩ := hr i hi
    refine ⟨b, off, e1, hb, fun j hj => ?_⟩
    have := wf_u32 (hw i hi)
    rw [hc j hj]
    show some (Value.int .u32 (g i)) = some (.int .u32 ((g i).toNat : Int))
    rw [Int.toNat_of_nonneg this.1]
  · have := wf_u32 (hw i hi)
    show (g i).toNat < 4294967296
    omega
theorem sees_rat (h : Sees enc Try.prog w base spare held 32 cs) : ∃ s A n c A2 k c2 r, cs = [.bool s, .slice A n c, .slice A2 k c2] ∧ ∀ N, n ≤ N → k ≤ N → RatRaw w w.heap.size (.agg #[.bool s, .slice A n c, .slice A2 k c2]) r N := by
  obtain ⟨hl, _⟩ := sees_struct Try.underlying32 h
  match cs, hl.trans (show Try.prog.cellsOf 32 = 3 by kernel_rfl) with
  | [c0, c1, c2], _ =>
    have hc : Try.prog.cellsOf 4 = 1 := by kernel_rfl
    have hc' : Try.prog.cellsOf 30 = 1 := by kernel_rfl
    have g0 := sees_at Try.underlying32 h 0 4 0 1 ⟨_, rfl, rfl, rfl⟩ hc
    have g1 := sees_at Try.underlying32 h 1 30 1 1 ⟨_, rfl, rfl, rfl⟩ hc'
    have g2 := sees_at Try.underlying32 h 2 30 2 1 ⟨_, rfl, rfl, rfl⟩ hc'
    obtain ⟨s, ha⟩ := sees_bool Try.underlying4 g0
    obtain ⟨A, n, c, x, hb, h1, h2, hx⟩ := sees_nat g1
    obtain ⟨A2, k, c2', y, hc, h3, h4, hy⟩ := sees_nat g2
    simp at ha hb hc
    subst ha hb hc
    exact ⟨s, A, n, c, A2, k, c2', _, rfl, fun N hn hk => ⟨s, A, n, c, A2, k, c2', x, y, rfl, hx, hy, h1, h2, h3, h4, hn, hk, rfl⟩⟩
/-- A polynomial that comes in. -/
def PolyArg (w : World) (T : Option Addr) (m : Nat) (ln ld : Nat → Nat) (rs : Nat → Rat) : Prop := RatLens w T m ln ld ∧ ∀ N, (∀ i, i < m → ln i ≤ N ∧ ld i ≤ N) → RatTab w w.heap.size T m rs N
theorem sees_rats (h : Sees enc Try.prog w base spare held 22 cs) : ∃ T m c ln ld rs, cs = [.slice T m c] ∧ m ≤ c ∧ c ≤ maxLen ∧ PolyArg w T m ln ld rs := by
  obtain ⟨T, m, c, f, hcs, h1, h2, hr, hf⟩ := sees_slice Try.underlying22 (show Try.prog.cellsOf 32 = 3 by kernel_rfl) (by omega) h
  have key : ∀ i, ∃ t : Bool × Option Addr × Nat × Nat × Option Addr × Nat × Nat × Rat, i < m → (f i 0 = .bool t.1 ∧ f i 1 = .slice t.2.1 t.2.2.1 t.2.2.2.1 ∧ f i 2 = .slice t.2.2.2.2.1 t.2.2.2.2.2.1 t.2.2.2.2.2.2.1) ∧ ∀ N, t.2.2.1 ≤ N → t.2.2.2.2.2.1 ≤ N → RatRaw w w.heap.size (.agg #[.bool t.1, .slice t.2.1 t.2.2.1 t.2.2.2.1, .slice t.2.2.2.2.1 t.2.2.2.2.2.1 t.2.2.2.2.2.2.1]) t.2.2.2.2.2.2.2 N := by
    intro i
    by_cases hi : i < m
    · obtain ⟨s, A, n, c, A2, k, c2, r, e, hr⟩ := sees_rat (hf i hi)
      have e' : [f i 0, f i 1, f i 2] = [.bool s, .slice A n c, .slice A2 k c2] := e
      simp only [List.cons.injEq, and_true] at e'
      exact ⟨(s, A, n, c, A2, k, c2, r), fun _ => ⟨e', hr⟩⟩
    · exact ⟨(false, none, 0, 0, none, 0, 0, 0), fun h => absurd h hi⟩
  obtain ⟨t, key⟩ := Classical.axiomOfChoice key
  refine ⟨T, m, c, fun i => (t i).2.2.1, fun i => (t i).2.2.2.2.2.1, fun i => (t i).2.2.2.2.2.2.2, hcs, h1, h2, fun i hi => ?_, fun N hN i hi => ?_⟩
  · obtain ⟨⟨e0, e1, e2⟩, _⟩ := key i hi
    obtain ⟨b, off, e, hb, hc⟩ := hr i hi
    exact ⟨b, off, _, _, _, _, _, e, hb, by rw [← e0]; exact hc 0 (by omega), by rw [← e1]; exact hc 1 (by omega), by rw [← e2]; exact hc 2 (by omega)⟩
  · obtain ⟨⟨e0, e1, e2⟩, hraw⟩ := key i hi
    obtain ⟨b, off, e, hb, hc⟩ := hr i hi
    exact ⟨b, off, _, _, _, _, _, _, _, e, hb, by rw [← e0]; exact hc 0 (by omega), by rw [← e1]; exact hc 1 (by omega), by rw [← e2]; exact hc 2 (by omega), hraw N (hN i hi).1 (hN i hi).2⟩
end
theorem RatRaw.rsz {w : World} {B N : Nat} {v : Value} {r : Rat} (h : RatRaw w B v r N) (hN : 1 ≤ N) : rsz r N := by
  obtain ⟨s, A, n, c, A2, m, c2, x, y, e, h1, h2, h3, h4, h5, h6, h7, h8, rfl⟩ := h
  have := h1.dl
  have := h2.dl
  exact rsz_rv (by omega) (by omega) hN
theorem RatTab.rsz {w : World} {B N m : Nat} {T : Option Addr} {rs : Nat → Rat} (h : RatTab w B T m rs N) (hN : 1 ≤ N) : ∀ i, i < m → rsz (rs i) N := fun i hi => by
  obtain ⟨b, off, s, A, n, c, A2, k, c2, e, h1, h2, h3, h4, h5⟩ := h i hi
  exact h5.rsz hN
theorem lawShorts_is (v : Bool) (T : Option Addr) (m c : Nat) (ln ld : Nat → Nat) (w : World) (h : RatLens w T m ln ld) (hm : m ≤ 1048576) (hv : Hid (shortsB ln ld m = v)) :
    Calls Try.prog 11 #[.slice T m c] w fun e w' => e = .returned (.bool v) ∧ Below w.heap.size w w' := by
  rw [← hv.out]; exact lawShorts_any T m c ln ld w h hm
theorem lawShort_is (v : Bool) (s : Bool) (A A2 : Option Addr) (n c m c2 : Nat) (w : World) (hv : Hid ((decide (n ≤ 4) && decide (m ≤ 4)) = v)) :
    Calls Try.prog 12 #[.agg #[.bool s, .slice A n c, .slice A2 m c2]] w fun e w' => e = .returned (.bool v) ∧ Below w.heap.size w w' := by
  rw [← hv.out]; exact lawShort_any s A A2 n c m c2 w
/-- Eval of both sides, by the value from below. -/
theorem chEval_fit {T : Option Addr} {m c N : Nat} {rs : Nat → Rat} {v : Value} {x : Rat} {w : World} (h : RatTab w w.heap.size T m rs N) (hx : RatRaw w w.heap.size v x N) (hm : m ≤ 1048576) (hN : N ≤ 33554432) (hf : EvalFits rs m x N) :
    Calls Try.prog 18 #[.slice T m c, v] w (RatPost (evR rs x m) w) := by
  have := chEval_any T m c N rs v x w h hx hm hN (rsz_pos hf.arg) hf.arg hf.top hf.ent
  rwa [horR_eq] at this
theorem refEval_fit {T : Option Addr} {m c N : Nat} {rs : Nat → Rat} {v : Value} {x : Rat} {w : World} (h : RatTab w w.heap.size T m rs N) (hx : RatRaw w w.heap.size v x N) (hm : m ≤ 1048576) (hN : N ≤ 33554432) (hf : EvalFits rs m x N) :
    Calls Try.prog 19 #[.slice T m c, v] w (RatPost (evR rs x m) w) :=
  refEval_any T m c N rs v x w h hx hm hN hf.arg hf.low hf.term hf.ent
end Go.Proofs.Ytlfmnaepcndhiaa

namespace Go.Proofs.Ytlfmnaepcndhiaa
open Go.RowKit

set_option maxRecDepth 100000 in
set_option maxHeartbeats 8000000 in
theorem chCompare_fit {T T' : Option Addr} {m c m' c' N : Nat} {a b : Nat → Rat} {v : Value} {x : Rat} {w : World} (h : RatTab w w.heap.size T m a N) (h' : RatTab w w.heap.size T' m' b N) (hx : RatRaw w w.heap.size v x N) (hm : m ≤ 1048576) (hm' : m' ≤ 1048576) (hN : N ≤ 33554432) (hf : EvalFits a m x N) (hf' : EvalFits b m' x N) :
    Calls Try.prog 20 #[.slice T m c, .slice T' m' c', v] w fun e w' => e = .returned (.int .i64 (rsign (evR a x m - evR b x m'))) ∧ Below w.heap.size w w' := by
  have hv : ∃ s A n c A2 m c2, v = .agg #[.bool s, .slice A n c, .slice A2 m c2] := by obtain ⟨s, A, n, c, A2, m, c2, x, y, rfl, _⟩ := hx; exact ⟨s, A, n, c, A2, m, c2, rfl⟩
  obtain ⟨s, A, n, cx1, A2, n2, cx2, rfl⟩ := hv
  have hB := below_one w (.cells #[.bool s, .slice A n cx1, .slice A2 n2 cx2] 32)
  have ra := box_row (w := w) (a := .bool s) (b := .slice A n cx1) (c := .slice A2 n2 cx2) (T := 32)
  obtain ⟨w0, hw0⟩ : ∃ W, W = (w.alloc (.cells #[.bool s, .slice A n cx1, .slice A2 n2 cx2] 32)) := ⟨_, rfl⟩
  rw [← hw0] at ra hB
  go_enter Try.func20, Try.ntmps20
  go_upto_region 1 with fail
  rw [← hw0]
  clear hw0
  have HS : Hid (∀ w' : World, w'.rowIs (w.heap.size) 32 3 (ratCell (.bool (s)) (.slice (A) (n) (cx1)) (.slice (A2) (n2) (cx2))) → w'.cell? ⟨w.heap.size, 0, none⟩ = some (.bool (s)) ∧ w'.cell? ⟨w.heap.size, 1, none⟩ = some (.slice (A) (n) (cx1)) ∧ w'.cell? ⟨w.heap.size, 2, none⟩ = some (.slice (A2) (n2) (cx2))) := fun w' h0 => ⟨h0.cell (i := 0) (by omega), h0.cell (i := 1) (by omega), h0.cell (i := 2) (by omega)⟩
  refine wp_region_held_drew (S := fun w' => w'.cell? ⟨w.heap.size, 0, none⟩ = some (.bool (s)) ∧ w'.cell? ⟨w.heap.size, 1, none⟩ = some (.slice (A) (n) (cx1)) ∧ w'.cell? ⟨w.heap.size, 2, none⟩ = some (.slice (A2) (n2) (cx2))) (by kernel_rfl) (HS.out _ (show World.rowIs (World.drew _) _ _ _ _ from ra)) (fun hHeld => ?_)
  obtain ⟨w1, hw⟩ : ∃ W, W = World.drew w0 := ⟨_, rfl⟩
  have kb : Below w0.heap.size w0 w1 := by rw [hw]; exact (Below.refl _ _).drew
  rw [← hw] at hHeld ⊢
  clear hw
  replace ra := rowIs_on ra kb
  replace hB := onS hB kb
  clear kb
  refine wpAnyH_take (i := 0) (v := ?_) (by simp only [List.getElem?_toArray, List.getElem?_cons_zero]; rfl) (by kernel_rfl) (by kernel_rfl) (by kernel_rfl) (by exact fun _ _ _ h => h) (Or.inl ⟨by rfl, ?_⟩) (by assumption) ?_
  rotate_left
  · (intro w hSw; (try dsimp only at hSw); go_simp); first | done | with_reducible rfl
  try simp only [Act.put, List.setIfInBounds_toArray, List.set_cons_zero, List.set_cons_succ]
  refine wpAnyH_take (i := 1) (v := ?_) (by simp only [List.getElem?_toArray, List.getElem?_cons_succ, List.getElem?_cons_zero]; rfl) (by kernel_rfl) (by kernel_rfl) (by kernel_rfl) (by exact fun _ _ _ h => h) (Or.inl ⟨by rfl, ?_⟩) (by assumption) ?_
  rotate_left
  · (intro w hSw; (try dsimp only at hSw); go_simp); first | done | with_reducible rfl
  try simp only [Act.put, List.setIfInBounds_toArray, List.set_cons_zero, List.set_cons_succ]
  refine wpAnyH_take (i := 3) (v := ?_) (by simp only [List.getElem?_toArray, List.getElem?_cons_succ, List.getElem?_cons_zero]; rfl) (by kernel_rfl) (by kernel_rfl) (by kernel_rfl) (by exact fun _ _ _ h => h) (Or.inl ⟨by rfl, ?_⟩) (by assumption) ?_
  rotate_left
  · (intro w hSw; (try dsimp only at hSw); go_simp); first | done | with_reducible rfl
  try simp only [Act.put, List.setIfInBounds_toArray, List.set_cons_zero, List.set_cons_succ]
  refine wpAnyH_take (i := 4) (v := ?_) (by simp only [List.getElem?_toArray, List.getElem?_cons_succ, List.getElem?_cons_zero]; rfl) (by kernel_rfl) (by kernel_rfl) (by kernel_rfl) (by exact fun _ _ _ h => h) (Or.inl ⟨by rfl, ?_⟩) (by assumption) ?_
  rotate_left
  · (intro w hSw; (try dsimp only at hSw); go_simp); first | done | with_reducible rfl
  try simp only [Act.put, List.setIfInBounds_toArray, List.set_cons_zero, List.set_cons_succ]
  refine wpAnyH_ready (rs := [2]) (by kernel_rfl) (by simp) ?_
  refine AllReadyH.cons (by simp only [List.getElem?_toArray, List.getElem?_cons_succ, List.getElem?_cons_zero]; rfl) (fun K hK => ?_) AllReadyH.nil
  go_simp
  go_wp2_with fail
  refine (chEval_fit (h.on hB) (hx.on hB) hm hN hf).mono ?_
  rintro e w2 ⟨Ae, ce, Be, de, rfl, me1, me2, me3, me4, me5, me6, kb⟩
  replace ra := rowIs_on ra kb
  replace hB := onS hB kb
  clear kb
  obtain ⟨p, hp⟩ : ∃ p, p = evR a x m := ⟨_, rfl⟩
  have hsp := (hf.low m (Nat.le_refl _)).1
  rw [← hp] at me1 me2 me3 me5 hsp ⊢
  have HP := hid hp
  clear hp
  refine hK.out _ _ (HS.out _ ra) (fun hHeld => ?_)
  clear hK K
  try simp only [Act.put, List.setIfInBounds_toArray, List.set_cons_zero, List.set_cons_succ]
  refine wpAnyH_ready (rs := [5]) (by kernel_rfl) (by simp) ?_
  refine AllReadyH.cons (by simp only [List.getElem?_toArray, List.getElem?_cons_succ, List.getElem?_cons_zero]; rfl) (fun K hK => ?_) AllReadyH.nil
  go_simp
  go_wp2_with fail
  refine (chEval_fit (h'.on hB) (hx.on hB) hm' hN hf').mono ?_
  rintro e w3 ⟨Af, cf, Bf, df, rfl, mf1, mf2, mf3, mf4, mf5, mf6, kb⟩
  replace ra := rowIs_on ra kb
  replace hB := onS hB kb
  replace me1 := me1.on kb
  replace me2 := me2.on kb
  clear kb
  obtain ⟨q, hq⟩ : ∃ p, p = evR b x m' := ⟨_, rfl⟩
  have hsq := (hf'.low m' (Nat.le_refl _)).1
  rw [← hq] at mf1 mf2 mf3 mf5 hsq ⊢
  have HQ := hid hq
  clear hq
  refine hK.out _ _ (HS.out _ ra) (fun hHeld => ?_)
  clear hK K
  try simp only [Act.put, List.setIfInBounds_toArray, List.set_cons_zero, List.set_cons_succ]
  refine wpAnyH_ready (rs := [6]) (by kernel_rfl) (by simp) ?_
  refine AllReadyH.cons (by simp only [List.getElem?_toArray, List.getElem?_cons_succ, List.getElem?_cons_zero]; rfl) (fun K hK => ?_) AllReadyH.nil
  go_simp
  go_wp2_with fail
  refine (ratCmp_any _ _ p q N _ (ratPost_raw me1 me2 me3 me4 me5 me6 hsp) (ratPost_raw mf1 mf2 mf3 mf4 mf5 mf6 hsq) hN hsp hsq).mono ?_
  rintro e w4 ⟨rfl, kb⟩
  replace ra := rowIs_on ra kb
  replace hB := onS hB kb
  replace me1 := me1.on kb
  replace me2 := me2.on kb
  replace mf1 := mf1.on kb
  replace mf2 := mf2.on kb
  clear kb
  obtain ⟨sg, hsg⟩ : ∃ z, z = rsign (p - q) := ⟨_, rfl⟩
  rw [← hsg]
  have HSG := hid hsg
  clear hsg
  refine hK.out _ _ (HS.out _ ra) (fun hHeld => ?_)
  clear hK K
  try simp only [Act.put, List.setIfInBounds_toArray, List.set_cons_zero, List.set_cons_succ]
  refine wpAnyH_take (i := 7) (v := ?_) (by simp only [List.getElem?_toArray, List.getElem?_cons_succ, List.getElem?_cons_zero]; rfl) (by kernel_rfl) (by kernel_rfl) (by kernel_rfl) (by exact fun _ _ _ h => h) (Or.inl ⟨by rfl, ?_⟩) (by assumption) ?_
  rotate_left
  · (intro w hSw; (try dsimp only at hSw); go_simp); first | done | with_reducible rfl
  try simp only [Act.put, List.setIfInBounds_toArray, List.set_cons_zero, List.set_cons_succ]
  refine wpAnyH_done (by kernel_rfl) ?_ _
  clear hHeld
  go_wp2
  go_ret
  rw [← HP.out, ← HQ.out, ← HSG.out]
  exact ⟨rfl, hB⟩

end Go.Proofs.Ytlfmnaepcndhiaa
