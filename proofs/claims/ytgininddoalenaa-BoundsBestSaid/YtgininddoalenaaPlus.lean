/- nat.plus and nat.Add. -/
import Derived.Test.YtgininddoalenaaLimbs
import Derived.Deep.DeepCutAuto
namespace Go.Proofs.Ytgininddoalenaa
open Go.RowKit

/-- A number's limbs with zeros behind them. -/
def padded (g : Nat → Nat) (m : Nat) (i : Nat) : Nat := if i < m then g i else 0
theorem nv_padded (g : Nat → Nat) {m n : Nat} (h : m ≤ n) : nv (padded g m) n = nv g m := by
  rw [nv_zeros h fun i h1 _ => by unfold padded; rw [if_neg (by omega)]]
  exact nv_congr fun i hi => by unfold padded; rw [if_pos hi]
theorem padded_lt {g : Nat → Nat} {m : Nat} (h : ∀ i, i < m → g i < 4294967296) (i : Nat) : padded g m i < 4294967296 := by
  unfold padded
  split
  · exact h i ‹_›
  · omega

set_option maxHeartbeats 4000000 in
theorem plus_any (A A2 : Option Addr) (n c n2 c2 : Nat) (f f2 : Nat → Nat) (w : World) (h : Lims w w.heap.size A n f) (h2 : Lims w w.heap.size A2 n2 f2) (hf : Hid (∀ i, i < n → f i < 4294967296)) (hf2 : Hid (∀ i, i < n2 → f2 i < 4294967296)) (hn : n ≤ 536870912) (hn2 : n2 ≤ 536870912) :
    Calls Try.prog 115 #[.slice A n c, .slice A2 n2 c2] w (NatPost (nv f n + nv f2 n2) w) := by
  have hmk := fun (x : Int) (h0 : 0 ≤ x) (h1 : x ≤ 1073741824) W => run_makeI (P := Try.prog) 39 77 _ 4 Try.underlying39 Try.infoU32 rfl x h0 (by omega) (by omega) W
  go_enter Try.func115, Try.ntmps115
  go_upto_if 13 with fail
  go_cut [0, 1] (fun v0 v1 wx => ∃ B m d, ∃ g : Nat → Nat, ∃ B2 m2 d2, ∃ g2 : Nat → Nat, v0 = .slice B m d ∧ v1 = .slice B2 m2 d2 ∧ m2 ≤ m ∧ m ≤ 536870912 ∧ Lims w w.heap.size B m g ∧ Lims w w.heap.size B2 m2 g2 ∧ Hid (∀ i, i < m → g i < 4294967296) ∧ Hid (∀ i, i < m2 → g2 i < 4294967296) ∧ Hid (nv f n + nv f2 n2 = nv g m + nv g2 m2) ∧ w = wx)
  case first =>
    by_cases hlt : n < n2
    · go_wp2
      go_meet
      exact ⟨A2, n2, c2, f2, A, n, c, f, rfl, rfl, by omega, hn2, h2, h, hf2, hf, Nat.add_comm _ _, rfl⟩
    · go_wp2
      go_meet
      exact ⟨A, n, c, f, A2, n2, c2, f2, rfl, rfl, by omega, hn, h, h2, hf, hf2, rfl, rfl⟩
  case rest =>
    obtain ⟨B, m, d, g, B2, m2, d2, g2, rfl, rfl, hm, hmb, hg, hg2, hgb, hgb2, hsum, rfl⟩ := hcut
    clear h h2 hf hf2
    have hmk2 := fun W => hmk ((m : Int) + 1) (by omega) (by omega) W
    have e1 : ((m : Int) + 1).toNat = m + 1 := by omega
    have hrow0 := World.rowIs_made w (.int .u32 0) (m + 1) 77
    clear hmk
    go_wp2
    go_loopg [22, 6] m (fun gg iv cv wx => ∃ k cc : Nat, ∃ o : Nat → Nat, iv = .int .i64 (k : Nat) ∧ cv = .int .u64 (cc : Nat) ∧ k ≤ m ∧ m ≤ k + gg ∧ cc ≤ 1 ∧ Below w.heap.size w wx ∧ wx.rowIs w.heap.size 77 (m + 1) (fun i => .int .u32 (o i : Nat)) ∧ Hid (∀ i, o i < 4294967296) ∧ Hid (nv o k + cc * 4294967296 ^ k = nv g k + nv (padded g2 m2) k))
    case atStart => exact ⟨0, 0, fun _ => 0, rfl, rfl, by omega, by omega, by omega, (Below.refl _ _).alloc (Nat.le_refl _) _, hrow0, hid fun _ => by show 0 < _; omega, hid rfl⟩
    case round =>
      clear hrow0 hmk2
      obtain ⟨k, cc, o, rfl, rfl, hk, hkg, hcc, hB, hrow, HO, HV⟩ := hrel
      have hz := hrow.lt
      by_cases hlt : k < m
      · obtain ⟨b, o1, rfl, hb, e0⟩ := (hg.on hB).at hlt
        have q1 := hgb.out k hlt
        have y0 := hrow.cell (i := k) (by omega)
        have z0 := hrow.frozen k
        have hlt' : (k : Int) < (m : Int) := by omega
        have key : ∀ t : Nat, t = padded g2 m2 k → Hid (nv (upd o k ((g k + cc + t) % 4294967296)) (k + 1) + (g k + cc + t) / 4294967296 * 4294967296 ^ (k + 1) = nv g (k + 1) + nv (padded g2 m2) (k + 1)) := fun t ht => by
          show _ = _
          simp only [nv]
          rw [nv_upd_ge (Nat.le_refl _), upd_same]
          have hv := HV.out
          have hc := carry_step1 (g k + cc + t) k
          rw [← ht]
          grind
        have hrw : ∀ s : Nat, ∀ v : Int, v = ((s % 4294967296 : Nat) : Int) → Hid ((wr.setCell ⟨w.heap.size, k, none⟩ (.int .u32 v)).rowIs w.heap.size 77 (m + 1) (fun i => .int .u32 (upd o k (s % 4294967296) i : Nat))) := fun s v hv => by
          refine (hrow.set k _).congr fun i _ => ?_
          unfold upd
          by_cases e : i = k
          · rw [if_pos e, if_pos e, hv]
          · rw [if_neg e, if_neg e]
        have hob : ∀ s : Nat, Hid (∀ i, upd o k (s % 4294967296) i < 4294967296) := fun s i => by
          unfold upd
          split
          · omega
          · exact HO.out i
        by_cases hlt2 : k < m2
        · obtain ⟨b2, o2, rfl, hb2, e2⟩ := (hg2.on hB).at hlt2
          have q2 := hgb2.out k hlt2
          have hlt3 : (k : Int) < (m2 : Int) := by omega
          obtain ⟨x, hx⟩ : ∃ x, x = g k := ⟨_, rfl⟩
          obtain ⟨y, hy⟩ : ∃ y, y = g2 k := ⟨_, rfl⟩
          have K1 := key y (by rw [hy]; unfold padded; rw [if_pos hlt2])
          have K2 := hid (hrw (x + cc + y) (((x : Int) + cc + y) % 4294967296) (by omega))
          have K3 := hob (x + cc + y)
          rw [← hx] at e0 q1 K1
          rw [← hy] at e2 q2
          clear key hrw hob hx hy
          go_wp2
          go_roundg (gk - 1)
          case measure => omega
          case rel => exact ⟨k + 1, (x + cc + y) / 4294967296, _, by go_num, by congr 1 <;> omega, by omega, by omega, by omega, hB.setCell (Nat.le_refl _) _, K2.out, K3, K1⟩
        · have hlt3 : ¬ (k : Int) < (m2 : Int) := by omega
          obtain ⟨x, hx⟩ : ∃ x, x = g k := ⟨_, rfl⟩
          have K1 := key 0 (by unfold padded; rw [if_neg hlt2])
          have K2 := hid (hrw (x + cc + 0) (((x : Int) + cc) % 4294967296) (by omega))
          have K3 := hob (x + cc + 0)
          rw [← hx] at e0 q1 K1
          clear key hrw hob hx
          go_wp2
          go_roundg (gk - 1)
          case measure => omega
          case rel => exact ⟨k + 1, (x + cc + 0) / 4294967296, _, by go_num, by congr 1 <;> omega, by omega, by omega, by omega, hB.setCell (Nat.le_refl _) _, K2.out, K3, K1⟩
      · obtain rfl : k = m := by omega
        have y0 := hrow.cell (i := k) (by omega)
        have z0 := hrow.frozen k
        have e2 : (k : Int) < (k : Int) + 1 := by omega
        have HS : Hid (nv f n + nv f2 n2 = nv (upd o k cc) (k + 1)) := by
          show _ = _
          simp only [nv]
          rw [nv_upd_ge (Nat.le_refl _), upd_same, HV.out, nv_padded g2 hm, hsum.out]
        have hrow2 : (wr.setCell ⟨w.heap.size, k, none⟩ (.int .u32 (cc : Nat))).rowIs w.heap.size 77 (k + 1) (fun i => .int .u32 (upd o k cc i : Nat)) := by
          refine (hrow.set k _).congr fun i _ => ?_
          unfold upd
          by_cases e : i = k
          · rw [if_pos e, if_pos e]
          · rw [if_neg e, if_neg e]
        have hob : Hid (∀ i, i < k + 1 → upd o k cc i < 4294967296) := fun i _ => by
          unfold upd
          split
          · omega
          · exact HO.out i
        have hB2 : Below w.heap.size w (wr.setCell ⟨w.heap.size, k, none⟩ (.int .u32 (cc : Nat))) := hB.setCell (Nat.le_refl _) _
        go_wp2_with fail
        refine (short_any (some ⟨w.heap.size, 0, none⟩) (k + 1) (k + 1) (upd o k cc) _ (lims_row hrow2) hob (Nat.le_refl _) (by unfold maxLen; omega)).mono ?_
        rintro e w1 ⟨rfl, hR, rfl⟩
        rw [← HS.out] at hR ⊢
        have hdl : dl (nv f n + nv f2 n2) ≤ k + 1 := by rw [HS.out]; exact dl_le (nv_lt hob.out)
        clear hrow hrow2 hB HV HO y0 z0
        go_wp2
        go_ret
        exact ⟨_, _, rfl, Nat.le_refl _, by unfold maxLen; omega, hR, hB2⟩

/-- A list of numbers in memory: a slice of slices. -/
def NatTab (w : World) (B : Nat) (T : Option Addr) (m : Nat) (x : Nat → Nat) : Prop :=
  ∀ v, v < m → ∃ b off A c, T = some ⟨b, off, none⟩ ∧ b < B ∧ w.cell? ⟨b, off + v, none⟩ = some (.slice A (dl (x v)) c) ∧ dl (x v) ≤ c ∧ c ≤ maxLen ∧ NatOk w B A (x v)
theorem NatTab.on {w w' : World} {T : Option Addr} {m : Nat} {x : Nat → Nat} (h : NatTab w w.heap.size T m x) (hb : Below w.heap.size w w') : NatTab w' w'.heap.size T m x := fun v hv => by
  obtain ⟨b, off, A, c, e, h1, h2, h3, h4, h5⟩ := h v hv
  have := hb.size
  exact ⟨b, off, A, c, e, by omega, by rw [hb.cell (by simp; omega)]; exact h2, h3, h4, h5.on hb⟩
/-- The sum of the first k. -/
def sumN (x : Nat → Nat) : Nat → Nat
  | 0 => 0
  | k + 1 => sumN x k + x k
theorem dg_all (x : Nat) : Hid (∀ i, i < dl x → dg x i < 4294967296) := fun i _ => dg_lt x i

theorem plus_nat (A A2 : Option Addr) (c c2 x y : Nat) (w : World) (h : NatOk w w.heap.size A x) (h2 : NatOk w w.heap.size A2 y) (hn : dl x ≤ 536870912) (hn2 : dl y ≤ 536870912) :
    Calls Try.prog 115 #[.slice A (dl x) c, .slice A2 (dl y) c2] w (NatPost (x + y) w) := by
  have := plus_any A A2 (dl x) c (dl y) c2 (dg x) (dg y) w h h2 (dg_all x) (dg_all y) hn hn2
  rwa [nv_dg, nv_dg] at this
theorem short_nat (A : Option Addr) (c x : Nat) (w : World) (h : NatOk w w.heap.size A x) (hc : dl x ≤ c) (hm : c ≤ maxLen) :
    Calls Try.prog 107 #[.slice A (dl x) c] w fun e w' => e = .returned (.slice A (dl x) (dl x)) ∧ w = w' := by
  refine (short_any A (dl x) c (dg x) w h (dg_all x) hc hm).mono ?_
  rintro e w' ⟨he, _, hw⟩
  rw [nv_dg] at he
  exact ⟨he, hw⟩
theorem trim_nat (A : Option Addr) (c x : Nat) (w : World) (h : NatOk w w.heap.size A x) (hc : dl x ≤ c) (hm : c ≤ maxLen) (hn : dl x ≤ 1073741824) :
    Calls Try.prog 111 #[.slice A (dl x) c] w (NatPost x w) := by
  have := trim_any A (dl x) c (dg x) w h (dg_all x) hc hm hn
  rwa [nv_dg] at this

set_option maxHeartbeats 4000000 in
theorem natAdd_any (T : Option Addr) (m c : Nat) (x : Nat → Nat) (w : World) (h : NatTab w w.heap.size T m x) (hm : m ≤ 1048576) (hs : Hid (∀ k, k ≤ m → dl (sumN x k) ≤ 536870912)) (hx : Hid (∀ k, k < m → dl (x k) ≤ 536870912)) :
    Calls Try.prog 86 #[.slice T m c] w (NatPost (sumN x m) w) := by
  go_enter Try.func86, Try.ntmps86
  go_wp2
  go_loopg [8, 3] m (fun g iv sv wx => ∃ k : Nat, ∃ A c, iv = .int .i64 (k : Nat) ∧ sv = .slice A (dl (sumN x k)) c ∧ k ≤ m ∧ m ≤ k + g ∧ dl (sumN x k) ≤ c ∧ c ≤ maxLen ∧ NatOk wx wx.heap.size A (sumN x k) ∧ Below w.heap.size w wx)
  case atStart => exact ⟨0, none, 0, rfl, by simp [sumN, dl_zero], by omega, by omega, by simp [sumN, dl_zero], by omega, fun i hi => absurd hi (by simp [sumN, dl_zero]), Below.refl _ _⟩
  case round =>
    obtain ⟨k, A, cA, rfl, rfl, hk, hkg, hc, hcm, hA, hB⟩ := hrel
    by_cases hlt : k < m
    · obtain ⟨b, off, B, cB, rfl, hb, e0, hcB, hcB2, hBk⟩ := (h.on hB) k hlt
      have hlt' : (k : Int) < (m : Int) := by omega
      have H1 := hs.out k hk
      have H2 := hx.out k hlt
      go_wp2_with fail
      refine (short_nat B cB (x k) wr hBk hcB hcB2).mono ?_
      rintro e w1 ⟨rfl, rfl⟩
      go_wp2_with fail
      refine (plus_nat A B cA (dl (x k)) (sumN x k) (x k) wr hA hBk H1 H2).mono ?_
      rintro e w1 ⟨A', c', rfl, g1, g2, g3, g4⟩
      have hB2 := onS hB g4
      clear g4 hA hB hBk e0
      go_wp2
      go_roundg (gk - 1)
      case measure => omega
      case rel => exact ⟨k + 1, A', c', by go_num, rfl, by omega, by omega, g1, g2, g3, hB2⟩
    · obtain rfl : k = m := by omega
      have H1 := hs.out k (Nat.le_refl _)
      go_wp2_with fail
      refine (trim_nat A cA (sumN x k) wr hA hc hcm (by omega)).mono ?_
      rintro e w1 ⟨A', c', rfl, g1, g2, g3, g4⟩
      have hB2 := onS hB g4
      clear g4
      go_wp2
      go_ret
      exact ⟨A', c', rfl, g1, g2, g3, hB2⟩
end Go.Proofs.Ytgininddoalenaa
