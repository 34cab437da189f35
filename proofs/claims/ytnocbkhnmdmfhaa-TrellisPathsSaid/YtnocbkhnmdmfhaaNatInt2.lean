/- nat.Int. -/
import Derived.Test.YtnocbkhnmdmfhaaNatInt
namespace Go.Proofs.Ytnocbkhnmdmfhaa
open Go.RowKit

theorem wrap_limb {l : Nat} (h : l < 4294967296) : IntKind.i64.wrap (l : Int) = (l : Int) ∧ wrap64 (l : Int) = (l : Int) :=
  ⟨by rw [IntKind.wrap_i64]; omega, by unfold wrap64; omega⟩
set_option maxRecDepth 100000 in
set_option maxHeartbeats 4000000 in
theorem natInt_any (A : Option Addr) (c x : Nat) (w : World) (h : NatOk w w.heap.size A x) (hc : dl x ≤ c) (hm : c ≤ maxLen) (hn : dl x ≤ 1073741824) :
    Calls Try.prog 64 #[.slice A (dl x) c] w fun e w' => IntPost x e ∧ Below w.heap.size w w' := by
  have hdm : dl x ≤ maxLen := by unfold maxLen; omega
  go_enter Try.func64, Try.ntmps64
  go_wp2_with fail
  refine (short_nat A c x w h hc hm).mono ?_
  rintro e w1 ⟨rfl, rfl⟩
  go_wp2_with fail
  refine (natBits_any A (dl x) x w h (Nat.le_refl _) hdm hn).mono ?_
  rintro e w1 ⟨rfl, rfl⟩
  by_cases hb : 63 < nlen x
  · have hx := hid (nlen_63.1 hb)
    have hb' : (nlen x : Int) > 63 := by omega
    clear hb
    go_wp2
    go_ret2
    exact ⟨.inr ⟨hx.out, rfl⟩, Below.refl _ _⟩
  · have hx : x < 9223372036854775808 := by
      by_cases e : x < 9223372036854775808
      · exact e
      · exact absurd (nlen_63.2 (by omega)) hb
    have hb' : ¬ (nlen x : Int) > 63 := by omega
    have hd : dl x ≤ 2 := dl_le (by omega)
    have HXX := hid hx
    clear hb
    obtain ⟨n, hn1⟩ : ∃ n, n = dl x := ⟨_, rfl⟩
    rw [← hn1] at hd hn ⊢
    have HN := hid hn1
    have hv0 : Hid (hv (dg x) n n = 0) := hv_end _ _
    clear hn1 hc hdm hx
    go_wp2
    go_loopg [4, 5] n (fun g nv' iv wx => ∃ t v : Nat, iv = .int .i64 ((t : Int) - 1) ∧ nv' = .int .i64 (v : Nat) ∧ t ≤ n ∧ t ≤ g ∧ v = hv (dg x) t n ∧ wx = w)
    case atStart => exact ⟨n, 0, by go_num, rfl, Nat.le_refl _, Nat.le_refl _, hv0.out.symm, rfl⟩
    case round =>
      obtain ⟨t, v, rfl, rfl, ht, htg, hve, rfl⟩ := hrel
      have HV := hid hve
      clear hve
      by_cases h0 : t = 0
      · have ht0 : ¬ (t : Int) - 1 ≥ 0 := by omega
        have hxv : Hid (v = x) := by
          show v = x
          rw [HV.out, h0, hv_all, HN.out, nv_dg]
        clear h0
        go_wp2
        go_ret2
        exact ⟨.inl ⟨HXX.out, by first | rfl | (rw [hxv.out]; rfl)⟩, Below.refl _ _⟩
      · obtain ⟨q, rfl⟩ : ∃ q, t = q + 1 := ⟨t - 1, by omega⟩
        obtain ⟨b, o, rfl, hb2, x0⟩ := Lims.at h (i := q) (by have := HN.out; omega)
        have hst := hv_step (f := dg x) (i := q) (n := n) (by omega)
        have hlm := dg_lt x q
        have hle : hv (dg x) q n < 9223372036854775808 := by
          have h1 : hv (dg x) q n ≤ nv (dg x) n := by
            match q, ht with
            | 0, _ => rw [hv_all]; exact Nat.le_refl _
            | 1, _ =>
              have h2 : nv (dg x) n = dg x 0 + 4294967296 * hv (dg x) 1 n := by rw [← hv_all]; exact hv_step (by omega)
              clear hst
              omega
            | q + 2, _ => omega
          have h2 : nv (dg x) n = x := by rw [HN.out, nv_dg]
          have := HXX.out
          omega
        rw [← HV.out] at hst
        obtain ⟨l, hl⟩ : ∃ l, l = dg x q := ⟨_, rfl⟩
        rw [← hl] at x0 hst hlm
        have hvs : v < 2147483648 := by omega
        have hor := or_limbs_i (r := v) (x := l) hvs hlm
        have hsh : IntKind.i64.wrap ((v : Int) * 4294967296) = (v : Int) * 4294967296 := IntWalk.i64_in _ (by omega)
        obtain ⟨hwl, hwl2⟩ := wrap_limb hlm
        have HST : Hid (v * 4294967296 + l = hv (dg x) q n) := by show _ = _; omega
        have hq0 : (0 : Int) ≤ (q : Int) := by omega
        have hqn : (q : Int) < (n : Int) := by omega
        clear h0 hl hst hle
        go_wp2
        go_roundg (gk - 1)
        case measure => omega
        case rel => exact ⟨q, v * 4294967296 + l, by go_num, rfl, by omega, by omega, HST.out, rfl⟩

end Go.Proofs.Ytnocbkhnmdmfhaa
