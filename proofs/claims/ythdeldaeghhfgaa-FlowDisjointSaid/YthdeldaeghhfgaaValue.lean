/- flow.Value and codewrightref51.Value: what flows out of a vertex less what flows into it. -/
import Derived.Test.YthdeldaeghhfgaaFlowNet
import Derived.Test.YthdeldaeghhfgaaIndexFunc
namespace Go.Proofs.Ythdeldaeghhfgaa
open Go.RowKit

def Net.valE (N : Net) (m : Nat) (f : Nat → Int) (v : Int) : Int :=
  if N.chk = 0 then (if m = N.n then (if 0 ≤ idxTo outCap f m then 6 else if v < 0 ∨ N.V ≤ v then 6 else 0) else 3) else N.chk
def Net.valV (N : Net) (m : Nat) (f : Nat → Int) (v : Int) : Int := if N.valE m f v = 0 then N.netAt f v N.n else 0

theorem outCap_false {x : Int} (h : outCap x = false) : 0 ≤ x ∧ x ≤ 1099511627776 := by simp [outCap] at h; omega

theorem valE_chk {N : Net} {m : Nat} {f : Nat → Int} {v : Int} (h : N.chk ≠ 0) : N.valE m f v = N.chk ∧ N.valV m f v = 0 := by
  have : N.valE m f v = N.chk := by simp [Net.valE, h]
  exact ⟨this, by unfold Net.valV; rw [this, if_neg h]⟩
theorem valE_len {N : Net} {m : Nat} {f : Nat → Int} {v : Int} (h : N.chk = 0) (hm : m ≠ N.n) : N.valE m f v = 3 ∧ N.valV m f v = 0 := by
  have : N.valE m f v = 3 := by simp [Net.valE, h, hm]
  exact ⟨this, by simp [Net.valV, this]⟩
theorem valE_out {N : Net} {f : Nat → Int} {v : Int} (h : N.chk = 0) (hi : 0 ≤ idxTo outCap f N.n) : N.valE N.n f v = 6 ∧ N.valV N.n f v = 0 := by
  have : N.valE N.n f v = 6 := by simp [Net.valE, h, hi]
  exact ⟨this, by simp [Net.valV, this]⟩
theorem valE_v {N : Net} {f : Nat → Int} {v : Int} (h : N.chk = 0) (hv : v < 0 ∨ N.V ≤ v) : N.valE N.n f v = 6 ∧ N.valV N.n f v = 0 := by
  have : N.valE N.n f v = 6 := by simp [Net.valE, h, hv]
  exact ⟨this, by simp [Net.valV, this]⟩
theorem valE_ok {N : Net} {f : Nat → Int} {v : Int} (h : N.chk = 0) (hi : ¬ 0 ≤ idxTo outCap f N.n) (h1 : 0 ≤ v) (h2 : v < N.V) : N.valE N.n f v = 0 ∧ N.valV N.n f v = N.netAt f v N.n := by
  have : N.valE N.n f v = 0 := by
    have : ¬ (v < 0 ∨ N.V ≤ v) := by omega
    simp [Net.valE, h, hi, this]
  exact ⟨this, by simp [Net.valV, this]⟩
theorem idx_bd {f : Nat → Int} {n : Nat} (h : ¬ 0 ≤ idxTo outCap f n) : ∀ i, i < n → 0 ≤ f i ∧ f i ≤ 1099511627776 := by
  rcases idxTo_spec outCap f n with ⟨_, h2⟩ | ⟨i, _, h1, _⟩
  · exact fun i hi => outCap_false (h2 i hi)
  · omega

set_option maxHeartbeats 1000000 in
theorem value_any (N : Net) (A F : Option Addr) (c m d : Nat) (f : Nat → Int) (v : Int) (w : World) (h : N.Reads w w.heap.size A) (hf : Ints w w.heap.size F m f) :
    Calls Try.prog 19 #[.agg #[.int .i64 N.V, .slice A N.n c], .slice F m d, .int .i64 v] w fun e w' => e = .returned (.tuple #[.int .i64 (N.valV m f v), .int .i64 (N.valE m f v)]) ∧ Below w.heap.size w w' := by
  by_cases hc : N.chk = 0
  · have hg := Net.good_of_chk hc
    by_cases hm : m = N.n
    · subst hm
      have hn := hg.n2
      have hc' : (N.chk != 0) = false := by simp [hc]
      have hne : ((N.n : Int) != (N.n : Int)) = false := by simp
      by_cases hi : 0 ≤ idxTo outCap f N.n
      · obtain ⟨e1, e2⟩ := valE_out (v := v) hc hi
        have E1 := hid e1; have E2 := hid e2
        clear e1 e2 hc
        go_enter Try.func19, Try.ntmps19
        go_wp2_with fail
        refine (checkNetwork_any N A c _ ((h.alloc (Nat.le_refl _) _).mono (by simp))).mono ?_
        rintro e w1 ⟨rfl, hb⟩
        have hB : Below w.heap.size w w1 := onS ((Below.refl _ _).alloc (Nat.le_refl _) _) hb
        have c1 : w1.cell? ⟨w.heap.size, 1, none⟩ = some (.slice A N.n c) := cellS hb (by simp)
        go_wp2_with fail
        refine (containsFunc_any 36 outCap (fun _ _ => by kernel_rfl) value1_any F N.n d f w1 (hf.on hB) hn).mono ?_
        rintro e w2 ⟨rfl, rfl⟩
        go_wp2
        go_ret2
        exact ⟨ret2_int E2.out.symm E1.out.symm, hB⟩
      · have HI := hid (idx_bd hi)
        by_cases hv : v < 0 ∨ N.V ≤ v
        · obtain ⟨e1, e2⟩ := valE_v (f := f) hc hv
          have E1 := hid e1; have E2 := hid e2
          clear e1 e2 hc
          rcases hv with hv | hv
          all_goals
            go_enter Try.func19, Try.ntmps19
            go_wp2_with fail
            refine (checkNetwork_any N A c _ ((h.alloc (Nat.le_refl _) _).mono (by simp))).mono ?_
            rintro e w1 ⟨rfl, hb⟩
            have hB : Below w.heap.size w w1 := onS ((Below.refl _ _).alloc (Nat.le_refl _) _) hb
            have c0 : w1.cell? ⟨w.heap.size, 0, none⟩ = some (.int .i64 N.V) := cellS hb (by simp)
            have c1 : w1.cell? ⟨w.heap.size, 1, none⟩ = some (.slice A N.n c) := cellS hb (by simp)
            go_wp2_with fail
            refine (containsFunc_any 36 outCap (fun _ _ => by kernel_rfl) value1_any F N.n d f w1 (hf.on hB) hn).mono ?_
            rintro e w2 ⟨rfl, rfl⟩
            go_wp2
            all_goals
              go_ret2
              exact ⟨ret2_int E2.out.symm E1.out.symm, hB⟩
        · have h1 : 0 ≤ v := by omega
          have h2 : v < N.V := by omega
          obtain ⟨e1, e2⟩ := valE_ok hc hi h1 h2
          have E1 := hid e1; have E2 := hid e2
          have hv' : Hid ((v.toNat : Int) = v) := by show _ = _; omega
          have hv3 : v.toNat < N.V.toNat := by omega
          have hv4 : v < (N.V.toNat : Int) := by omega
          clear e1 e2 hc hv
          go_enter Try.func19, Try.ntmps19
          go_wp2_with fail
          refine (checkNetwork_any N A c _ ((h.alloc (Nat.le_refl _) _).mono (by simp))).mono ?_
          rintro e w1 ⟨rfl, hb⟩
          have hB : Below w.heap.size w w1 := onS ((Below.refl _ _).alloc (Nat.le_refl _) _) hb
          have c0 : w1.cell? ⟨w.heap.size, 0, none⟩ = some (.int .i64 N.V) := cellS hb (by simp)
          have c1 : w1.cell? ⟨w.heap.size, 1, none⟩ = some (.slice A N.n c) := cellS hb (by simp)
          go_wp2_with fail
          refine (containsFunc_any 36 outCap (fun _ _ => by kernel_rfl) value1_any F N.n d f w1 (hf.on hB) hn).mono ?_
          rintro e w2 ⟨rfl, rfl⟩
          go_wp2_with fail
          refine (net_any N A F c d f w1 (h.on hB) (hf.on hB) hg (fun i hi => by have := HI.out i hi; omega)).mono ?_
          rintro e w2 ⟨rfl, hb2, hrow⟩
          have hB2 := onS hB hb2
          have r0 : w2.cell? ⟨w1.heap.size + 1, v.toNat, none⟩ = some (.int .i64 (N.netAt f v N.n)) := by rw [hrow.cell hv3, hv'.out]
          go_wp2
          go_ret2
          exact ⟨ret2_int E2.out.symm E1.out.symm, hB2⟩
    · obtain ⟨e1, e2⟩ := valE_len (f := f) (v := v) hc hm
      have E1 := hid e1; have E2 := hid e2
      have hne : ((m : Int) != (N.n : Int)) = true := by rw [bne_iff_ne]; omega
      have hc' : (N.chk != 0) = false := by simp [hc]
      clear e1 e2 hm hc
      go_enter Try.func19, Try.ntmps19
      go_wp2_with fail
      refine (checkNetwork_any N A c _ ((h.alloc (Nat.le_refl _) _).mono (by simp))).mono ?_
      rintro e w1 ⟨rfl, hb⟩
      have hB : Below w.heap.size w w1 := onS ((Below.refl _ _).alloc (Nat.le_refl _) _) hb
      have c1 : w1.cell? ⟨w.heap.size, 1, none⟩ = some (.slice A N.n c) := cellS hb (by simp)
      go_wp2
      go_ret2
      exact ⟨ret2_int E2.out.symm E1.out.symm, hB⟩
  · obtain ⟨e1, e2⟩ := valE_chk (m := m) (f := f) (v := v) hc
    have E1 := hid e1; have E2 := hid e2
    have hc' : (N.chk != 0) = true := by simpa using hc
    clear e1 e2 hc
    go_enter Try.func19, Try.ntmps19
    go_wp2_with fail
    refine (checkNetwork_any N A c _ ((h.alloc (Nat.le_refl _) _).mono (by simp))).mono ?_
    rintro e w1 ⟨rfl, hb⟩
    have hB : Below w.heap.size w w1 := onS ((Below.refl _ _).alloc (Nat.le_refl _) _) hb
    go_wp2
    go_ret2
    exact ⟨ret2_int E2.out.symm E1.out.symm, hB⟩

set_option maxHeartbeats 1000000 in
theorem refValue_any (N : Net) (A F : Option Addr) (c m d : Nat) (f : Nat → Int) (v : Int) (w : World) (h : N.Reads w w.heap.size A) (hf : Ints w w.heap.size F m f) :
    Calls Try.prog 20 #[.agg #[.int .i64 N.V, .slice A N.n c], .slice F m d, .int .i64 v] w fun e w' => e = .returned (.tuple #[.int .i64 (N.valV m f v), .int .i64 (N.valE m f v)]) ∧ Below w.heap.size w w' := by
  by_cases hc : N.chk = 0
  · have hg := Net.good_of_chk hc
    by_cases hm : m = N.n
    · subst hm
      have hn := hg.n2
      have hc' : (N.chk != 0) = false := by simp [hc]
      have hne : ((N.n : Int) != (N.n : Int)) = false := by simp
      have hcc := hid hc
      clear hc
      go_enter Try.func20, Try.ntmps20
      go_wp2_with fail
      refine (check_any N A c _ ((h.alloc (Nat.le_refl _) _).mono (by simp))).mono ?_
      rintro e w1 ⟨rfl, hb⟩
      have hB : Below w.heap.size w w1 := onS ((Below.refl _ _).alloc (Nat.le_refl _) _) hb
      have c0 : w1.cell? ⟨w.heap.size, 0, none⟩ = some (.int .i64 N.V) := cellS hb (by simp)
      have c1 : w1.cell? ⟨w.heap.size, 1, none⟩ = some (.slice A N.n c) := cellS hb (by simp)
      go_wp2
      go_loop [9] (fun i => ∃ k : Nat, k ≤ N.n ∧ i = .int .i64 k ∧ idxTo outCap f k = -1) (fun i => N.n - (intOf i).toNat)
      case atStart => exact ⟨0, by omega, rfl, rfl⟩
      case round =>
        obtain ⟨k, hk, rfl, hi⟩ := hrel
        have hi' := hid hi
        clear hi
        by_cases hlt : k < N.n
        · obtain ⟨b, off, rfl, hb', e0⟩ := (hf.on hB).at hlt
          cases hq : outCap (f k)
          · have HQ := hid hq
            obtain ⟨q1, q2⟩ := outCap_false hq
            clear hq
            go_wp2
            go_round
            case rel => exact ⟨k + 1, by omega, by go_num, idxTo_step hi'.out HQ.out⟩
            case measure => simp [intOf]; omega
          · have hit := idxTo_hit hi'.out hq hlt
            obtain ⟨e1, e2⟩ := valE_out (v := v) hcc.out (by omega : 0 ≤ idxTo outCap f N.n)
            have E1 := hid e1; have E2 := hid e2
            have hq' : f k < 0 ∨ 1099511627776 < f k := by simpa [outCap] using hq
            clear e1 e2 hq hit
            rcases hq' with q | q
            all_goals
              go_wp2
              all_goals
                go_ret2
                exact ⟨ret2_int E2.out.symm E1.out.symm, hB⟩
        · obtain rfl : k = N.n := by omega
          have hni : ¬ 0 ≤ idxTo outCap f N.n := by have := hi'.out; omega
          have HI := hid (idx_bd hni)
          by_cases hv : v < 0 ∨ N.V ≤ v
          · obtain ⟨e1, e2⟩ := valE_v (f := f) hcc.out hv
            have E1 := hid e1; have E2 := hid e2
            clear e1 e2 hni
            rcases hv with hv | hv
            all_goals
              go_wp2
              all_goals
                go_ret2
                exact ⟨ret2_int E2.out.symm E1.out.symm, hB⟩
          · have h1 : 0 ≤ v := by omega
            have h2 : v < N.V := by omega
            obtain ⟨e1, e2⟩ := valE_ok hcc.out hni h1 h2
            have E1 := hid e1; have E2 := hid e2
            clear e1 e2 hni hv
            go_wp2
            go_loop [10, 11] (fun t i => ∃ k : Nat, k ≤ N.n ∧ i = .int .i64 k ∧ t = .int .i64 (N.netAt f v k)) (fun _ i => N.n - (intOf i).toNat)
            case atStart => exact ⟨0, by omega, rfl, rfl⟩
            case round =>
              obtain ⟨k, hk, rfl, rfl⟩ := hrel
              by_cases hlt : k < N.n
              · obtain ⟨g0, g1, g2, g3, g4, g5⟩ := hg.arc k hlt
                obtain ⟨b, off, rfl, hb, e0, e1, e2⟩ := (h.on hB).at hlt
                obtain ⟨b', off', rfl, hb', e3⟩ := (hf.on hB).at hlt
                obtain ⟨b0, b0'⟩ := HI.out k hlt
                have b1 := Net.netAt_bd f (fun i hi => by have := HI.out i hi; omega) v k hk
                have hnx : Hid (N.netAt f v (k + 1) = N.netAt f v k + (if N.fr k = v then f k else 0) - (if N.to k = v then f k else 0)) := rfl
                by_cases s1 : N.fr k = v
                · have s1' : (N.fr k == v) = true := by simpa using s1
                  have S1 := hid s1
                  clear s1
                  by_cases s2 : N.to k = v
                  · have s2' : (N.to k == v) = true := by simpa using s2
                    have S2 := hid s2
                    clear s2
                    go_wp2
                    go_round
                    case rel => exact ⟨k + 1, by omega, by go_num, by rw [hnx.out, if_pos S1.out, if_pos S2.out]; go_num⟩
                    case measure => simp [intOf]; omega
                  · have s2' : (N.to k == v) = false := by simpa using s2
                    have S2 := hid s2
                    clear s2
                    go_wp2
                    go_round
                    case rel => exact ⟨k + 1, by omega, by go_num, by rw [hnx.out, if_pos S1.out, if_neg S2.out, Int.sub_zero]⟩
                    case measure => simp [intOf]; omega
                · have s1' : (N.fr k == v) = false := by simpa using s1
                  have S1 := hid s1
                  clear s1
                  by_cases s2 : N.to k = v
                  · have s2' : (N.to k == v) = true := by simpa using s2
                    have S2 := hid s2
                    clear s2
                    go_wp2
                    go_round
                    case rel => exact ⟨k + 1, by omega, by go_num, by rw [hnx.out, if_neg S1.out, if_pos S2.out, Int.add_zero]⟩
                    case measure => simp [intOf]; omega
                  · have s2' : (N.to k == v) = false := by simpa using s2
                    have S2 := hid s2
                    clear s2
                    go_wp2
                    go_round
                    case rel => exact ⟨k + 1, by omega, by go_num, by rw [hnx.out, if_neg S1.out, if_neg S2.out, Int.add_zero, Int.sub_zero]⟩
                    case measure => simp [intOf]; omega
              · obtain rfl : k = N.n := by omega
                go_wp2
                go_ret2
                exact ⟨ret2_int E2.out.symm E1.out.symm, hB⟩
    · obtain ⟨e1, e2⟩ := valE_len (f := f) (v := v) hc hm
      have E1 := hid e1; have E2 := hid e2
      have hne : ((m : Int) != (N.n : Int)) = true := by rw [bne_iff_ne]; omega
      have hc' : (N.chk != 0) = false := by simp [hc]
      clear e1 e2 hm hc
      go_enter Try.func20, Try.ntmps20
      go_wp2_with fail
      refine (check_any N A c _ ((h.alloc (Nat.le_refl _) _).mono (by simp))).mono ?_
      rintro e w1 ⟨rfl, hb⟩
      have hB : Below w.heap.size w w1 := onS ((Below.refl _ _).alloc (Nat.le_refl _) _) hb
      have c1 : w1.cell? ⟨w.heap.size, 1, none⟩ = some (.slice A N.n c) := cellS hb (by simp)
      go_wp2
      go_ret2
      exact ⟨ret2_int E2.out.symm E1.out.symm, hB⟩
  · obtain ⟨e1, e2⟩ := valE_chk (m := m) (f := f) (v := v) hc
    have E1 := hid e1; have E2 := hid e2
    have hc' : (N.chk != 0) = true := by simpa using hc
    clear e1 e2 hc
    go_enter Try.func20, Try.ntmps20
    go_wp2_with fail
    refine (check_any N A c _ ((h.alloc (Nat.le_refl _) _).mono (by simp))).mono ?_
    rintro e w1 ⟨rfl, hb⟩
    have hB : Below w.heap.size w w1 := onS ((Below.refl _ _).alloc (Nat.le_refl _) _) hb
    go_wp2
    go_ret2
    exact ⟨ret2_int E2.out.symm E1.out.symm, hB⟩
end Go.Proofs.Ythdeldaeghhfgaa
