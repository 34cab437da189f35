/- flow.certified, flow.Check and codewrightref51.Accept. -/
import Derived.Test.YthdeldaeghhfgaaIsFlow
import Derived.Deep.RegionHeld3
namespace Go.Proofs.Ythdeldaeghhfgaa
open Go.RowKit

/-- The world behind the boxes of a network and of a flow. -/
def boxed (w : World) (N : Net) (A : Option Addr) (c : Nat) (val : Int) (F : Option Addr) (m d : Nat) (S : Option Addr) (ms ds : Nat) : World :=
  (w.alloc (Obj.cells #[Value.int IntKind.i64 N.V, Value.slice A N.n c] 24)).alloc (Obj.cells #[.int .i64 val, .slice F m d, .slice S ms ds] 39)

section
variable {w wr : World} {N : Net} {A F S : Option Addr} {c m d ms ds : Nat} {val : Int}
theorem boxed_start : Below (w.heap.size + 2) (boxed w N A c val F m d S ms ds) (boxed w N A c val F m d S ms ds) := Below.refl _ _
theorem boxed_size : (boxed w N A c val F m d S ms ds).heap.size = w.heap.size + 2 := by simp [boxed]
theorem boxed_lt (h : Below (w.heap.size + 2) (boxed w N A c val F m d S ms ds) wr) : w.heap.size + 2 ≤ wr.heap.size := by have := h.size; rw [boxed_size] at this; exact this
theorem boxed_below (h : Below (w.heap.size + 2) (boxed w N A c val F m d S ms ds) wr) : Below w.heap.size w wr :=
  (((Below.refl _ _).alloc (Nat.le_refl _) _).alloc (by simp) _).trans (h.mono (by omega))
theorem boxed_cells (h : Below (w.heap.size + 2) (boxed w N A c val F m d S ms ds) wr) :
    wr.cell? ⟨w.heap.size, 0, none⟩ = some (.int .i64 N.V) ∧ wr.cell? ⟨w.heap.size, 1, none⟩ = some (.slice A N.n c) ∧
    wr.cell? ⟨w.heap.size + 1, 0, none⟩ = some (.int .i64 val) ∧ wr.cell? ⟨w.heap.size + 1, 1, none⟩ = some (.slice F m d) ∧ wr.cell? ⟨w.heap.size + 1, 2, none⟩ = some (.slice S ms ds) := by
  refine ⟨?_, ?_, ?_, ?_, ?_⟩
  all_goals
    rw [h.cell (by simp)]
    unfold boxed
    simp [go_sem]
theorem boxed_on {w' : World} (h : Below (w.heap.size + 2) (boxed w N A c val F m d S ms ds) wr) (hb : Below wr.heap.size wr w') : Below (w.heap.size + 2) (boxed w N A c val F m d S ms ds) w' := h.trans (hb.mono (boxed_lt h))
theorem boxed_alloc (h : Below (w.heap.size + 2) (boxed w N A c val F m d S ms ds) wr) (o : Obj) : Below (w.heap.size + 2) (boxed w N A c val F m d S ms ds) (wr.alloc o) := h.alloc (boxed_lt h) o
end

set_option maxHeartbeats 4000000 in
theorem certified_any (N : Net) (A F S : Option Addr) (c m d ms ds : Nat) (s t val : Int) (f : Nat → Int) (sd : Nat → Bool) (w : World) (h : N.Reads w w.heap.size A) (hf : Ints w w.heap.size F m f) (hs : Bools w w.heap.size S ms sd) (he : N.Ends s t) :
    Calls Try.prog 39 #[.agg #[.int .i64 N.V, .slice A N.n c], .int .i64 s, .int .i64 t, .agg #[.int .i64 val, .slice F m d, .slice S ms ds]] w fun e w' => Tells (N.Cert s t val m f ms sd) e ∧ Below w.heap.size w w' := by
  obtain ⟨hg, s0, s1, t0, t1, hne⟩ := he
  have hn := hg.n2
  have v1 := hg.v1
  have v2 := hg.v2
  have hbx : Below w.heap.size w (boxed w N A c val F m d S ms ds) := boxed_below boxed_start
  by_cases hm : m = N.n
  · subst hm
    have hm' : ((N.n : Int) != (N.n : Int)) = false := by simp
    by_cases hms : (ms : Int) = N.V
    · have hms' : ((ms : Int) != N.V) = false := by simp [hms]
      have s1' : s < (ms : Int) := by omega
      have t1' : t < (ms : Int) := by omega
      have HM := hid hms
      obtain ⟨b, off, rfl, hb, e0⟩ := hs.at (i := s.toNat) (by omega)
      obtain ⟨_, e1⟩ := hs.cell (i := t.toNat) (by omega)
      clear hms
      cases hss : sd s.toNat
      · have HF := hid (show ¬ N.Cert s t val N.n f ms sd from fun h => by rw [h.2.1.2.1] at hss; cases hss)
        go_enter Try.func39, Try.ntmps39
        go_wp2
        go_ret
        exact ⟨tells_false HF.out, ((Below.refl _ _).alloc (Nat.le_refl _) _).alloc (by simp) _⟩
      · cases htt : sd t.toNat
        · have HT := hid (show N.CutP s t ms sd from ⟨HM.out, hss, htt⟩)
          go_enter Try.func39, Try.ntmps39
          go_wp2
          clear e0 e1 hss htt
          go_loopw [46] (fun i wr => ∃ k : Nat, k ≤ N.n ∧ i = .int .i64 k ∧ Hid (∀ j, j < k → 0 ≤ f j ∧ f j ≤ N.cp j) ∧ Below (w.heap.size + 2) (boxed w N A c val F N.n d (some ⟨b, off, none⟩) ms ds) wr) (fun i wr => N.n - (intOf i).toNat)
          case atStart => exact ⟨0, by omega, rfl, hid fun j hj => absurd hj (by omega), boxed_start⟩
          case round =>
            obtain ⟨k, hk, rfl, hin, hB⟩ := hrel
            have hlt2 := boxed_lt hB
            have hB' := boxed_below hB
            obtain ⟨p0, p1, p2, p3, p4⟩ := boxed_cells hB
            have z0 : w.heap.size < wr.heap.size := by omega
            have z1 : w.heap.size + 1 < wr.heap.size := by omega
            by_cases hlt : k < N.n
            · obtain ⟨b1, off1, rfl, hb1, a0, a1, a2⟩ := (h.on hB').at hlt
              obtain ⟨b', off', rfl, hb', e3⟩ := (hf.on hB').at hlt
              have hki : (k : Int) < (N.n : Int) := by omega
              by_cases q1 : f k < 0
              · have HF := hid (show ¬ N.Cert s t val N.n f ms sd from fun hh => by have := (hh.1.2.1 k hlt).1; omega)
                have qd : decide (f k < 0) = true := by simpa using q1
                go_wp2
                go_quiet (fail)
                go_wp2
                go_ret
                exact ⟨tells_false HF.out, below_drewN (hB'.alloc (by omega) _) _⟩
              · have qd : decide (f k < 0) = false := by simpa using q1
                by_cases q2 : N.cp k < f k
                · have HF := hid (show ¬ N.Cert s t val N.n f ms sd from fun hh => by have := (hh.1.2.1 k hlt).2; omega)
                  go_wp2
                  go_quiet (fail)
                  go_wp2
                  go_ret
                  exact ⟨tells_false HF.out, below_drewN (hB'.alloc (by omega) _) _⟩
                · have hin1 : Hid (∀ j, j < k + 1 → 0 ≤ f j ∧ f j ≤ N.cp j) := fun j hj => by
                    by_cases e : j = k
                    · subst e; omega
                    · exact hin.out j (by omega)
                  clear hin
                  go_wp2
                  go_quiet (fail)
                  go_wp2
                  go_roundw
                  case rel => exact ⟨k + 1, by omega, by go_num, hin1, below_drewN (boxed_alloc hB _) _⟩
                  case measure => simp [intOf]; omega
            · obtain rfl : k = N.n := by omega
              clear hlt hk
              go_wp2_with fail
              refine (net_any N A F c d f wr (h.on hB') (hf.on hB') hg (fun i hi => by have := hin.out i hi; have := hg.arc i hi; omega)).mono ?_
              rintro e w2 ⟨rfl, hb2, hrow⟩
              have hB2 := boxed_on hB hb2
              have hB2' := boxed_below hB2
              obtain ⟨r0, r1, r2, r3, r4⟩ := boxed_cells hB2
              have hlt3 := boxed_lt hB2
              clear p0 p1 p2 p3 p4
              have hZ : Hid (N.V.toNat ≤ 256) := by show _ ≤ _; omega
              go_wp2
              go_loop [73] (fun i => ∃ k : Nat, k ≤ N.V.toNat ∧ i = .int .i64 k ∧ Hid (∀ v : Nat, v < k → ((v : Int) = s → N.netAt f v N.n = val) ∧ ((v : Int) ≠ s → (v : Int) ≠ t → N.netAt f v N.n = 0))) (fun i => N.V.toNat - (intOf i).toNat)
              case atStart => exact ⟨0, by omega, rfl, hid fun j hj => absurd hj (by omega)⟩
              case round =>
                obtain ⟨k, hk, rfl, hz0⟩ := hrel
                have hkb := hZ.out
                by_cases hlt : k < N.V.toNat
                · have hkV : (k : Int) < N.V := by omega
                  have y0 : w2.cell? ⟨wr.heap.size + 1, k, none⟩ = some (.int .i64 (N.netAt f k N.n)) := hrow.cell hlt
                  have hlt' : (k : Int) < (N.V.toNat : Int) := by omega
                  have step : (((k : Int) = s → N.netAt f k N.n = val) ∧ ((k : Int) ≠ s → (k : Int) ≠ t → N.netAt f k N.n = 0)) → Hid (∀ v : Nat, v < k + 1 → ((v : Int) = s → N.netAt f v N.n = val) ∧ ((v : Int) ≠ s → (v : Int) ≠ t → N.netAt f v N.n = 0)) := fun hor v hv => by
                    by_cases e : v = k
                    · subst e; exact hor
                    · exact hz0.out v (by omega)
                  by_cases q1 : (k : Int) = s
                  · have q1' : ((k : Int) == s) = true := by simp [q1]
                    have q1'' : ((k : Int) != s) = false := by simp [q1]
                    by_cases q3 : N.netAt f k N.n = val
                    · have q3' : (N.netAt f k N.n != val) = false := by simp [q3]
                      have hs := step ⟨fun _ => q3, fun e => absurd q1 e⟩
                      clear q1 step q3
                      go_wp2
                      go_round
                      case rel => exact ⟨k + 1, by omega, by go_num, hs⟩
                      case measure => simp [intOf]; omega
                    · have q3' : (N.netAt f k N.n != val) = true := by simpa using q3
                      have HF := hid (show ¬ N.Cert s t val N.n f ms sd from fun hh => q3 (by rw [q1]; exact hh.2.2.1))
                      clear q1 step q3
                      go_wp2
                      go_ret
                      exact ⟨tells_false HF.out, hB2'⟩
                  · have q1' : ((k : Int) == s) = false := by simpa using q1
                    have q1'' : ((k : Int) != s) = true := by simpa using q1
                    by_cases q2 : (k : Int) = t
                    · have hs := step ⟨fun e => absurd e q1, fun _ e => absurd q2 e⟩
                      have q2' : ((k : Int) != t) = false := by simp [q2]
                      clear q1 q2 step
                      go_wp2
                      go_round
                      case rel => exact ⟨k + 1, by omega, by go_num, hs⟩
                      case measure => simp [intOf]; omega
                    · have q2' : ((k : Int) != t) = true := by simpa using q2
                      by_cases q3 : N.netAt f k N.n = 0
                      · have hs := step ⟨fun e => absurd e q1, fun _ _ => q3⟩
                        have q3' : (N.netAt f k N.n != 0) = false := by simp [q3]
                        clear q1 q2 q3 step
                        go_wp2
                        go_round
                        case rel => exact ⟨k + 1, by omega, by go_num, hs⟩
                        case measure => simp [intOf]; omega
                      · have HF := hid (show ¬ N.Cert s t val N.n f ms sd from fun hh => q3 (hh.1.2.2 k hkV q1 q2))
                        have q3' : (N.netAt f k N.n != 0) = true := by simpa using q3
                        clear q1 q2 q3 step
                        go_wp2
                        go_ret
                        exact ⟨tells_false HF.out, hB2'⟩
                · have hge : N.V ≤ (k : Int) := by omega
                  have hFP : N.FlowP s t N.n f := ⟨rfl, hin.out, fun v hv h1 h2 => (hz0.out v (by omega)).2 h1 h2⟩
                  have hval : N.netAt f s N.n = val := by
                    have := (hz0.out s.toNat (by omega)).1 (by omega)
                    rwa [show ((s.toNat : Nat) : Int) = s by omega] at this
                  by_cases hcap : N.cap sd = val
                  all_goals
                    first
                      | (have HT := hid (show N.Cert s t val N.n f ms sd from ⟨hFP, HT.out, hval, hcap⟩)
                         have hcap' : (N.cap sd == val) = true := by simpa using hcap)
                      | (have HF := hid (show ¬ N.Cert s t val N.n f ms sd from fun hh => hcap hh.2.2.2)
                         have hcap' : (N.cap sd == val) = false := by simpa using hcap)
                    clear hcap hval
                    go_wp2_with fail
                    go_region_held3 (fun w' => (w'.cell? ⟨w.heap.size, 0, none⟩ = some (.int .i64 N.V) ∧ w'.cell? ⟨w.heap.size, 1, none⟩ = some (.slice A N.n c) ∧
                        w'.cell? ⟨w.heap.size + 1, 0, none⟩ = some (.int .i64 val) ∧ w'.cell? ⟨w.heap.size + 1, 1, none⟩ = some (.slice F N.n d) ∧ w'.cell? ⟨w.heap.size + 1, 2, none⟩ = some (.slice (some ⟨b, off, none⟩) ms ds)) ∧ Below w.heap.size w w')
                      (first
                        | (go_split_ands; exact ⟨⟨cellS hb3 (by assumption), cellS hb3 (by assumption), cellS hb3 (by assumption), cellS hb3 (by assumption), cellS hb3 (by assumption)⟩, onS (by assumption) hb3⟩)
                        | exact ⟨⟨r0, r1, r2, r3, r4⟩, hB2'⟩
                        | exact ⟨⟨r0, r1, r2, r3, r4⟩, hB2'.drew⟩)
                      (first
                        | (go_at_call 34; (with_reducible refine (capacity_any N A (some ⟨b, off, none⟩) c ms ds sd _ ?_ ?_ hg HM).mono ?_); (first | exact h.on hB2'.drew | (go_split_ands; exact h.on (by assumption))); (first | exact hs.on hB2'.drew | (go_split_ands; exact hs.on (by assumption))); rintro e w3 ⟨rfl, hb3⟩))
                    go_wp2
                    go_ret
                    first | exact ⟨tells_true HT.out, by go_split_ands; assumption⟩ | exact ⟨tells_false HF.out, by go_split_ands; assumption⟩
        · have HF := hid (show ¬ N.Cert s t val N.n f ms sd from fun h => by rw [h.2.1.2.2] at htt; cases htt)
          go_enter Try.func39, Try.ntmps39
          go_wp2
          go_ret
          exact ⟨tells_false HF.out, ((Below.refl _ _).alloc (Nat.le_refl _) _).alloc (by simp) _⟩
    · have hms' : ((ms : Int) != N.V) = true := by simpa using hms
      have HF := hid (show ¬ N.Cert s t val N.n f ms sd from fun h => hms h.2.1.1)
      clear hms
      go_enter Try.func39, Try.ntmps39
      go_wp2
      go_ret
      exact ⟨tells_false HF.out, ((Below.refl _ _).alloc (Nat.le_refl _) _).alloc (by simp) _⟩
  · have hm' : ((m : Int) != (N.n : Int)) = true := by rw [bne_iff_ne]; omega
    have HF := hid (show ¬ N.Cert s t val m f ms sd from fun h => hm h.1.1)
    clear hm
    go_enter Try.func39, Try.ntmps39
    go_wp2
    go_ret
    exact ⟨tells_false HF.out, ((Below.refl _ _).alloc (Nat.le_refl _) _).alloc (by simp) _⟩
end Go.Proofs.Ythdeldaeghhfgaa
