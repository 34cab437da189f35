/- codewrightref51.Ends, IsFlow and IsCut. -/
import Derived.Test.YthdeldaeghhfgaaValue
import Derived.Deep.QuietTactic
import Derived.BigQuiet
namespace Go.Proofs.Ythdeldaeghhfgaa
open Go.RowKit

theorem Net.netAt_bd2 {N : Net} (f : Nat → Int) (v : Int) (k : Nat) (hf : ∀ i, i < k → -1099511627776 ≤ f i ∧ f i ≤ 1099511627776) : -(k * 2199023255552) ≤ N.netAt f v k ∧ N.netAt f v k ≤ k * 2199023255552 := by
  induction k with
  | zero => simp [Net.netAt]
  | succ k ih =>
    have := hf k (by omega)
    have := ih fun i hi => hf i (by omega)
    simp only [Net.netAt]
    split <;> split <;> omega

/-- A function that answers one bool: it is true just where P holds. -/
def Tells (P : Prop) (e : Ending) : Prop := ∃ b : Bool, (b = true ↔ P) ∧ e = .returned (.bool b)
theorem tells_true {P : Prop} (h : P) : Tells P (.returned (.bool true)) := ⟨true, by simp [h], rfl⟩
theorem tells_false {P : Prop} (h : ¬ P) : Tells P (.returned (.bool false)) := ⟨false, by simp [h], rfl⟩

def Net.endsE (N : Net) (s t : Int) : Int := if N.chk = 0 then (if s < 0 ∨ N.V ≤ s ∨ t < 0 ∨ N.V ≤ t then 6 else if s = t then 10 else 0) else N.chk
theorem endsE_chk {N : Net} {s t : Int} (h : N.chk ≠ 0) : N.endsE s t = N.chk := by simp [Net.endsE, h]
theorem endsE_out {N : Net} {s t : Int} (h : N.chk = 0) (h' : s < 0 ∨ N.V ≤ s ∨ t < 0 ∨ N.V ≤ t) : N.endsE s t = 6 := by simp [Net.endsE, h, h']
theorem endsE_same {N : Net} {s t : Int} (h : N.chk = 0) (h' : ¬ (s < 0 ∨ N.V ≤ s ∨ t < 0 ∨ N.V ≤ t)) (e : s = t) : N.endsE s t = 10 := by unfold Net.endsE; rw [if_pos h, if_neg h', if_pos e]
theorem endsE_ok {N : Net} {s t : Int} (h : N.chk = 0) (h' : ¬ (s < 0 ∨ N.V ≤ s ∨ t < 0 ∨ N.V ≤ t)) (e : s ≠ t) : N.endsE s t = 0 := by unfold Net.endsE; rw [if_pos h, if_neg h', if_neg e]
/-- What it means that the ends are right. -/
structure Net.Ends (N : Net) (s t : Int) : Prop where
  good : N.Good
  s0 : 0 ≤ s
  s1 : s < N.V
  t0 : 0 ≤ t
  t1 : t < N.V
  ne : s ≠ t
theorem ends_of {N : Net} {s t : Int} (h : N.endsE s t = 0) : N.Ends s t := by
  by_cases hc : N.chk = 0
  · by_cases h' : s < 0 ∨ N.V ≤ s ∨ t < 0 ∨ N.V ≤ t
    · rw [endsE_out hc h'] at h; omega
    · by_cases e : s = t
      · rw [endsE_same hc h' e] at h; omega
      · exact ⟨Net.good_of_chk hc, by omega, by omega, by omega, by omega, e⟩
  · rw [endsE_chk hc] at h; exact absurd h hc

def Net.FlowP (N : Net) (s t : Int) (m : Nat) (f : Nat → Int) : Prop :=
  m = N.n ∧ (∀ i, i < N.n → 0 ≤ f i ∧ f i ≤ N.cp i) ∧ ∀ v : Nat, (v : Int) < N.V → (v : Int) ≠ s → (v : Int) ≠ t → N.netAt f v N.n = 0
def Net.CutP (N : Net) (s t : Int) (ms : Nat) (sd : Nat → Bool) : Prop := (ms : Int) = N.V ∧ sd s.toNat = true ∧ sd t.toNat = false
def Net.Cert (N : Net) (s t val : Int) (m : Nat) (f : Nat → Int) (ms : Nat) (sd : Nat → Bool) : Prop :=
  N.FlowP s t m f ∧ N.CutP s t ms sd ∧ N.netAt f s N.n = val ∧ N.cap sd = val

set_option maxHeartbeats 1000000 in
theorem refEnds_any (N : Net) (A : Option Addr) (c : Nat) (s t : Int) (w : World) (h : N.Reads w w.heap.size A) :
    Calls Try.prog 21 #[.agg #[.int .i64 N.V, .slice A N.n c], .int .i64 s, .int .i64 t] w fun e w' => e = .returned (.int .i64 (N.endsE s t)) ∧ Below w.heap.size w w' := by
  by_cases hc : N.chk = 0
  · have hc' : (N.chk != 0) = false := by simp [hc]
    by_cases h' : s < 0 ∨ N.V ≤ s ∨ t < 0 ∨ N.V ≤ t
    · have E := hid (endsE_out hc h')
      have H' := hid h'
      clear hc
      by_cases c1 : s < 0
      · go_enter Try.func21, Try.ntmps21
        go_wp2_with fail
        refine (check_any N A c _ ((h.alloc (Nat.le_refl _) _).mono (by simp))).mono ?_
        rintro e w1 ⟨rfl, hb⟩
        have hB : Below w.heap.size w w1 := onS ((Below.refl _ _).alloc (Nat.le_refl _) _) hb
        have c0 : w1.cell? ⟨w.heap.size, 0, none⟩ = some (.int .i64 N.V) := cellS hb (by simp)
        clear h'
        go_wp2
        all_goals (go_ret; exact ⟨ret_int E.out.symm, hB⟩)
      · by_cases c2 : N.V ≤ s
        · go_enter Try.func21, Try.ntmps21
          go_wp2_with fail
          refine (check_any N A c _ ((h.alloc (Nat.le_refl _) _).mono (by simp))).mono ?_
          rintro e w1 ⟨rfl, hb⟩
          have hB : Below w.heap.size w w1 := onS ((Below.refl _ _).alloc (Nat.le_refl _) _) hb
          have c0 : w1.cell? ⟨w.heap.size, 0, none⟩ = some (.int .i64 N.V) := cellS hb (by simp)
          clear h'
          go_wp2
          all_goals (go_ret; exact ⟨ret_int E.out.symm, hB⟩)
        · by_cases c3 : t < 0
          · go_enter Try.func21, Try.ntmps21
            go_wp2_with fail
            refine (check_any N A c _ ((h.alloc (Nat.le_refl _) _).mono (by simp))).mono ?_
            rintro e w1 ⟨rfl, hb⟩
            have hB : Below w.heap.size w w1 := onS ((Below.refl _ _).alloc (Nat.le_refl _) _) hb
            have c0 : w1.cell? ⟨w.heap.size, 0, none⟩ = some (.int .i64 N.V) := cellS hb (by simp)
            clear h'
            go_wp2
            all_goals (go_ret; exact ⟨ret_int E.out.symm, hB⟩)
          · have c4 : N.V ≤ t := by have := H'.out; omega
            go_enter Try.func21, Try.ntmps21
            go_wp2_with fail
            refine (check_any N A c _ ((h.alloc (Nat.le_refl _) _).mono (by simp))).mono ?_
            rintro e w1 ⟨rfl, hb⟩
            have hB : Below w.heap.size w w1 := onS ((Below.refl _ _).alloc (Nat.le_refl _) _) hb
            have c0 : w1.cell? ⟨w.heap.size, 0, none⟩ = some (.int .i64 N.V) := cellS hb (by simp)
            clear h'
            go_wp2
            all_goals (go_ret; exact ⟨ret_int E.out.symm, hB⟩)
    · have a1 : ¬ s < 0 := by omega
      have a2 : ¬ N.V ≤ s := by omega
      have a3 : ¬ t < 0 := by omega
      have a4 : ¬ N.V ≤ t := by omega
      by_cases est : s = t
      · have E := hid (endsE_same hc h' est)
        have es : (s == t) = true := by simpa using est
        clear est hc h'
        go_enter Try.func21, Try.ntmps21
        go_wp2_with fail
        refine (check_any N A c _ ((h.alloc (Nat.le_refl _) _).mono (by simp))).mono ?_
        rintro e w1 ⟨rfl, hb⟩
        have hB : Below w.heap.size w w1 := onS ((Below.refl _ _).alloc (Nat.le_refl _) _) hb
        have c0 : w1.cell? ⟨w.heap.size, 0, none⟩ = some (.int .i64 N.V) := cellS hb (by simp)
        go_wp2
        all_goals (go_ret; exact ⟨ret_int E.out.symm, hB⟩)
      · have E := hid (endsE_ok hc h' est)
        have es : (s == t) = false := by simpa using est
        clear est hc h'
        go_enter Try.func21, Try.ntmps21
        go_wp2_with fail
        refine (check_any N A c _ ((h.alloc (Nat.le_refl _) _).mono (by simp))).mono ?_
        rintro e w1 ⟨rfl, hb⟩
        have hB : Below w.heap.size w w1 := onS ((Below.refl _ _).alloc (Nat.le_refl _) _) hb
        have c0 : w1.cell? ⟨w.heap.size, 0, none⟩ = some (.int .i64 N.V) := cellS hb (by simp)
        go_wp2
        all_goals (go_ret; exact ⟨ret_int E.out.symm, hB⟩)
  · have E := hid (endsE_chk (s := s) (t := t) hc)
    have hc' : (N.chk != 0) = true := by simpa using hc
    clear hc
    go_enter Try.func21, Try.ntmps21
    go_wp2_with fail
    refine (check_any N A c _ ((h.alloc (Nat.le_refl _) _).mono (by simp))).mono ?_
    rintro e w1 ⟨rfl, hb⟩
    have hB : Below w.heap.size w w1 := onS ((Below.refl _ _).alloc (Nat.le_refl _) _) hb
    go_wp2
    go_ret
    exact ⟨ret_int E.out.symm, hB⟩
set_option maxHeartbeats 1000000 in
theorem ends_any (N : Net) (A : Option Addr) (c : Nat) (s t : Int) (w : World) (h : N.Reads w w.heap.size A) :
    Calls Try.prog 38 #[.agg #[.int .i64 N.V, .slice A N.n c], .int .i64 s, .int .i64 t] w fun e w' => e = .returned (.int .i64 (N.endsE s t)) ∧ Below w.heap.size w w' := by
  by_cases hc : N.chk = 0
  · have hc' : (N.chk != 0) = false := by simp [hc]
    by_cases h' : s < 0 ∨ N.V ≤ s ∨ t < 0 ∨ N.V ≤ t
    · have E := hid (endsE_out hc h')
      have H' := hid h'
      clear hc
      by_cases c1 : s < 0
      · go_enter Try.func38, Try.ntmps38
        go_wp2_with fail
        refine (checkNetwork_any N A c _ ((h.alloc (Nat.le_refl _) _).mono (by simp))).mono ?_
        rintro e w1 ⟨rfl, hb⟩
        have hB : Below w.heap.size w w1 := onS ((Below.refl _ _).alloc (Nat.le_refl _) _) hb
        have c0 : w1.cell? ⟨w.heap.size, 0, none⟩ = some (.int .i64 N.V) := cellS hb (by simp)
        clear h'
        go_wp2
        all_goals (go_ret; exact ⟨ret_int E.out.symm, hB⟩)
      · by_cases c2 : N.V ≤ s
        · go_enter Try.func38, Try.ntmps38
          go_wp2_with fail
          refine (checkNetwork_any N A c _ ((h.alloc (Nat.le_refl _) _).mono (by simp))).mono ?_
          rintro e w1 ⟨rfl, hb⟩
          have hB : Below w.heap.size w w1 := onS ((Below.refl _ _).alloc (Nat.le_refl _) _) hb
          have c0 : w1.cell? ⟨w.heap.size, 0, none⟩ = some (.int .i64 N.V) := cellS hb (by simp)
          clear h'
          go_wp2
          all_goals (go_ret; exact ⟨ret_int E.out.symm, hB⟩)
        · by_cases c3 : t < 0
          · go_enter Try.func38, Try.ntmps38
            go_wp2_with fail
            refine (checkNetwork_any N A c _ ((h.alloc (Nat.le_refl _) _).mono (by simp))).mono ?_
            rintro e w1 ⟨rfl, hb⟩
            have hB : Below w.heap.size w w1 := onS ((Below.refl _ _).alloc (Nat.le_refl _) _) hb
            have c0 : w1.cell? ⟨w.heap.size, 0, none⟩ = some (.int .i64 N.V) := cellS hb (by simp)
            clear h'
            go_wp2
            all_goals (go_ret; exact ⟨ret_int E.out.symm, hB⟩)
          · have c4 : N.V ≤ t := by have := H'.out; omega
            go_enter Try.func38, Try.ntmps38
            go_wp2_with fail
            refine (checkNetwork_any N A c _ ((h.alloc (Nat.le_refl _) _).mono (by simp))).mono ?_
            rintro e w1 ⟨rfl, hb⟩
            have hB : Below w.heap.size w w1 := onS ((Below.refl _ _).alloc (Nat.le_refl _) _) hb
            have c0 : w1.cell? ⟨w.heap.size, 0, none⟩ = some (.int .i64 N.V) := cellS hb (by simp)
            clear h'
            go_wp2
            all_goals (go_ret; exact ⟨ret_int E.out.symm, hB⟩)
    · have a1 : ¬ s < 0 := by omega
      have a2 : ¬ N.V ≤ s := by omega
      have a3 : ¬ t < 0 := by omega
      have a4 : ¬ N.V ≤ t := by omega
      by_cases est : s = t
      · have E := hid (endsE_same hc h' est)
        have es : (s == t) = true := by simpa using est
        clear est hc h'
        go_enter Try.func38, Try.ntmps38
        go_wp2_with fail
        refine (checkNetwork_any N A c _ ((h.alloc (Nat.le_refl _) _).mono (by simp))).mono ?_
        rintro e w1 ⟨rfl, hb⟩
        have hB : Below w.heap.size w w1 := onS ((Below.refl _ _).alloc (Nat.le_refl _) _) hb
        have c0 : w1.cell? ⟨w.heap.size, 0, none⟩ = some (.int .i64 N.V) := cellS hb (by simp)
        go_wp2
        all_goals (go_ret; exact ⟨ret_int E.out.symm, hB⟩)
      · have E := hid (endsE_ok hc h' est)
        have es : (s == t) = false := by simpa using est
        clear est hc h'
        go_enter Try.func38, Try.ntmps38
        go_wp2_with fail
        refine (checkNetwork_any N A c _ ((h.alloc (Nat.le_refl _) _).mono (by simp))).mono ?_
        rintro e w1 ⟨rfl, hb⟩
        have hB : Below w.heap.size w w1 := onS ((Below.refl _ _).alloc (Nat.le_refl _) _) hb
        have c0 : w1.cell? ⟨w.heap.size, 0, none⟩ = some (.int .i64 N.V) := cellS hb (by simp)
        go_wp2
        all_goals (go_ret; exact ⟨ret_int E.out.symm, hB⟩)
  · have E := hid (endsE_chk (s := s) (t := t) hc)
    have hc' : (N.chk != 0) = true := by simpa using hc
    clear hc
    go_enter Try.func38, Try.ntmps38
    go_wp2_with fail
    refine (checkNetwork_any N A c _ ((h.alloc (Nat.le_refl _) _).mono (by simp))).mono ?_
    rintro e w1 ⟨rfl, hb⟩
    have hB : Below w.heap.size w w1 := onS ((Below.refl _ _).alloc (Nat.le_refl _) _) hb
    go_wp2
    go_ret
    exact ⟨ret_int E.out.symm, hB⟩

set_option maxHeartbeats 1000000 in
theorem isCut_any (N : Net) (A S : Option Addr) (c ms ds : Nat) (s t : Int) (sd : Nat → Bool) (w : World) (hs : Bools w w.heap.size S ms sd) (he : N.Ends s t) :
    Calls Try.prog 23 #[.agg #[.int .i64 N.V, .slice A N.n c], .int .i64 s, .int .i64 t, .slice S ms ds] w fun e w' => Tells (N.CutP s t ms sd) e ∧ Below w.heap.size w w' := by
  obtain ⟨hg, s0, s1, t0, t1, hne⟩ := he
  by_cases hm : (ms : Int) = N.V
  · have hm' : ((ms : Int) == N.V) = true := by simp [hm]
    have s1' : s < (ms : Int) := by omega
    have t1' : t < (ms : Int) := by omega
    obtain ⟨b, off, rfl, hb, e0⟩ := hs.at (i := s.toNat) (by omega)
    obtain ⟨_, e1⟩ := hs.cell (i := t.toNat) (by omega)
    have HM := hid hm
    clear hm
    cases hss : sd s.toNat
    · have HF : ¬ N.CutP s t ms sd := fun h => by rw [h.2.1] at hss; cases hss
      have HF := hid HF
      go_enter Try.func23, Try.ntmps23
      go_wp2
      go_ret
      exact ⟨tells_false HF.out, (Below.refl _ _).alloc (Nat.le_refl _) _⟩
    · cases htt : sd t.toNat
      · have HT := hid (show N.CutP s t ms sd from ⟨HM.out, hss, htt⟩)
        go_enter Try.func23, Try.ntmps23
        go_wp2
        go_ret
        exact ⟨tells_true HT.out, (Below.refl _ _).alloc (Nat.le_refl _) _⟩
      · have HF : ¬ N.CutP s t ms sd := fun h => by rw [h.2.2] at htt; cases htt
        have HF := hid HF
        go_enter Try.func23, Try.ntmps23
        go_wp2
        go_ret
        exact ⟨tells_false HF.out, (Below.refl _ _).alloc (Nat.le_refl _) _⟩
  · have hm' : ((ms : Int) == N.V) = false := by simpa using hm
    have HF := hid (show ¬ N.CutP s t ms sd from fun h => hm h.1)
    clear hm
    go_enter Try.func23, Try.ntmps23
    go_wp2
    go_ret
    exact ⟨tells_false HF.out, (Below.refl _ _).alloc (Nat.le_refl _) _⟩

set_option maxHeartbeats 2000000 in
theorem isFlow_any (N : Net) (A F : Option Addr) (c m d : Nat) (s t : Int) (f : Nat → Int) (w : World) (h : N.Reads w w.heap.size A) (hf : Ints w w.heap.size F m f) (he : N.Ends s t) :
    Calls Try.prog 22 #[.agg #[.int .i64 N.V, .slice A N.n c], .int .i64 s, .int .i64 t, .slice F m d] w fun e w' => Tells (N.FlowP s t m f) e ∧ Below w.heap.size w w' := by
  obtain ⟨hg, s0, s1, t0, t1, hne⟩ := he
  have hn := hg.n2
  have v1 := hg.v1
  have v2 := hg.v2
  by_cases hm : m = N.n
  · subst hm
    have hm' : ((N.n : Int) != (N.n : Int)) = false := by simp
    have hmk := fun W => run_makeI (P := Try.prog) 33 3 _ 8 Try.underlying33 Try.infoInt rfl N.V (by omega) (by omega) (by omega) W
    go_enter Try.func22, Try.ntmps22
    go_wp2
    go_loopw [10] (fun i wr => ∃ k : Nat, k ≤ N.n ∧ i = .int .i64 k ∧ Hid (∀ j, j < k → 0 ≤ f j ∧ f j ≤ N.cp j) ∧ Below (w.heap.size + 1) (w.alloc (Obj.cells #[Value.int IntKind.i64 N.V, Value.slice A N.n c] 24)) wr ∧ wr.rowIs (w.heap.size + 1) 3 N.V.toNat (fun v => .int .i64 (N.netAt f v k))) (fun i wr => N.n - (intOf i).toNat)
    case atStart =>
      refine ⟨0, by omega, rfl, hid fun j hj => absurd hj (by omega), (Below.refl _ _).alloc (by simp) _, ?_⟩
      have := World.rowIs_made (w.alloc (Obj.cells #[Value.int IntKind.i64 N.V, Value.slice A N.n c] 24)) (.int .i64 0) N.V.toNat 3
      simpa [Net.netAt] using this
    case round =>
      obtain ⟨k, hk, rfl, hin, hB, hrow⟩ := hrel
      clear hmk
      have hz : w.heap.size + 1 < wr.heap.size := hrow.lt
      have hz' : w.heap.size < wr.heap.size := by omega
      have hB' : Below w.heap.size w wr := ((Below.refl _ _).alloc (Nat.le_refl _) _).trans (hB.mono (by omega))
      have ev : wr.cell? ⟨w.heap.size, 0, none⟩ = some (.int .i64 N.V) := by rw [hB.cell (by simp)]; simp
      have es : wr.cell? ⟨w.heap.size, 1, none⟩ = some (.slice A N.n c) := by rw [hB.cell (by simp)]; simp
      by_cases hlt : k < N.n
      · obtain ⟨g0, g1, g2, g3, g4, g5⟩ := hg.arc k hlt
        obtain ⟨b, off, rfl, hb, e0, e1, e2⟩ := (h.on hB').at hlt
        obtain ⟨b', off', rfl, hb', e3⟩ := (hf.on hB').at hlt
        have hki : (k : Int) < (N.n : Int) := by omega
        by_cases q1 : f k < 0
        · have HF := hid (show ¬ N.FlowP s t N.n f from fun hh => by have := (hh.2.1 k hlt).1; omega)
          have qd : decide (f k < 0) = true := by simpa using q1
          go_wp2
          go_quiet (fail)
          go_wp2
          go_ret
          exact ⟨tells_false HF.out, below_drewN hB' _⟩
        · have qd : decide (f k < 0) = false := by simpa using q1
          by_cases q2 : N.cp k < f k
          · have HF := hid (show ¬ N.FlowP s t N.n f from fun hh => by have := (hh.2.1 k hlt).2; omega)
            go_wp2
            go_quiet (fail)
            go_wp2
            go_ret
            exact ⟨tells_false HF.out, below_drewN hB' _⟩
          · have hin1 : Hid (∀ j, j < k + 1 → 0 ≤ f j ∧ f j ≤ N.cp j) := fun j hj => by
              by_cases e : j = k
              · subst e; omega
              · exact hin.out j (by omega)
            have hbd : ∀ j, j < k → -1099511627776 ≤ f j ∧ f j ≤ 1099511627776 := fun j hj => by
              have := hin.out j hj
              have := hg.arc j (by omega)
              omega
            have b0 : 0 ≤ f k ∧ f k ≤ 1099511627776 := by omega
            have b1 := Net.netAt_bd2 (N := N) f (N.fr k) k hbd
            have b2 := Net.netAt_bd2 (N := N) f (N.to k) k hbd
            have b3 : -3377699720527872 ≤ N.midAt f (N.to k) k ∧ N.midAt f (N.to k) k ≤ 3377699720527872 := by unfold Net.midAt; split <;> omega
            have t0' : Hid (((N.fr k).toNat : Int) = N.fr k) := by show _ = _; omega
            have t1' : Hid (((N.to k).toNat : Int) = N.to k) := by show _ = _; omega
            have c1 : wr.cell? ⟨w.heap.size + 1, (N.fr k).toNat, none⟩ = some (.int .i64 (N.netAt f (N.fr k) k)) := by rw [hrow.cell (by omega), t0'.out]
            have z1 := hrow.frozen (N.fr k).toNat
            clear hbd hin
            go_wp2
            go_quiet (fail)
            go_wp2
            go_region
            generalize hw2 : World.setCell _ _ _ = w2
            have hrow2 : w2.rowIs (w.heap.size + 1) 3 N.V.toNat (fun v => .int .i64 (N.midAt f v k)) := by
              rw [← hw2]
              refine ((rowIs_drewN hrow _).set _ _).congr fun v hv => ?_
              by_cases e : v = (N.fr k).toNat
              · subst e
                simp only [if_true, Net.midAt, t0'.out]
              · have : ¬ N.fr k = (v : Int) := by omega
                simp [e, Net.midAt, this]
            have hB2 : Below (w.heap.size + 1) (w.alloc (Obj.cells #[Value.int IntKind.i64 N.V, Value.slice (some ⟨b, off, none⟩) N.n c] 24)) w2 := by
              rw [← hw2]
              exact (below_drewN hB _).setCell (by simp) _
            have hB2' : Below w.heap.size w w2 := ((Below.refl _ _).alloc (Nat.le_refl _) _).trans (hB2.mono (by omega))
            have ev2 : w2.cell? ⟨w.heap.size, 0, none⟩ = some (.int .i64 N.V) := by rw [hB2.cell (by simp)]; simp
            have es2 : w2.cell? ⟨w.heap.size, 1, none⟩ = some (.slice (some ⟨b, off, none⟩) N.n c) := by rw [hB2.cell (by simp)]; simp
            obtain ⟨_, a0, a1, a2⟩ := (h.on hB2').cell hlt
            have a3 := ((hf.on hB2').cell hlt).2
            have c2 : w2.cell? ⟨w.heap.size + 1, (N.to k).toNat, none⟩ = some (.int .i64 (N.midAt f (N.to k) k)) := by rw [hrow2.cell (by omega), t1'.out]
            have z2 := hrow2.frozen (N.to k).toNat
            clear hw2 c1 z1 e0 e1 e2 e3
            go_wp2
            go_region
            generalize hw3 : World.drew _ = w3
            have hrow3 : w3.rowIs (w.heap.size + 1) 3 N.V.toNat (fun v => .int .i64 (N.netAt f v (k + 1))) := by
              rw [← hw3]
              refine (hrow2.set _ _).drew.congr fun v hv => ?_
              by_cases e : v = (N.to k).toNat
              · subst e
                simp only [if_true, Net.netAt_succ, t1'.out]
              · have : ¬ N.to k = (v : Int) := by omega
                simp [e, Net.netAt_succ, this]
            have hB3 : Below (w.heap.size + 1) (w.alloc (Obj.cells #[Value.int IntKind.i64 N.V, Value.slice (some ⟨b, off, none⟩) N.n c] 24)) w3 := by
              rw [← hw3]
              exact (hB2.setCell (by simp) _).drew
            clear hw3 c2 z2 a0 a1 a2 a3
            go_wp2
            go_roundw
            case rel => exact ⟨k + 1, by omega, by go_num, hin1, hB3, hrow3⟩
            case measure => simp [intOf]; omega
      · obtain rfl : k = N.n := by omega
        clear hlt
        have hZ : Hid (N.V.toNat ≤ 256) := by show _ ≤ _; omega
        go_wp2
        go_loop [11] (fun i => ∃ k : Nat, k ≤ N.V.toNat ∧ i = .int .i64 k ∧ Hid (∀ v : Nat, v < k → (v : Int) ≠ s → (v : Int) ≠ t → N.netAt f v N.n = 0)) (fun i => N.V.toNat - (intOf i).toNat)
        case atStart => exact ⟨0, by omega, rfl, hid fun j hj => absurd hj (by omega)⟩
        case round =>
          obtain ⟨k, hk, rfl, hz0⟩ := hrel
          have hkb := hZ.out
          by_cases hlt : k < N.V.toNat
          · have hkV : (k : Int) < N.V := by omega
            have r0 : wr.cell? ⟨w.heap.size + 1, k, none⟩ = some (.int .i64 (N.netAt f k N.n)) := hrow.cell hlt
            have hlt' : (k : Int) < (N.V.toNat : Int) := by omega
            have step : ((k : Int) = s ∨ (k : Int) = t ∨ N.netAt f k N.n = 0) → Hid (∀ v : Nat, v < k + 1 → (v : Int) ≠ s → (v : Int) ≠ t → N.netAt f v N.n = 0) := fun hor v hv h1 h2 => by
              by_cases e : v = k
              · subst e; rcases hor with h | h | h
                · exact absurd h h1
                · exact absurd h h2
                · exact h
              · exact hz0.out v (by omega) h1 h2
            by_cases q1 : (k : Int) = s
            · have hs := step (.inl q1)
              have q1' : ((k : Int) != s) = false := by simp [q1]
              clear q1 step
              go_wp2
              go_round
              case rel => exact ⟨k + 1, by omega, by go_num, hs⟩
              case measure => simp [intOf]; omega
            · have q1' : ((k : Int) != s) = true := by simpa using q1
              by_cases q2 : (k : Int) = t
              · have hs := step (.inr (.inl q2))
                have q2' : ((k : Int) != t) = false := by simp [q2]
                clear q1 q2 step
                go_wp2
                go_round
                case rel => exact ⟨k + 1, by omega, by go_num, hs⟩
                case measure => simp [intOf]; omega
              · have q2' : ((k : Int) != t) = true := by simpa using q2
                by_cases q3 : N.netAt f k N.n = 0
                · have hs := step (.inr (.inr q3))
                  have q3' : (N.netAt f k N.n != 0) = false := by simp [q3]
                  clear q1 q2 q3 step
                  go_wp2
                  go_round
                  case rel => exact ⟨k + 1, by omega, by go_num, hs⟩
                  case measure => simp [intOf]; omega
                · have HF := hid (show ¬ N.FlowP s t N.n f from fun hh => q3 (hh.2.2 k hkV q1 q2))
                  have q3' : (N.netAt f k N.n != 0) = true := by simpa using q3
                  clear q1 q2 q3 step
                  go_wp2
                  go_ret
                  exact ⟨tells_false HF.out, hB'⟩
          · have HT := hid (show N.FlowP s t N.n f from ⟨rfl, hin.out, fun v hv h1 h2 => hz0.out v (by omega) h1 h2⟩)
            have hge : N.V ≤ (k : Int) := by omega
            go_wp2
            go_ret
            exact ⟨tells_true HT.out, hB'⟩
  · have hm' : ((m : Int) != (N.n : Int)) = true := by rw [bne_iff_ne]; omega
    have HF := hid (show ¬ N.FlowP s t m f from fun h => hm h.1)
    clear hm
    go_enter Try.func22, Try.ntmps22
    go_wp2
    go_ret
    exact ⟨tells_false HF.out, (Below.refl _ _).alloc (Nat.le_refl _) _⟩
end Go.Proofs.Ythdeldaeghhfgaa
