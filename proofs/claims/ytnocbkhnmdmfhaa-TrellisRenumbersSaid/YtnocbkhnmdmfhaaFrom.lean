/- trellis.from: the edges of a section that lead from a node. -/
import Derived.Test.YtnocbkhnmdmfhaaFewT
namespace Go.Proofs.Ytnocbkhnmdmfhaa
open Go.RowKit

theorem fromCmp_any (f l t v : Int) (w : World) : Calls Try.prog 91 #[.agg #[.int .i64 f, .int .i64 l, .int .i64 t], .int .i64 v] w fun e w' => e = .returned (.int .i64 (cmpI f v)) ∧ Below w.heap.size w w' := by
  have hB0 : Below w.heap.size w (w.alloc (Obj.cells #[.int .i64 f, .int .i64 l, .int .i64 t] 72)) := (Below.refl _ _).alloc (Nat.le_refl _) _
  go_enter Try.func91, Try.ntmps91
  go_wp2_with fail
  refine (cmp_any f v _).mono ?_
  rintro e w1 ⟨rfl, hb⟩
  have hB := onS hB0 hb
  clear hb hB0
  obtain ⟨x, hx⟩ : ∃ x, x = cmpI f v := ⟨_, rfl⟩
  rw [← hx]
  have HX := hid hx
  clear hx
  go_wp2
  go_ret
  exact ⟨ret_int HX.out, hB⟩
theorem cmpI_neg {a b : Int} : cmpI a b < 0 ↔ a < b := by
  unfold cmpI
  split <;> (try split) <;> omega
/-- Where the edges of node v begin. -/
def LoOf (f : Nat → Int) (m : Nat) (v : Int) (e : Ending) : Prop :=
  ∃ (lo : Nat) (fd : Bool), e = .returned (.tuple #[.int .i64 (lo : Nat), .bool fd]) ∧ lo ≤ m ∧ (∀ j, j < lo → f j < v) ∧ ∀ j, lo ≤ j → j < m → v ≤ f j
set_option maxRecDepth 100000 in
set_option maxHeartbeats 8000000 in
theorem bsf_any (T : Trel) (i : Nat) (E : Option Addr) (m c : Nat) (v : Int) (w : World) (h : Rd w w.heap.size E m 3 (T.edge i)) (hm : m ≤ 1048576) (hs : ∀ a b, a ≤ b → b < m → T.fr i a ≤ T.fr i b) :
    Calls Try.prog 90 #[.slice E m c, .int .i64 v, .func (.func 91) #[] #[]] w fun e w' => LoOf (T.fr i) m v e ∧ Below w.heap.size w w' := by
  have hcf : ∀ (x y : Value) (W : World), (callFunc 91 #[x, y]).run Try.prog W = .ok (.enter 91 #[x, y]) W := fun _ _ _ => by kernel_rfl
  have HSO := hid hs
  clear hs
  go_enter Try.func90, Try.ntmps90
  go_wp2
  go_loopg [9, 10] m (fun g av bv wx => ∃ a b : Nat, av = .int .i64 (a : Nat) ∧ bv = .int .i64 (b : Nat) ∧ a ≤ b ∧ b ≤ m ∧ b - a ≤ g ∧ Hid (∀ j, j < a → T.fr i j < v) ∧ Hid (∀ j, b ≤ j → j < m → v ≤ T.fr i j) ∧ Below w.heap.size w wx)
  case atStart => exact ⟨0, m, rfl, rfl, by omega, by omega, by omega, fun j hj => absurd hj (by omega), fun j h1 h2 => absurd h1 (by omega), Below.refl _ _⟩
  case round =>
    obtain ⟨a, b, rfl, rfl, hab, hbm, hg, HA, HB, hB⟩ := hrel
    by_cases hlt : a < b
    · have hlt' : (a : Int) < (b : Int) := by omega
      have hw0 : (0 : Int) ≤ (a : Int) + (b : Int) := by omega
      obtain ⟨x, hx⟩ : ∃ x, x = (a + b) / 2 := ⟨_, rfl⟩
      have hxe : ((a : Int) + (b : Int)) / 2 = (x : Int) := by omega
      have hxm : x < m := by omega
      have hxm' : (x : Int) < (m : Int) := by omega
      have hx0 : (0 : Int) ≤ (x : Int) := by omega
      have hxa : a ≤ x := by omega
      have hxb : x < b := by omega
      obtain ⟨eb, eo, rfl, heb, e0, e1, e2⟩ := edge_at ((Rd.below h hB (Nat.le_refl _)).mono hB.size) hxm
      obtain ⟨fv, hfv⟩ : ∃ z, z = T.fr i x := ⟨_, rfl⟩
      obtain ⟨lv, hlv⟩ : ∃ z, z = T.lb i x := ⟨_, rfl⟩
      obtain ⟨tv, htv⟩ : ∃ z, z = T.to i x := ⟨_, rfl⟩
      rw [← hfv] at e0
      rw [← hlv] at e1
      rw [← htv] at e2
      have HFV := hid hfv
      clear hx hlv htv hfv
      go_wp2_with fail
      refine (fromCmp_any fv lv tv v wr).mono ?_
      rintro e w1 ⟨rfl, hb⟩
      have hB1 := hid (onS hB hb)
      clear hb hB e0 e1 e2
      obtain ⟨cv, hcv⟩ : ∃ z, z = cmpI fv v := ⟨_, rfl⟩
      have hcn : Hid (cv < 0 ↔ fv < v) := by show _ ↔ _; rw [hcv]; exact cmpI_neg
      rw [← hcv]
      clear hcv
      by_cases hc0 : cv < 0
      · have HN : Hid (∀ j, j < x + 1 → T.fr i j < v) := fun j hj => by
          have h1 := HSO.out j x (by omega) hxm
          have h2 := hcn.out.1 hc0
          have := HFV.out
          omega
        go_wp2
        go_roundg (gk - 1)
        case measure => omega
        case rel => exact ⟨x + 1, b, by go_num, rfl, by omega, hbm, by omega, HN, HB, hB1.out⟩
      · have HN : Hid (∀ j, x ≤ j → j < m → v ≤ T.fr i j) := fun j h1 h2 => by
          have h3 := HSO.out x j h1 h2
          have h4 : ¬ fv < v := fun h => hc0 (hcn.out.2 h)
          have := HFV.out
          omega
        go_wp2
        go_roundg (gk - 1)
        case measure => omega
        case rel => exact ⟨a, x, rfl, rfl, by omega, by omega, by omega, HA, HN, hB1.out⟩
    · obtain rfl : a = b := by omega
      have hfin : Hid (∀ (fd : Bool) (e : Ending), e = .returned (.tuple #[.int .i64 (a : Nat), .bool fd]) → LoOf (T.fr i) m v e) := fun fd e he => ⟨a, fd, he, hbm, HA.out, HB.out⟩
      by_cases hlm : a < m
      · have hlm' : (a : Int) < (m : Int) := by omega
        have ha0 : (0 : Int) ≤ (a : Int) := by omega
        obtain ⟨eb, eo, rfl, heb, e0, e1, e2⟩ := edge_at ((Rd.below h hB (Nat.le_refl _)).mono hB.size) hlm
        obtain ⟨fv, hfv⟩ : ∃ z, z = T.fr i a := ⟨_, rfl⟩
        obtain ⟨lv, hlv⟩ : ∃ z, z = T.lb i a := ⟨_, rfl⟩
        obtain ⟨tv, htv⟩ : ∃ z, z = T.to i a := ⟨_, rfl⟩
        rw [← hfv] at e0
        rw [← hlv] at e1
        rw [← htv] at e2
        clear hlv htv hfv
        go_wp2_with fail
        refine (fromCmp_any fv lv tv v wr).mono ?_
        rintro e w1 ⟨rfl, hb⟩
        have hB1 := hid (onS hB hb)
        clear hb hB e0 e1 e2
        obtain ⟨cv, hcv⟩ : ∃ z, z = cmpI fv v := ⟨_, rfl⟩
        rw [← hcv]
        clear hcv
        go_wp2
        go_ret2
        exact ⟨hfin.out _ _ rfl, hB1.out⟩
      · go_wp2
        go_ret2
        exact ⟨hfin.out _ _ rfl, hB⟩
/-- The edges of node v. -/
def FromPost (f : Nat → Int) (E : Option Addr) (m c : Nat) (v : Int) (w : World) (e : Ending) (w' : World) : Prop :=
  ∃ b o lo hi, E = some ⟨b, o, none⟩ ∧ lo < hi ∧ hi ≤ m ∧ (∀ j, j < m → (f j = v ↔ lo ≤ j ∧ j < hi)) ∧ e = .returned (.slice (some ⟨b, o + lo * 3, none⟩) (hi - lo) (c - lo)) ∧ Below w.heap.size w w'
set_option maxRecDepth 100000 in
set_option maxHeartbeats 8000000 in
theorem from_any (T : Trel) (i : Nat) (E : Option Addr) (m c : Nat) (v : Int) (w : World) (h : Rd w w.heap.size E m 3 (T.edge i)) (hm : m ≤ 1048576) (hmc : m ≤ c) (hc : c ≤ maxLen) (hs : ∀ a b, a ≤ b → b < m → T.fr i a ≤ T.fr i b) (hex : ∃ j, j < m ∧ T.fr i j = v) :
    Calls Try.prog 59 #[.slice E m c, .int .i64 v] w (FromPost (T.fr i) E m c v w) := by
  unfold maxLen at hc
  go_enter Try.func59, Try.ntmps59
  go_wp2_with fail
  refine (bsf_any T i E m c v w h hm hs).mono ?_
  rintro e w1 ⟨⟨lo, fd, rfl, hlm, hlo, hhi⟩, hB⟩
  have hlt : lo < m := by
    obtain ⟨j, hj, e⟩ := hex
    by_cases hl : lo < m
    · exact hl
    · have := hlo j (by omega); omega
  have HFR : Hid (T.fr i lo = v) := by
    obtain ⟨j, hj, e⟩ := hex
    by_cases hl : lo ≤ j
    · have h1 := hs lo j hl hj
      have h2 := hhi lo (Nat.le_refl _) hlt
      show T.fr i lo = v
      omega
    · have := hlo j (by omega); omega
  have HLO := hid hlo
  have HHI := hid hhi
  have HSO := hid hs
  clear hlo hhi hs hex
  obtain ⟨b, o, rfl, hb, _⟩ := edge_at h hlt
  have HRd := hid h
  clear h
  go_wp2
  go_loopg [7] m (fun g hv wx => ∃ hi : Nat, hv = .int .i64 (hi : Nat) ∧ lo ≤ hi ∧ hi ≤ m ∧ m ≤ hi + g ∧ Hid (∀ j, lo ≤ j → j < hi → T.fr i j = v) ∧ Below w.heap.size w wx)
  case atStart => exact ⟨lo, rfl, by omega, by omega, by omega, fun j h1 h2 => absurd h1 (by omega), hB⟩
  case round =>
    clear hB
    obtain ⟨hi, rfl, hlh, hhm, hg, HI, hB⟩ := hrel
    have hh0 : (0 : Int) ≤ (hi : Int) := by omega
    by_cases hh : hi < m
    · have hh' : (hi : Int) < (m : Int) := by omega
      obtain ⟨_, _, e3, _, e0, _, _⟩ := edge_at ((Rd.below HRd.out hB (Nat.le_refl _)).mono hB.size) hh
      injection e3 with e3
      injection e3 with e3 e4
      subst e3 e4
      obtain ⟨fv, hfv⟩ : ∃ z, z = T.fr i hi := ⟨_, rfl⟩
      rw [← hfv] at e0
      have HFV := hid hfv
      clear hfv
      by_cases he : fv = v
      · have he1 : (fv == v) = true := by simp [he]
        have HN : Hid (∀ j, lo ≤ j → j < hi + 1 → T.fr i j = v) := fun j h1 h2 => by
          by_cases ej : j = hi
          · subst ej; rw [← HFV.out]; exact he
          · exact HI.out j h1 (by omega)
        clear he
        go_wp2
        go_roundg (gk - 1)
        case measure => omega
        case rel => exact ⟨hi + 1, by go_num, by omega, by omega, by omega, HN, hB⟩
      · have he1 : (fv == v) = false := by simp [he]
        have hlh2 : lo < hi := by
          by_cases e : lo = hi
          · exact absurd (by rw [HFV.out, ← e]; exact HFR.out) he
          · omega
        have HF : Hid (∀ j, j < m → (T.fr i j = v ↔ lo ≤ j ∧ j < hi)) := fun j hj => by
          constructor
          · intro e
            refine ⟨?_, ?_⟩
            · by_cases h1 : lo ≤ j
              · exact h1
              · have := HLO.out j (by omega); omega
            · by_cases h1 : j < hi
              · exact h1
              · have h2 := HSO.out hi j (by omega) hj
                have h3 := HSO.out lo hi (by omega) hh
                have h4 := HFR.out
                have h5 := HFV.out
                omega
          · rintro ⟨h1, h2⟩; exact HI.out j h1 h2
        have hlc : ¬ c = lo := by omega
        have hcl : lo ≠ c := by omega
        have hl1 : (lo : Int) ≤ (hi : Int) := by omega
        have hl2 : (hi : Int) ≤ (c : Int) := by omega
        have hl3 : lo ≤ hi := by omega
        have hl4 : hi ≤ c := by omega
        have hl5 : (0 : Int) ≤ (lo : Int) := by omega
        clear he
        go_wp2
        go_ret
        exact ⟨b, o, lo, hi, rfl, hlh2, hhm, HF.out, rfl, hB⟩
    · have hh' : ¬ (hi : Int) < (m : Int) := by omega
      have HF : Hid (∀ j, j < m → (T.fr i j = v ↔ lo ≤ j ∧ j < hi)) := fun j hj => by
        constructor
        · intro e
          refine ⟨?_, by omega⟩
          by_cases h1 : lo ≤ j
          · exact h1
          · have := HLO.out j (by omega); omega
        · rintro ⟨h1, h2⟩; exact HI.out j h1 h2
      have hlc : ¬ c = lo := by omega
      have hcl : lo ≠ c := by omega
      have hl1 : (lo : Int) ≤ (hi : Int) := by omega
      have hl2 : (hi : Int) ≤ (c : Int) := by omega
      have hl3 : lo ≤ hi := by omega
      have hl4 : hi ≤ c := by omega
      have hl5 : (0 : Int) ≤ (lo : Int) := by omega
      have hlh2 : lo < hi := by omega
      go_wp2
      go_ret
      exact ⟨b, o, lo, hi, rfl, hlh2, hhm, HF.out, rfl, hB⟩

theorem accCmp_any (f l t a : Int) (p : Addr) (w : World) (hp : w.cell? p = some (.int .i64 a)) : Calls Try.prog 61 #[.agg #[.int .i64 f, .int .i64 l, .int .i64 t], .pointer (some p)] w fun e w' => e = .returned (.bool (l == a)) ∧ Below w.heap.size w w' := by
  have hB0 : Below w.heap.size w (w.alloc (Obj.cells #[.int .i64 f, .int .i64 l, .int .i64 t] 72)) := (Below.refl _ _).alloc (Nat.le_refl _) _
  have hl := World.block_lt_of_cell? _ _ hp
  go_enter Try.func61, Try.ntmps61
  go_wp2
  go_ret
  exact ⟨rfl, hB0⟩
/-- The first edge with a label, or -1. -/
def IdxOf (g : Nat → Int) (m : Nat) (a : Int) (e : Ending) : Prop :=
  (e = .returned (.int .i64 (-1)) ∧ ∀ j, j < m → g j ≠ a) ∨ ∃ k : Nat, e = .returned (.int .i64 (k : Nat)) ∧ k < m ∧ g k = a
set_option maxRecDepth 100000 in
set_option maxHeartbeats 4000000 in
theorem indexEdge_any (E : Option Addr) (m c : Nat) (fr lb to_ : Nat → Int) (a : Int) (p : Addr) (w : World) (h : Rd w w.heap.size E m 3 (fun j k => if k = 0 then .int .i64 (fr j) else if k = 1 then .int .i64 (lb j) else .int .i64 (to_ j))) (hm : m ≤ 1048576) (hp : w.cell? p = some (.int .i64 a)) :
    Calls Try.prog 60 #[.slice E m c, .func (.func 61) #[] #[.pointer (some p)]] w fun e w' => IdxOf lb m a e ∧ Below w.heap.size w w' := by
  have hcf : ∀ (x y : Value) (W : World), (callFunc 61 #[x, y]).run Try.prog W = .ok (.enter 61 #[x, y]) W := fun _ _ _ => by kernel_rfl
  go_enter Try.func60, Try.ntmps60
  go_wp2
  go_loopg [8] m (fun g iv wx => ∃ k : Nat, iv = .int .i64 (k : Nat) ∧ k ≤ m ∧ m ≤ k + g ∧ Hid (∀ j, j < k → lb j ≠ a) ∧ Below w.heap.size w wx)
  case atStart => exact ⟨0, rfl, by omega, by omega, fun j hj => absurd hj (by omega), Below.refl _ _⟩
  case round =>
    obtain ⟨k, rfl, hk, hg, HA, hB⟩ := hrel
    have hk0 : (0 : Int) ≤ (k : Int) := by omega
    have hp1 := cellS hB hp
    by_cases hlt : k < m
    · have hlt' : (k : Int) < (m : Int) := by omega
      obtain ⟨eb, eo, rfl, heb, e0, e1, e2⟩ := Rd.at3 ((Rd.below h hB (Nat.le_refl _)).mono hB.size) hlt
      change wr.cell? ⟨eb, eo + k * 3, none⟩ = some (.int .i64 (fr k)) at e0
      change wr.cell? ⟨eb, eo + k * 3 + 1, none⟩ = some (.int .i64 (lb k)) at e1
      change wr.cell? ⟨eb, eo + k * 3 + 2, none⟩ = some (.int .i64 (to_ k)) at e2
      obtain ⟨fv, hfv⟩ : ∃ z, z = fr k := ⟨_, rfl⟩
      obtain ⟨lv, hlv⟩ : ∃ z, z = lb k := ⟨_, rfl⟩
      obtain ⟨tv, htv⟩ : ∃ z, z = to_ k := ⟨_, rfl⟩
      rw [← hfv] at e0
      rw [← hlv] at e1
      rw [← htv] at e2
      have HL := hid hlv
      clear hfv hlv htv
      go_wp2_with fail
      refine (accCmp_any fv lv tv a p wr hp1).mono ?_
      rintro e w1 ⟨rfl, hb⟩
      have hB1 := hid (onS hB hb)
      clear hb hB e0 e1 e2 hp1
      by_cases he : lv = a
      · have he1 : (lv == a) = true := by simp [he]
        have hf : Hid (lb k = a) := by rw [← HL.out]; exact he
        rw [he1]
        clear he he1
        go_wp2
        go_ret
        exact ⟨.inr ⟨k, rfl, hlt, hf.out⟩, hB1.out⟩
      · have he1 : (lv == a) = false := by simp [he]
        have HN : Hid (∀ j, j < k + 1 → lb j ≠ a) := fun j hj => by
          by_cases ej : j = k
          · subst ej; rw [← HL.out]; exact he
          · exact HA.out j (by omega)
        rw [he1]
        clear he he1
        go_wp2
        go_roundg (gk - 1)
        case measure => omega
        case rel => exact ⟨k + 1, by go_num, by omega, by omega, HN, hB1.out⟩
    · have hlt' : ¬ (k : Int) < (m : Int) := by omega
      have hf : Hid (∀ j, j < m → lb j ≠ a) := fun j hj => HA.out j (by omega)
      go_wp2
      go_ret
      exact ⟨.inl ⟨rfl, hf.out⟩, hB⟩
end Go.Proofs.Ytnocbkhnmdmfhaa
