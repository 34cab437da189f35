/- codewrightref01: Trim, Of, limb, Bits, Same. codewrightref01.Mul, small, Choose. codewrightref01.Pow where the result is not too great. nat.Cmp and codewrightref01.Cmp. Differences, limb by limb: plain laws. codewrightref01.Sub. Division limb by limb (Knuth's algorithm D): plain laws. nat.Sub. -/
import Derived.Test.YtgininddoalenaaNatA
import Derived.Deep.QuietTactic
import Derived.BigQuiet

namespace Go.Proofs.Ytgininddoalenaa
open Go.RowKit

section
variable {P : Program} {w : World}
theorem wpList_append_copy_none {ops : Array Oper} {rest : List Oper} {o : Oper} {a : Act} {Q : Exit → Act → World → Prop} (hgd : o.guard = none) (sl x : Operand) (t : TypeId)
    (ho : o.op = .call { callee := .builtin .append, args := #[sl, x], argTypes := #[t, t] })
    (e : TypeId) (i : TypeInfo) (ht : P.underlying t = some (.slice e)) (hi : P.info? e = some i) (b0 o0 : Nat) (hv : a.eval sl = .slice (some ⟨b0, o0, none⟩) 0 0)
    (A : Option Addr) (c : Nat) (hx : a.eval x = .slice A 0 c)
    (h : wpList P ops Q rest (a.put o.dst (.slice (some ⟨b0, o0, none⟩) 0 0)) w) : wpList P ops Q (o :: rest) a w := by
  refine wpList_plain hgd fun K hK => ?_
  have hrun := run_append_copy_none (P := P) w t o.type e i ht hi b0 o0 A c
  unfold Oper.wp execOp
  simp only [ho, resolve, invoke, builtin, Sem.run_bind, Sem.run_pure, Result.andThen_ok, List.map_toArray, List.map_cons, List.map_nil, hv, hx, hrun]
  exact hK _ _ h
end
theorem box1_below (X : World) (o : Obj) : Below X.heap.size X (X.alloc o) := (Below.refl _ _).alloc (Nat.le_refl _) _

set_option maxRecDepth 100000 in
set_option maxHeartbeats 4000000 in
theorem refTrim_any (A : Option Addr) (n c : Nat) (f : Nat → Nat) (w : World) (h : Lims w w.heap.size A n f) (hf : Hid (∀ i, i < n → f i < 4294967296)) (hc : n ≤ c) (hm : c ≤ maxLen) (hn : n ≤ 1073741824) :
    Calls Try.prog 73 #[.slice A n c] w (NatPost (nv f n) w) := by
  have hm9 : c ≤ 9223372036854775807 := by unfold maxLen at hm; omega
  obtain ⟨i0, qi0, qz0, qz1, qz2⟩ := info_parts Try.infoU32
  obtain ⟨x, hx⟩ : ∃ x, nv f n = x := ⟨_, rfl⟩
  have HX := hid hx
  rw [hx]
  clear hx
  go_enter Try.func73, Try.ntmps73
  go_wp2
  go_loopg [3] n (fun g kv wx => ∃ k : Nat, k ≤ n ∧ k ≤ g ∧ kv = .int .i64 (k : Nat) ∧ Hid (∀ i, k ≤ i → i < n → f i = 0) ∧ w = wx)
  case atStart => exact ⟨n, by omega, by omega, rfl, hid fun i h1 h2 => absurd h1 (by omega), rfl⟩
  case round =>
    obtain ⟨k, hk, hkg, rfl, hz, rfl⟩ := hrel
    by_cases h0 : 0 < k
    · obtain ⟨b, o, rfl, hb, e0⟩ := h.at (i := k - 1) (by omega)
      have h0' : (0 : Int) < (k : Int) := by omega
      have hw2 : ((k : Int) - 1).toNat = k - 1 := by omega
      by_cases hz0 : f (k - 1) = 0
      · rw [hz0] at e0
        have HN : Hid (∀ i, k - 1 ≤ i → i < n → f i = 0) := fun i h1 h2 => by
          by_cases e : i = k - 1
          · rw [e]; exact hz0
          · exact hz.out i (by omega) h2
        clear hz0
        go_wp2
        go_roundg (gk - 1)
        case measure => omega
        case rel => exact ⟨k - 1, by omega, by omega, by rw [show ((k - 1 : Nat) : Int) = (k : Int) - 1 by omega], HN, rfl⟩
      · obtain ⟨d1, d2⟩ := dl_of (f := f) hk hf.out hz.out (.inr hz0)
        obtain ⟨v, hv⟩ : ∃ v : Int, v = (f (k - 1) : Nat) := ⟨_, rfl⟩
        rw [← hv] at e0
        have hv2 : (v == 0) = false := by simp; omega
        rw [HX.out] at d1 d2
        have D1 := hid d1
        have hR : Hid (∀ o1, Rd (w.alloc o1) (w.alloc o1).heap.size (some ⟨b, o, none⟩) k 1 (fun i _ => .int .u32 (dg x i : Nat))) := fun o1 => by
          have h1 : Rd w w.heap.size (some ⟨b, o, none⟩) k 1 (fun i _ => .int .u32 (dg x i : Nat)) := fun i hi => by
            obtain ⟨b', o', e, hb', hc'⟩ := h i (by omega)
            exact ⟨b', o', e, hb', fun j hj => by show _ = some (Value.int .u32 (dg x i : Nat)); rw [d2 i hi]; exact hc' j hj⟩
          exact (Rd.alloc h1 (Nat.le_refl _) o1).mono (by simp)
        have n3 : Hid (k ≤ maxLen) := by show _ ≤ _; unfold maxLen; omega
        have n4 : Hid (k * 4 ≤ 140737488355328) := by show _ ≤ _; omega
        clear hv d1 d2 hz0
        go_wp2_with (first | (at_builtin; (refine wpList_append_copy_some rfl (.tmp 18) (.tmp 21) _ rfl 77 i0 _ 1 4 Try.underlying39 qi0 qz0 qz1 qz2 rfl (by omega) _ rfl (some ⟨b, o, none⟩) k c (fun i _ => .int .u32 (dg x i : Nat)) rfl (hR.out _) h0 (fun _ _ _ _ => rfl) n3.out n4.out ?_); intro cap cur k1 k2 k3 k4))
        go_ret
        have hO := Own.new (w := w.alloc (Obj.cells #[] 77)) (base := w.heap.size) (e := 77) (by simp) k1 k2 k3 k4
        simp only [World.size_alloc] at hO
        refine ⟨_, cap, by rw [D1.out]; rfl, by rw [D1.out]; exact k1, k2, ?_, (((Below.refl _ _).alloc (Nat.le_refl _) _).alloc (by simp) _).drew⟩
        unfold NatOk Lims
        rw [D1.out]
        exact hO.drew.rd rfl
    · obtain rfl : k = 0 := by omega
      obtain ⟨d1, d2⟩ := dl_of (f := f) hk hf.out hz.out (.inl rfl)
      rw [HX.out] at d1
      have D1 := hid d1
      clear d1 d2
      cases A with
      | none =>
        go_wp2_with (first | (at_builtin; (refine wpList_append_copy_none rfl (.tmp 18) (.tmp 21) _ rfl 77 i0 Try.underlying39 qi0 w.heap.size 0 rfl none c rfl ?_)))
        go_ret
        exact ⟨_, 0, by rw [D1.out]; rfl, by rw [D1.out]; omega, by unfold maxLen; omega, fun i hi => absurd hi (by rw [D1.out]; omega), box1_below _ _⟩
      | some a =>
        go_wp2_with (first | (at_builtin; (refine wpList_append_copy_none rfl (.tmp 18) (.tmp 21) _ rfl 77 i0 Try.underlying39 qi0 w.heap.size 0 rfl (some a) c rfl ?_)))
        go_ret
        exact ⟨_, 0, by rw [D1.out]; rfl, by rw [D1.out]; omega, by unfold maxLen; omega, fun i hi => absurd hi (by rw [D1.out]; omega), box1_below _ _⟩

theorem refTrim_nat (A : Option Addr) (c x : Nat) (w : World) (h : NatOk w w.heap.size A x) (hc : dl x ≤ c) (hm : c ≤ maxLen) (hn : dl x ≤ 1073741824) :
    Calls Try.prog 73 #[.slice A (dl x) c] w (NatPost x w) := by
  have := refTrim_any A (dl x) c (dg x) w h (dg_all x) hc hm hn
  rwa [nv_dg] at this

set_option maxHeartbeats 2000000 in
theorem refOf_any (x : Nat) (w : World) (hx : x < 18446744073709551616) :
    Calls Try.prog 32 #[.int .u64 (x : Nat)] w (NatPost x w) := by
  have hL : Lims (w.alloc (Obj.cells #[Value.int .u32 ((x : Int) % 4294967296), Value.int .u32 ((x : Int) / 4294967296)] 77)) (w.alloc (Obj.cells #[Value.int .u32 ((x : Int) % 4294967296), Value.int .u32 ((x : Int) / 4294967296)] 77)).heap.size (some ⟨w.heap.size, 0, none⟩) 2 (two x) := by
    refine lims_row (t := 77) ⟨_, heap_alloc_new _ _, rfl, fun i hi => ?_⟩
    match i, hi with
    | 0, _ => simp [two]
    | 1, _ => simp [two]
  have H2 : Hid (∀ i, i < 2 → two x i < 4294967296) := fun i hi => by
    unfold two
    split <;> omega
  go_enter Try.func32, Try.ntmps32
  go_wp2_with fail
  refine (refTrim_any _ 2 2 (two x) _ hL H2 (Nat.le_refl _) (by unfold maxLen; omega) (by omega)).mono ?_
  rintro e w2 ⟨A, c, rfl, g1, g2, g3, g4⟩
  rw [nv_two] at g1 g3 ⊢
  have hB := onS ((Below.refl _ _).alloc (Nat.le_refl _) _) g4
  clear g4 hL
  go_wp2
  go_ret
  exact ⟨A, c, rfl, g1, g2, g3, hB⟩

theorem limb_in (A : Option Addr) (n c i : Nat) (f : Nat → Nat) (w : World) (h : Lims w w.heap.size A n f) (hf : Hid (∀ i, i < n → f i < 4294967296)) :
    Calls Try.prog 91 #[.slice A n c, .int .i64 (i : Nat)] w fun e w' => e = .returned (.int .u64 (padded f n i : Nat)) ∧ w = w' := by
  by_cases hlt : i < n
  · obtain ⟨b, o, rfl, hb, e0⟩ := h.at hlt
    have hlt' : (i : Int) < (n : Int) := by omega
    have q := hf.out i hlt
    have HP := hid (show padded f n i = f i by unfold padded; rw [if_pos hlt])
    obtain ⟨x, hx⟩ : ∃ x, x = f i := ⟨_, rfl⟩
    rw [← hx] at e0 q HP
    clear hx
    go_enter Try.func91, Try.ntmps91
    go_wp2
    go_ret
    exact ⟨ret_int (by simp [HP.out]), rfl⟩
  · have hlt' : ¬ (i : Int) < (n : Int) := by omega
    have HP := hid (show padded f n i = 0 by unfold padded; rw [if_neg hlt])
    go_enter Try.func91, Try.ntmps91
    go_wp2
    go_ret
    exact ⟨ret_int (by simp [HP.out]), rfl⟩

/-- The sum, limb by limb. -/
theorem refAdd_step {f g o : Nat → Nat} {n m k cc : Nat} (hv : nv o k + cc * 4294967296 ^ k = nv (padded f n) k + nv (padded g m) k) :
    nv (upd o k ((padded f n k + padded g m k + cc) % 4294967296)) (k + 1) + (padded f n k + padded g m k + cc) / 4294967296 * 4294967296 ^ (k + 1) = nv (padded f n) (k + 1) + nv (padded g m) (k + 1) := by
  simp only [nv]
  rw [nv_upd_ge (Nat.le_refl _), upd_same]
  have hc := carry_step1 (padded f n k + padded g m k + cc) k
  grind

set_option maxRecDepth 100000 in
set_option maxHeartbeats 4000000 in
theorem refAdd_any (A A2 : Option Addr) (n c m c2 : Nat) (f g : Nat → Nat) (w : World) (h : Lims w w.heap.size A n f) (h2 : Lims w w.heap.size A2 m g) (hf : Hid (∀ i, i < n → f i < 4294967296)) (hg : Hid (∀ i, i < m → g i < 4294967296)) (hn : n ≤ 268435456) (hm : m ≤ 268435456) :
    Calls Try.prog 68 #[.slice A n c, .slice A2 m c2] w (NatPost (nv f n + nv g m) w) := by
  obtain ⟨i0, qi0, qz0, qz1, qz2⟩ := info_parts Try.infoU32
  go_enter Try.func68, Try.ntmps68
  go_wp2
  go_loopg [7, 5, 6] (n + m + 1) (fun gg iv ov cv wx => ∃ k cc : Nat, ∃ o : Nat → Nat, iv = .int .i64 (k : Nat) ∧ cv = .int .u64 (cc : Nat) ∧ n + m + 1 ≤ k + gg ∧ k ≤ n + m + 1 ∧ (max n m < k → cc = 0) ∧ cc ≤ 1 ∧ Below w.heap.size w wx ∧ Own wx w.heap.size 77 1 ov k (fun i _ => .int .u32 (o i : Nat)) ∧ Hid (∀ i, o i < 4294967296) ∧ Hid (nv o k + cc * 4294967296 ^ k = nv (padded f n) k + nv (padded g m) k))
  case atStart => exact ⟨0, 0, fun _ => 0, rfl, rfl, by omega, by omega, fun _ => rfl, by omega, Below.refl _ _, Own.nil _ _ _ _ _, hid fun _ => by show 0 < _; omega, hid rfl⟩
  case round =>
    obtain ⟨k, cc, o, rfl, rfl, hkg, hk, hmx, hcc, hB, hO, HO, HV⟩ := hrel
    by_cases hgo : k < n ∨ k < m ∨ 0 < cc
    · have hkb : k ≤ max n m := by
        rcases hgo with h1 | h1 | h1
        · omega
        · omega
        · by_cases e : max n m < k
          · have := hmx e; omega
          · omega
      have hkb2 : k ≤ n + m := by omega
      have hf1 := padded_lt hf.out k
      have hg1 := padded_lt hg.out k
      have K1 := hid (refAdd_step HV.out)
      have hL1 := limb_in A n c k f wr (h.on hB) hf
      have hL2 := limb_in A2 m c2 k g wr (h2.on hB) hg
      have hzx : Hid (n ≤ k → m ≤ k → padded f n k + padded g m k = 0) := fun h1 h2 => by unfold padded; rw [if_neg (by omega), if_neg (by omega)]
      obtain ⟨x, hx⟩ : ∃ x, x = padded f n k := ⟨_, rfl⟩
      obtain ⟨y, hy⟩ : ∃ y, y = padded g m k := ⟨_, rfl⟩
      rw [← hx] at hf1 K1 hL1 hzx
      rw [← hy] at hg1 K1 hL2 hzx
      have HL1 := hid hL1
      have HL2 := hid hL2
      clear hx hy hL1 hL2
      have hO1 : Own wr w.heap.size 77 1 u5 k (fun i _ => .int .u32 (upd o k ((x + y + cc) % 4294967296) i : Nat)) := hO.congr fun i hi _ _ => by rw [upd_other (by omega)]
      have es : (((x : Int) + y + cc) % 4294967296) = (((x + y + cc) % 4294967296 : Nat) : Int) := by omega
      have N1 : Hid (∀ j, j < 1 → (wr.alloc (Obj.cells #[Value.int .u32 (((x : Int) + y + cc) % 4294967296)] 77)).cell? ((⟨wr.heap.size, 0, none⟩ : Addr).add j) = some (.int .u32 (upd o k ((x + y + cc) % 4294967296) k : Nat))) := fun j hj => by
        obtain rfl : j = 0 := by omega
        rw [upd_same, es]
        exact World.cell?_alloc_at _ _ _ _ rfl
      have N2 : Hid (∀ j, j < 1 → (Value.int .u32 (upd o k ((x + y + cc) % 4294967296) k : Nat)).oneCell' = true) := fun _ _ => rfl
      have n3 : Hid (k + 1 ≤ maxLen) := by show _ ≤ _; unfold maxLen; omega
      have n4 : Hid ((k + 1) * 4 ≤ 140737488355328) := by show _ ≤ _; omega
      have hQb : Hid (∀ k, u5.ownBlock = some k → w.heap.size ≤ k) := fun k e => (hO.lt k e).1
      have K3 : Hid (∀ i, upd o k ((x + y + cc) % 4294967296) i < 4294967296) := fun i => by
        unfold upd
        split
        · omega
        · exact HO.out i
      have K5 : Hid ((((x : Int) + y + cc) / 4294967296) = (((x + y + cc) / 4294967296 : Nat) : Int)) := by show _ = _; omega
      have K6 : Hid (max n m < k + 1 → (x + y + cc) / 4294967296 = 0) := fun hmk => by
        have := hzx.out (by omega) (by omega)
        omega
      have hsz := hB.size
      have hBA := hid (hB.alloc hB.size (Obj.cells #[Value.int .u32 (((x : Int) + y + cc) % 4294967296)] 77))
      clear es hO hmx
      have fin : True := trivial
      by_cases c1 : (k : Int) < (n : Int)
      all_goals by_cases c2 : (k : Int) < (m : Int)
      all_goals by_cases c3 : 0 < cc
      all_goals first
        | (exfalso; omega)
        | (have c4 : (0 : Int) < (cc : Int) ∨ ¬ (0 : Int) < (cc : Int) := by omega
           clear hgo
           go_wp2_with fail
           refine HL1.out.mono ?_
           rintro e w2 ⟨rfl, rfl⟩
           go_wp2_with fail
           refine HL2.out.mono ?_
           rintro e w2 ⟨rfl, rfl⟩
           go_wp2_with (first | (at_builtin; (refine wpList_append_one _ rfl (.tmp 34) (.tmp 38) _ rfl w.heap.size 77 i0 _ 1 4 Try.underlying39 qi0 qz0 qz1 qz2 rfl (by omega) u5 k _ rfl (hO1.alloc _) ⟨wr.heap.size, 0, none⟩ 1 rfl N1.out N2.out n3.out n4.out (by simp; omega) ?_); intro v' w3 hown3 hg3 hat3))
           have hB3 := hBA.out.grown hg3 (by simp; omega) (fun q e => hQb.out q e)
           go_roundg (gk - 1)
           case measure => omega
           case rel => exact ⟨k + 1, (x + y + cc) / 4294967296, _, by go_num, by rw [K5.out], by omega, by omega, K6.out, by omega, hB3, hown3, K3, K1⟩)
    · have c1 : ¬ (k : Int) < (n : Int) := by omega
      have c2 : ¬ (k : Int) < (m : Int) := by omega
      have c3 : cc = 0 := by omega
      subst c3
      have HS : Hid (nv o k = nv f n + nv g m) := by
        have := HV.out
        rw [nv_padded f (show n ≤ k by omega), nv_padded g (show m ≤ k by omega)] at this
        show _ = _
        omega
      obtain ⟨oa, oc, rfl⟩ := hO.shape
      have hI : Lims wr wr.heap.size oa k o := hO.rd rfl
      have hob : Hid (∀ i, i < k → o i < 4294967296) := fun i _ => HO.out i
      have hcap : k ≤ oc ∧ oc ≤ maxLen := by
        rcases Nat.eq_zero_or_pos k with e | e
        · subst e
          rcases hO with ⟨e1, _⟩ | ⟨g1, o1, cap, cur, e1, _, _, h3, h4, _⟩
          · injection e1 with _ _ e3; subst e3; exact ⟨by omega, by unfold maxLen; omega⟩
          · injection e1 with _ _ e3; subst e3; exact ⟨h3, h4⟩
        · obtain ⟨g1, o1, cap, e1, _, _, h3, h4, _⟩ := hO.form e
          injection e1 with _ _ e3; subst e3; exact ⟨h3, h4⟩
      clear hgo
      go_wp2_with fail
      refine (refTrim_any oa k oc o wr hI hob hcap.1 hcap.2 (by omega)).mono ?_
      rintro e w2 ⟨A', c', rfl, g1, g2, g3, g4⟩
      rw [HS.out] at g1 g3 ⊢
      have hB2 := onS hB g4
      clear g4 hI hO hB
      go_wp2
      go_ret
      exact ⟨A', c', rfl, g1, g2, g3, hB2⟩
theorem refAdd_nat (A A2 : Option Addr) (c c2 x y : Nat) (w : World) (h : NatOk w w.heap.size A x) (h2 : NatOk w w.heap.size A2 y) (hn : dl x ≤ 268435456) (hn2 : dl y ≤ 268435456) :
    Calls Try.prog 68 #[.slice A (dl x) c, .slice A2 (dl y) c2] w (NatPost (x + y) w) := by
  have := refAdd_any A A2 (dl x) c (dl y) c2 (dg x) (dg y) w h h2 (dg_all x) (dg_all y) hn hn2
  rwa [nv_dg, nv_dg] at this

set_option maxHeartbeats 2000000 in
theorem refBits_any (A : Option Addr) (c x : Nat) (w : World) (h : NatOk w w.heap.size A x) (hc : dl x ≤ c) (hm : c ≤ maxLen) (hn : dl x ≤ 1073741824) :
    Calls Try.prog 78 #[.slice A (dl x) c] w fun e w' => e = .returned (.int .i64 (nlen x : Nat)) ∧ Below w.heap.size w w' := by
  go_enter Try.func78, Try.ntmps78
  go_wp2_with fail
  refine (refTrim_nat A c x w h hc hm hn).mono ?_
  rintro e w1 ⟨A2, c2, rfl, g1, g2, g3, g4⟩
  by_cases h0 : x = 0
  · have hd : dl x = 0 := by rw [h0]; exact dl_zero
    have H := hid (show nlen x = 0 by rw [h0]; exact nlen_zero)
    rw [hd]
    clear h0 hd g1 g3
    go_wp2
    go_ret
    exact ⟨ret_int (by rw [H.out]; rfl), g4⟩
  · have hd : 0 < dl x := by have := mt dl_eq_zero.1 h0; omega
    obtain ⟨b, o, rfl, hb, e0⟩ := Lims.at g3 (i := dl x - 1) (by omega)
    have HL := hid (nlen_dl h0)
    have hg := dg_lt x (dl x - 1)
    obtain ⟨n, hn'⟩ : ∃ n, n = dl x := ⟨_, rfl⟩
    obtain ⟨v, hv⟩ : ∃ v, v = dg x (dl x - 1) := ⟨_, rfl⟩
    rw [← hv] at hg e0 HL
    rw [← hn'] at e0 hd HL hn g1 ⊢
    have hw2 : ((n : Int) - 1).toNat = n - 1 := by omega
    have hn0 : ((n : Int) == 0) = false := by simp; omega
    have hlen := nlen_le (x := v) (k := 32) hg
    clear hn' hv h h0 g3
    go_wp2
    go_loopg [3, 4] (nlen v) (fun gg nv tv wx => ∃ j u : Nat, nv = .int .i64 (32 * ((n : Int) - 1) + (j : Nat)) ∧ tv = .int .u32 (u : Nat) ∧ Hid (j + nlen u = nlen v) ∧ nlen u ≤ gg ∧ j ≤ 32 ∧ u < 4294967296 ∧ w1 = wx)
    case atStart => exact ⟨0, v, by simp, rfl, hid (by omega), Nat.le_refl _, by omega, hg, rfl⟩
    case round =>
      obtain ⟨j, u, rfl, rfl, hj, hgg, hj2, hu, rfl⟩ := hrel
      by_cases hu0 : u = 0
      · have HJ : Hid (j = nlen v) := by
          have := hj.out
          rw [hu0, nlen_zero] at this
          show _ = _
          omega
        subst hu0
        go_wp2
        go_ret
        exact ⟨ret_int (by rw [HL.out, ← HJ.out]; omega), g4⟩
      · have hp := nlen_pos hu0
        have hj3 := hj.out
        have hu1 : (0 : Int) < (u : Int) := by omega
        have hu2 : ((u : Int) / 2) = ((u / 2 : Nat) : Int) := by omega
        have HU := hid hu2
        have HN : Hid (j + 1 + nlen (u / 2) = nlen v) := by show _ = _; omega
        have hgg2 : nlen (u / 2) < gk := by omega
        have hj4 : j + 1 ≤ 32 := by omega
        clear hu2 hp hj3
        go_wp2
        go_roundg (nlen (u / 2))
        case measure => omega
        case rel => exact ⟨j + 1, u / 2, by congr 1 <;> omega, by rw [HU.out], HN, Nat.le_refl _, hj4, by omega, rfl⟩

set_option maxHeartbeats 2000000 in
theorem refSame_any (A A2 : Option Addr) (c c2 x : Nat) (w : World) (h : NatOk w w.heap.size A x) (h2 : NatOk w w.heap.size A2 x) (hn : dl x ≤ 1073741824) :
    Calls Try.prog 27 #[.slice A (dl x) c, .slice A2 (dl x) c2] w fun e w' => e = .returned (.bool true) ∧ Below w.heap.size w w' := by
  obtain ⟨n, hn'⟩ : ∃ n, n = dl x := ⟨_, rfl⟩
  have HN := hid hn'
  rw [← hn'] at hn ⊢
  clear hn'
  go_enter Try.func27, Try.ntmps27
  go_wp2
  go_loopg [5] n (fun gg iv wx => ∃ k : Nat, iv = .int .i64 (k : Nat) ∧ k ≤ n ∧ n ≤ k + gg ∧ Below w.heap.size w wx)
  case atStart => exact ⟨0, rfl, by omega, by omega, Below.refl _ _⟩
  case round =>
    obtain ⟨k, rfl, hk, hkg, hB⟩ := hrel
    by_cases hlt : k < n
    · obtain ⟨b, o, rfl, hb, e0⟩ := Lims.at (h.on hB) (i := k) (by rw [← HN.out]; exact hlt)
      obtain ⟨b2, o2, rfl, hb2, e2⟩ := Lims.at (h2.on hB) (i := k) (by rw [← HN.out]; exact hlt)
      have hlt' : (k : Int) < (n : Int) := by omega
      have hk0 : (0 : Int) ≤ (k : Int) := by omega
      go_wp2
      go_quiet (fail)
      go_wp2
      go_roundg (gk - 1)
      case measure => omega
      case rel => exact ⟨k + 1, by go_num, by omega, by omega, below_drewN hB _⟩
    · obtain rfl : k = n := by omega
      go_wp2
      go_ret
      exact ⟨rfl, hB⟩
end Go.Proofs.Ytgininddoalenaa

namespace Go.Proofs.Ytgininddoalenaa
open Go.RowKit

set_option maxRecDepth 100000 in
set_option maxHeartbeats 4000000 in
theorem refMul_any (A A2 : Option Addr) (n c m c2 : Nat) (f g : Nat → Nat) (w : World) (h : Lims w w.heap.size A n f) (h2 : Lims w w.heap.size A2 m g) (hf : Hid (∀ i, i < n → f i < 4294967296)) (hg : Hid (∀ i, i < m → g i < 4294967296)) (hn : n ≤ 536870912) (hm : m ≤ 536870912) :
    Calls Try.prog 69 #[.slice A n c, .slice A2 m c2] w (NatPost (nv f n * nv g m) w) := by
  have hmk := fun W => run_makeI (P := Try.prog) 39 77 _ 4 Try.underlying39 Try.infoU32 rfl ((n : Int) + (m : Int)) (by omega) (by omega) (by omega) W
  have e1 : ((n : Int) + (m : Int)).toNat = n + m := by omega
  have hrow0 := World.rowIs_made w (.int .u32 0) (n + m) 77
  go_enter Try.func69, Try.ntmps69
  go_wp2
  go_loopg [6] n (fun gg iv wx => ∃ k : Nat, ∃ o : Nat → Nat, iv = .int .i64 (k : Nat) ∧ k ≤ n ∧ n ≤ k + gg ∧ Below w.heap.size w wx ∧ wx.rowIs w.heap.size 77 (n + m) (fun i => .int .u32 (o i : Nat)) ∧ Hid (∀ i, o i < 4294967296) ∧ Hid (∀ i, k + m ≤ i → o i = 0) ∧ Hid (nv o (n + m) = nv f k * nv g m))
  case atStart => exact ⟨0, fun _ => 0, rfl, by omega, by omega, (Below.refl _ _).alloc (Nat.le_refl _) _, hrow0, hid fun _ => by show 0 < _; omega, hid fun _ _ => rfl, hid (by rw [nv_zero fun _ _ => rfl]; simp [nv])⟩
  case round =>
    clear hrow0 hmk e1
    obtain ⟨k, o, rfl, hk, hkg, hB, hrow, HO, HZ, HV⟩ := hrel
    by_cases hlt : k < n
    · have q1 := hf.out k hlt
      have hlt' : (k : Int) < (n : Int) := by omega
      obtain ⟨x, hx⟩ : ∃ x, x = f k := ⟨_, rfl⟩
      rw [← hx] at q1
      have HX := hid hx
      obtain ⟨wo, rfl⟩ : ∃ wo : World, wo = wr := ⟨_, rfl⟩
      obtain ⟨K, rfl⟩ : ∃ K : Nat, K = gk := ⟨_, rfl⟩
      clear hx
      go_wp2
      go_loopg [8, 7] m (fun gg jv cv wx => ∃ j cc : Nat, ∃ o' : Nat → Nat, jv = .int .i64 (j : Nat) ∧ cv = .int .u64 (cc : Nat) ∧ j ≤ m ∧ m ≤ j + gg ∧ cc < 4294967296 ∧ Below w.heap.size w wx ∧ wx.rowIs w.heap.size 77 (n + m) (fun i => .int .u32 (o' i : Nat)) ∧ Hid (∀ i, o' i < 4294967296) ∧ Hid (∀ i, k + m ≤ i → o' i = 0) ∧ Hid (nv o' (n + m) + cc * 4294967296 ^ (k + j) = nv o (n + m) + x * nv g j * 4294967296 ^ k))
      case atStart => exact ⟨0, 0, o, rfl, rfl, by omega, by omega, by omega, hB, hrow, HO, HZ, hid (by simp [nv])⟩
      case round =>
        clear hB hrow
        obtain ⟨j, cc, o', rfl, rfl, hj, hjg, hcc, hB, hrow, HO', HZ', HV'⟩ := hrel
        have hz := hrow.lt
        by_cases hjlt : j < m
        · obtain ⟨b, o1, rfl, hb, e0⟩ := (h.on hB).at hlt
          rw [← HX.out] at e0
          obtain ⟨b2, o2, rfl, hb2, e2⟩ := (h2.on hB).at hjlt
          have hk0 : (0 : Int) ≤ (k : Int) := by omega
          have hj0 : (0 : Int) ≤ (j : Int) := by omega
          have hkj0 : (0 : Int) ≤ (k : Int) + (j : Int) := by omega
          have hkj1 : (k : Int) + (j : Int) < (n : Int) + (m : Int) := by omega
          have hkj2 : IntKind.i64.wrap ((k : Int) + (j : Int)) = (k : Int) + (j : Int) := IntWalk.i64_in _ (by omega)
          have q2 := hg.out j hjlt
          have hjlt' : (j : Int) < (m : Int) := by omega
          have y0 := hrow.cell (i := k + j) (by omega)
          have z0 := hrow.frozen (k + j)
          have q3 := HO'.out (k + j)
          have hix : ((k : Int) + (j : Int)).toNat = k + j := by omega
          obtain ⟨y, hy⟩ : ∃ y, y = g j := ⟨_, rfl⟩
          obtain ⟨u, hu⟩ : ∃ u, u = o' (k + j) := ⟨_, rfl⟩
          rw [← hy] at e2 q2
          have K1 := hid (times_step (y := y) (show k + j < n + m by omega) HV'.out hy)
          rw [← hu] at y0 q3 K1
          have p0 : (0 : Int) ≤ (x : Int) * (y : Int) := by rw [← Int.natCast_mul]; omega
          have p1 : (x : Int) * (y : Int) ≤ 18446744065119617025 := by rw [← Int.natCast_mul]; have := limb_mul q1 q2; omega
          have p2 : (x : Int) * (y : Int) = ((x * y : Nat) : Int) := by rw [Int.natCast_mul]
          have p3 := limb_mul q1 q2
          have K2 : Hid ((wr.setCell ⟨w.heap.size, k + j, none⟩ (.int .u32 (((x : Int) * y + u + cc) % 4294967296))).rowIs w.heap.size 77 (n + m) (fun i => .int .u32 (upd o' (k + j) ((x * y + u + cc) % 4294967296) i : Nat))) := by
            refine (hrow.set (k + j) _).congr fun i _ => ?_
            unfold upd
            by_cases e : i = k + j
            · rw [if_pos e, if_pos e]; congr 1 <;> omega
            · rw [if_neg e, if_neg e]
          have K3 : Hid (∀ i, upd o' (k + j) ((x * y + u + cc) % 4294967296) i < 4294967296) := fun i => by
            unfold upd
            split
            · omega
            · exact HO'.out i
          have K4 : Hid (∀ i, k + m ≤ i → upd o' (k + j) ((x * y + u + cc) % 4294967296) i = 0) := fun i hi => by
            rw [upd_other (by omega)]; exact HZ'.out i hi
          have K5 : Hid ((((x : Int) * y + u + cc) / 4294967296) = (((x * y + u + cc) / 4294967296 : Nat) : Int)) := by show _ = _; omega
          have K6 : Hid ((x * y + u + cc) / 4294967296 < 4294967296) := by show _ < _; omega
          have p4 : IntKind.u64.wrap ((x : Int) * (y : Int)) = (x : Int) * (y : Int) := IntWalk.u64_in _ (by omega)
          have p5 : IntKind.u64.wrap ((x : Int) * (y : Int) + (u : Int)) = (x : Int) * (y : Int) + (u : Int) := IntWalk.u64_in _ (by omega)
          have p6 : IntKind.u64.wrap ((x : Int) * (y : Int) + (u : Int) + (cc : Int)) = (x : Int) * (y : Int) + (u : Int) + (cc : Int) := IntWalk.u64_in _ (by omega)
          have KD : Hid (∀ dn, ((wr.drewN dn).setCell ⟨w.heap.size, k + j, none⟩ (.int .u32 (((x : Int) * y + u + cc) % 4294967296))).rowIs w.heap.size 77 (n + m) (fun i => .int .u32 (upd o' (k + j) ((x * y + u + cc) % 4294967296) i : Nat))) := fun dn => K2.out
          clear hy hu p2 hrow
          go_wp2
          go_quiet (fail)
          go_wp2
          go_roundg (gk - 1)
          case measure => omega
          case rel => exact ⟨j + 1, (x * y + u + cc) / 4294967296, _, by go_num, by rw [← K5.out], by omega, by omega, K6.out, (below_drewN hB _).setCell (Nat.le_refl _) _, KD.out _, K3, K4, K1⟩
        · obtain rfl : j = m := by omega
          have y0 := hrow.cell (i := k + j) (by omega)
          have z0 := hrow.frozen (k + j)
          have hix : ((k : Int) + (j : Int)).toNat = k + j := by omega
          have K1 : Hid (nv (upd o' (k + j) cc) (n + j) = nv f (k + 1) * nv g j) := by
            have h1 := nv_upd (f := o') (v := cc) (show k + j < n + j by omega)
            rw [HZ'.out (k + j) (Nat.le_refl _)] at h1
            have h3 := HV'.out
            rw [HV.out, HX.out] at h3
            show _ = _
            simp only [nv]
            grind
          have K2 : Hid ((wr.setCell ⟨w.heap.size, k + j, none⟩ (.int .u32 (cc : Nat))).rowIs w.heap.size 77 (n + j) (fun i => .int .u32 (upd o' (k + j) cc i : Nat))) := by
            refine (hrow.set (k + j) _).congr fun i _ => ?_
            unfold upd
            by_cases e : i = k + j
            · rw [if_pos e, if_pos e]
            · rw [if_neg e, if_neg e]
          have K3 : Hid (∀ i, upd o' (k + j) cc i < 4294967296) := fun i => by
            unfold upd
            split
            · omega
            · exact HO'.out i
          have K4 : Hid (∀ i, k + 1 + j ≤ i → upd o' (k + j) cc i = 0) := fun i hi => by
            rw [upd_other (by omega)]; exact HZ'.out i (by omega)
          clear hrow
          go_wp2
          go_roundg (K - 1)
          case measure => omega
          case rel => exact ⟨k + 1, _, by go_num, by omega, by omega, hB.setCell (Nat.le_refl _) _, K2.out, K3, K4, K1⟩
    · obtain rfl : k = n := by omega
      have hob : Hid (∀ i, i < k + m → o i < 4294967296) := fun i _ => HO.out i
      go_wp2_with fail
      refine (refTrim_any (some ⟨w.heap.size, 0, none⟩) (k + m) (k + m) o wr (lims_row hrow) hob (Nat.le_refl _) (by unfold maxLen; omega) (by omega)).mono ?_
      rintro e w1 ⟨A', c', rfl, g1, g2, g3, g4⟩
      rw [HV.out] at g1 g3 ⊢
      have hB2 := onS hB g4
      clear hrow HO HZ hB g4
      go_wp2
      go_ret
      exact ⟨A', c', rfl, g1, g2, g3, hB2⟩

theorem refMul_nat (A A2 : Option Addr) (c c2 x y : Nat) (w : World) (h : NatOk w w.heap.size A x) (h2 : NatOk w w.heap.size A2 y) (hn : dl x ≤ 536870912) (hn2 : dl y ≤ 536870912) :
    Calls Try.prog 69 #[.slice A (dl x) c, .slice A2 (dl y) c2] w (NatPost (x * y) w) := by
  have := refMul_any A A2 (dl x) c (dl y) c2 (dg x) (dg y) w h h2 (dg_all x) (dg_all y) hn hn2
  rwa [nv_dg, nv_dg] at this

theorem dl_mul_limb {x n L : Nat} (h : dl x ≤ L) (hn : n < 4294967296) : dl (x * n) ≤ L + 1 := by
  refine dl_le ?_
  have h1 := lt_pow_dl x
  have h2 : (4294967296 : Nat) ^ dl x ≤ 4294967296 ^ L := Nat.pow_le_pow_right (by omega) h
  rw [Nat.pow_succ]
  exact Nat.mul_lt_mul_of_lt_of_le (Nat.lt_of_lt_of_le h1 h2) (by omega) (by omega)

set_option maxRecDepth 100000 in
set_option maxHeartbeats 4000000 in
theorem small_any (A : Option Addr) (c x0 n b : Nat) (w : World) (h : NatOk w w.heap.size A x0) (hn : n < 4294967296) (hl : dl x0 ≤ 268435456) (hb0 : 0 < b) (hb1 : b < 4294967296) :
    Calls Try.prog 105 #[.slice A (dl x0) c, .int .i64 (n : Nat), .int .i64 (b : Nat)] w (NatPost (x0 * n / b) w) := by
  have hdn : dl n ≤ 1 := dl_le (by omega)
  have hdx : dl (x0 * n) ≤ 268435456 + 1 := dl_mul_limb hl hn
  go_enter Try.func105, Try.ntmps105
  go_wp2_with fail
  refine (refOf_any n w (by omega)).mono ?_
  rintro e w1 ⟨A1, c1, rfl, f1, f2, f3, f4⟩
  have hA1 := h.on f4
  go_wp2_with fail
  refine (refMul_nat A A1 c c1 x0 n w1 hA1 f3 (by omega) (by omega)).mono ?_
  rintro e w2 ⟨A2, c2, rfl, g1, g2, g3, g4⟩
  have hB0 := onS f4 g4
  obtain ⟨l, hl2⟩ : ∃ l, l = dl (x0 * n) := ⟨_, rfl⟩
  have HL := hid hl2
  have hlb : l ≤ 268435457 := by omega
  have hLi : Lims w2 w2.heap.size A2 l (dg (x0 * n)) := by rw [hl2]; exact g3
  rw [← hl2] at g1 ⊢
  clear hl2 f1 f2 f3 f4 g3 g4 hA1 h hdx
  have hmk := fun W => run_makeI (P := Try.prog) 39 77 _ 4 Try.underlying39 Try.infoU32 rfl (l : Int) (by omega) (by omega) (by omega) W
  have hrow0 := World.rowIs_made w2 (.int .u32 0) l 77
  have hsz := hB0.size
  go_wp2
  go_loopg [9, 8] l (fun gg iv rv wx => ∃ k r : Nat, ∃ o : Nat → Nat, iv = .int .i64 ((k : Nat) - 1 : Int) ∧ rv = .int .u64 (r : Nat) ∧ k ≤ l ∧ k ≤ gg ∧ r < b ∧ Below w2.heap.size w2 wx ∧ wx.rowIs w2.heap.size 77 l (fun i => .int .u32 (o i : Nat)) ∧ Hid (∀ i, o i < 4294967296) ∧ Hid (hv (dg (x0 * n)) k l = b * hv o k l + r))
  case atStart => exact ⟨l, 0, fun _ => 0, rfl, rfl, by omega, by omega, hb0, (Below.refl _ _).alloc (Nat.le_refl _) _, hrow0, hid fun _ => by show 0 < _; omega, hid (by rw [hv_end, hv_end]; rfl)⟩
  case round =>
    clear hrow0 hmk
    obtain ⟨k, r, o, rfl, rfl, hk, hkg, hr, hB, hrow, HO, HV⟩ := hrel
    have hz := hrow.lt
    by_cases h0 : 0 < k
    · obtain ⟨k, rfl⟩ : ∃ k', k = k' + 1 := ⟨k - 1, by omega⟩
      have ek : (((k + 1 : Nat) : Int) - 1) = (k : Int) := by omega
      rw [ek]
      obtain ⟨b1, o1, rfl, hb2, e0⟩ := (hLi.on hB).at (i := k) (by omega)
      have q1 := dg_lt (x0 * n) k
      have hlt' : (k : Int) < (l : Int) := by omega
      have y0 := hrow.cell (i := k) (by omega)
      have z0 := hrow.frozen k
      have K1 := hid (digit_step (show k < l by omega) HV.out)
      obtain ⟨x, hx⟩ : ∃ x, x = dg (x0 * n) k := ⟨_, rfl⟩
      rw [← hx] at e0 q1 K1
      have K4 := hid (digit_lt hr q1)
      obtain ⟨t, ht⟩ : ∃ t, t = r * 4294967296 + x := ⟨_, rfl⟩
      have hor : (r : Int) * 4294967296 + (x : Int) = (t : Int) := by omega
      rw [← ht] at K1 K4
      obtain ⟨q, hq⟩ : ∃ q, q = t / b := ⟨_, rfl⟩
      obtain ⟨s, hs⟩ : ∃ s, s = t % b := ⟨_, rfl⟩
      have hsb : s < b := by rw [hs]; exact Nat.mod_lt _ hb0
      have hq1 : (t : Int).tdiv (b : Int) = (q : Int) := by rw [hq, Int.tdiv_eq_ediv_of_nonneg (by omega)]; rfl
      have hs1 : (t : Int).tmod (b : Int) = (s : Int) := by rw [hs, Int.tmod_eq_emod_of_nonneg (by omega)]; rfl
      rw [← hq, ← hs] at K1
      rw [← hq] at K4
      have hqb := K4.out
      have hwq : IntKind.u64.wrap (q : Int) = (q : Int) := IntWalk.u64_in _ (by omega)
      have hwm : (q : Int) % 4294967296 = (q : Int) := by omega
      have K2 : Hid ((wr.setCell ⟨w2.heap.size, k, none⟩ (.int .u32 (q : Nat))).rowIs w2.heap.size 77 l (fun i => .int .u32 (upd o k q i : Nat))) := by
        refine (hrow.set k _).congr fun i _ => ?_
        unfold upd
        by_cases e : i = k
        · rw [if_pos e, if_pos e]
        · rw [if_neg e, if_neg e]
      have K3 : Hid (∀ i, upd o k q i < 4294967296) := fun i => by
        unfold upd
        split
        · exact hqb
        · exact HO.out i
      have hbne : ((b : Int) == 0) = false := by simp; omega
      have htb : (t : Int) ≤ 18446744073709551615 := by omega
      clear hx ek hq hs ht
      go_wp2
      go_roundg (gk - 1)
      case measure => omega
      case rel => exact ⟨k, s, _, rfl, rfl, by omega, by omega, hsb, hB.setCell (Nat.le_refl _) _, K2.out, K3, K1⟩
    · obtain rfl : k = 0 := by omega
      have HQ : Hid (nv o l = x0 * n / b) := by
        have := HV.out
        rw [hv_all, hv_all, HL.out, nv_dg] at this
        show _ = _
        rw [this, Nat.mul_add_div hb0, Nat.div_eq_of_lt hr, Nat.add_zero, HL.out]
      have hob : Hid (∀ i, i < l → o i < 4294967296) := fun i _ => HO.out i
      go_wp2_with fail
      refine (refTrim_any (some ⟨w2.heap.size, 0, none⟩) l l o wr (lims_row hrow) hob (Nat.le_refl _) (by unfold maxLen; omega) (by omega)).mono ?_
      rintro e w3 ⟨A', c', rfl, g1, g2, g3, g4⟩
      rw [HQ.out] at g1 g3 ⊢
      have hB2 := onS (onS hB0 hB) g4
      clear hrow HO HV g4
      go_wp2
      go_ret
      exact ⟨A', c', rfl, g1, g2, g3, hB2⟩

set_option maxHeartbeats 4000000 in
theorem refChoose_any (n k : Nat) (w : World) (hn : n ≤ 4096) (hk : k ≤ n) :
    Calls Try.prog 70 #[.int .i64 (n : Nat), .int .i64 (k : Nat)] w (NatPost (chs n k) w) := by
  have hone := natOk_one (w := w) 77 (x := 1) (by omega) (by omega)
  have d1 := hid (dl_small (x := 1) (by omega) (by omega))
  have c0 := hid (chs_zero n)
  have b3 : decide ((k : Int) < 0) = false := by simp
  have b4 : decide (n < k) = false := by simp; omega
  go_enter Try.func70, Try.ntmps70
  go_wp2
  go_loopg [6, 5] k (fun gg iv ov wx => ∃ i : Nat, ∃ A c, iv = .int .i64 (i : Nat) ∧ ov = .slice A (dl (chs n i)) c ∧ i ≤ k ∧ k ≤ i + gg ∧ dl (chs n i) ≤ c ∧ c ≤ maxLen ∧ NatOk wx wx.heap.size A (chs n i) ∧ Below w.heap.size w wx)
  case atStart => exact ⟨0, _, 1, rfl, by rw [c0.out, d1.out], by omega, by omega, by rw [c0.out, d1.out]; omega, by unfold maxLen; omega, by rw [c0.out]; exact hone, (Below.refl _ _).alloc (Nat.le_refl _) _⟩
  case round =>
    clear hone
    obtain ⟨i, A, c, rfl, rfl, hi, hig, hc, hcm, hA, hB⟩ := hrel
    have hd := dl_chs n i hn
    by_cases hlt : i < k
    · have e1 : ((n - i : Nat) : Int) = (n : Int) - (i : Int) := by omega
      have CS := small_any A c (chs n i) (n - i) (i + 1) wr hA (by omega) (by omega) (by omega) (by omega)
      rw [chs_div, e1] at CS
      have HCS := hid CS
      clear CS e1
      go_wp2_with fail
      refine HCS.out.mono ?_
      rintro e w3 ⟨A3, c3, rfl, f1, f2, f3, f4⟩
      have hB3 := onS hB f4
      clear f4 hA HCS
      go_wp2
      go_roundg (gk - 1)
      case measure => omega
      case rel => exact ⟨i + 1, A3, c3, by go_num, rfl, by omega, by omega, f1, f2, f3, hB3⟩
    · obtain rfl : i = k := by omega
      go_wp2
      go_ret
      exact ⟨A, c, rfl, hc, hcm, hA, hB⟩
end Go.Proofs.Ytgininddoalenaa

namespace Go.Proofs.Ytgininddoalenaa
open Go.RowKit

theorem pow_bit {x n d : Nat} : x ^ (n / (2 * d)) * x ^ (n / (2 * d)) * (if n / d % 2 = 1 then x else 1) = x ^ (n / d) := by
  have e : n / (2 * d) = n / d / 2 := by rw [Nat.div_div_eq_div_mul, Nat.mul_comm d 2]
  rw [e, ← Nat.pow_add]
  split
  · rename_i h
    rw [← Nat.pow_succ]
    congr 1
    omega
  · rw [Nat.mul_one]
    congr 1
    omega

set_option maxHeartbeats 4000000 in
theorem refPow_any (A : Option Addr) (c x n : Nat) (w : World) (h : NatOk w w.heap.size A x) (hc : dl x ≤ c) (hm : c ≤ maxLen) (hn : dl x ≤ 1048576) (hnn : n ≤ 131072) (hbig : dl (x ^ n) ≤ 4096) :
    Calls Try.prog 37 #[.slice A (dl x) c, .int .i64 (n : Nat)] w (NatOkPost (x ^ n) w) := by
  have d1 := hid (dl_small (x := 1) (by omega) (by omega))
  go_enter Try.func37, Try.ntmps37
  go_wp2_with fail
  refine (refTrim_nat A c x w h hc hm (by omega)).mono ?_
  rintro e w1 ⟨A1, c1, rfl, f1, f2, f3, f4⟩
  have hone := natOk_one (w := w1) 77 (x := 1) (by omega) (by omega)
  clear h
  by_cases h0 : n = 0
  · subst h0
    have H := hid (show x ^ 0 = 1 from Nat.pow_zero x)
    go_wp2
    go_ret2
    exact ⟨_, 1, by rw [H.out, d1.out]; rfl, by rw [H.out, d1.out]; omega, by unfold maxLen; omega, by rw [H.out]; exact hone, f4.alloc f4.size _⟩
  · have n0 : ((n : Int) == 0) = false := by simp; omega
    go_wp2_with fail
    refine (refBits_any A1 c1 x w1 f3 f1 f2 (by omega)).mono ?_
    rintro e w2 ⟨rfl, g4⟩
    have hB2 := onS f4 g4
    have hx2 := f3.on g4
    clear hone f3 g4 f4
    by_cases hl : nlen x ≤ 1
    · have H := hid (show x ^ n = x by
        by_cases e : x = 0
        · rw [e]; exact Nat.zero_pow (by omega)
        · have : nlen x ≠ 0 := mt nlen_eq_zero.1 e
          have : x = 1 := nlen_eq_one.1 (by omega)
          rw [this]; exact Nat.one_pow n)
      have hl2 : ((nlen x : Nat) : Int) ≤ 1 := by omega
      go_wp2
      go_ret2
      exact ⟨A1, c1, by rw [H.out]; rfl, by rw [H.out]; exact f1, f2, by rw [H.out]; exact hx2, hB2⟩
    · have hl2 : ¬ ((nlen x : Nat) : Int) ≤ 1 := by omega
      have hx0 : 0 < x := by
        rcases Nat.eq_zero_or_pos x with e | e
        · rw [e, nlen_zero] at hl; omega
        · exact e
      have HBG := hid hbig
      have hone2 := natOk_one (w := w2) 77 (x := 1) (by omega) (by omega)
      have hx3 := hx2.on (below_one w2 (Obj.cells #[Value.int .u32 ((1 : Nat) : Int)] 77))
      have hB3 := hB2.alloc hB2.size (Obj.cells #[Value.int .u32 ((1 : Nat) : Int)] 77)
      have HS : Hid (x ^ (n / (2 * 262144)) = 1) := by show _ = _; rw [Nat.div_eq_of_lt (by omega), Nat.pow_zero]
      go_wp2
      go_loopg [7, 6] 20 (fun gg dv ov wx => ∃ d j o : Nat, ∃ Ao co, dv = .int .i64 (d : Nat) ∧ ov = .slice Ao (dl o) co ∧ Hid ((d = 0 ∧ o = x ^ n ∧ 0 ≤ gg) ∨ (d = 2 ^ j ∧ j + 1 ≤ gg ∧ o = x ^ (n / (2 * d)))) ∧ d ≤ 262144 ∧ dl o ≤ 4096 ∧ dl o ≤ co ∧ co ≤ maxLen ∧ NatOk wx wx.heap.size Ao o ∧ NatOk wx wx.heap.size A1 x ∧ Below w.heap.size w wx)
      case atStart => exact ⟨262144, 18, 1, _, 1, rfl, by rw [d1.out], hid (.inr ⟨by decide, by omega, HS.out.symm⟩), by omega, by rw [d1.out]; omega, by rw [d1.out]; omega, by unfold maxLen; omega, hone2, hx3, hB3⟩
      case round =>
        clear hone2 hx3 hB3 hB2 hx2 HS
        obtain ⟨d, j, o, Ao, co, rfl, rfl, HJ, hd, hdo, ho1, ho2, hAo, hAx, hB⟩ := hrel
        by_cases hd0 : d = 0
        · have HO : Hid (o = x ^ n) := by
            rcases HJ.out with ⟨_, e, _⟩ | ⟨e, _⟩
            · exact e
            · have : 0 < 2 ^ j := Nat.pow_pos (by omega)
              exfalso; omega
          subst hd0
          go_wp2
          go_ret2
          exact ⟨Ao, co, by rw [← HO.out]; rfl, by rw [← HO.out]; exact ho1, ho2, by rw [← HO.out]; exact hAo, hB⟩
        · have HJ2 : Hid (d = 2 ^ j ∧ j + 1 ≤ gk ∧ o = x ^ (n / (2 * d))) := by
            rcases HJ.out with ⟨e, _⟩ | e
            · exact absurd e hd0
            · exact e
          have hgk : 0 < gk := by have := HJ2.out.2.1; omega
          have hdp : (0 : Int) < (d : Int) := by omega
          obtain ⟨q, hq⟩ : ∃ q, q = n / d := ⟨_, rfl⟩
          have hq1 : (n : Int).tdiv (d : Int) = (q : Int) := by rw [hq, Int.tdiv_eq_ediv_of_nonneg (by omega)]; rfl
          have hqn : q ≤ n := by rw [hq]; exact Nat.div_le_self _ _
          have hwq : IntKind.i64.wrap (q : Int) = (q : Int) := IntWalk.i64_in _ (by omega)
          have hdne : ((d : Int) == 0) = false := by simp; omega
          have HQ := hid hq
          have hle : Hid (x ^ q ≤ x ^ n) := Nat.pow_le_pow_right hx0 hqn
          have hdq : dl (x ^ q) ≤ 4096 := by have := dl_mono hle.out; have := HBG.out; omega
          have HB2 : Hid (∀ oo : Nat, oo = x ^ q → ∃ j', (d / 2 = 0 ∧ oo = x ^ n ∧ 0 ≤ gk - 1) ∨ (d / 2 = 2 ^ j' ∧ j' + 1 ≤ gk - 1 ∧ oo = x ^ (n / (2 * (d / 2))))) := fun oo hoo => by
            obtain ⟨e1, e2, _⟩ := HJ2.out
            cases j with
            | zero =>
              rw [Nat.pow_zero] at e1
              refine ⟨0, .inl ⟨by omega, ?_, by omega⟩⟩
              rw [hoo, HQ.out, e1, Nat.div_one]
            | succ j =>
              rw [Nat.pow_succ] at e1
              refine ⟨j, .inr ⟨by omega, by omega, ?_⟩⟩
              rw [hoo, HQ.out, show 2 * (d / 2) = d by omega]
          have hd2 : ((d : Int) / 2) = ((d / 2 : Nat) : Int) := by omega
          have HD2 := hid hd2
          have HP : Hid (o * o * (if q % 2 = 1 then x else 1) = x ^ q) := by
            have := pow_bit (x := x) (n := n) (d := d)
            rw [← HJ2.out.2.2, ← HQ.out] at this
            exact this
          clear hq hd2
          go_wp2_with fail
          refine (refMul_nat Ao Ao co co o o wr hAo hAo (by omega) (by omega)).mono ?_
          rintro e w3 ⟨A3, c3, rfl, g1, g2, g3, g4⟩
          have hB3 := onS hB g4
          have hAx3 := hAx.on g4
          clear hAo hAx g4 hB
          by_cases hpar : q % 2 = 1
          · have hp1 : (q : Int) % 2 = 1 := by omega
            have hp2 : (q : Int).tmod 2 = 1 := by rw [Int.tmod_eq_emod_of_nonneg (by omega)]; exact hp1
            have HE : Hid (o * o * x = x ^ q) := by have := HP.out; rwa [if_pos hpar] at this
            have hdoo : dl (o * o) ≤ 536870912 := by
              have h1 : o * o ≤ o * o * x := Nat.le_mul_of_pos_right _ hx0
              rw [HE.out] at h1
              have := dl_mono h1
              omega
            go_wp2_with fail
            refine (refMul_nat A3 A1 c3 c1 (o * o) x w3 g3 hAx3 hdoo (by omega)).mono ?_
            rintro e w4 ⟨A4, c4, rfl, k1, k2, k3, k4⟩
            rw [HE.out] at k1 k3 ⊢
            have hB4 := onS hB3 k4
            have hAx4 := hAx3.on k4
            have hdq' : ((dl (x ^ q) : Nat) : Int) ≤ 4096 := by omega
            obtain ⟨j', hj'⟩ := HB2.out _ rfl
            have HJ' := hid hj'
            clear hj' g3 hAx3 k4 hB3
            go_wp2
            go_roundg (gk - 1)
            case measure => omega
            case rel => exact ⟨d / 2, j', x ^ q, A4, c4, by rw [HD2.out], rfl, HJ', by omega, hdq, k1, k2, k3, hAx4, hB4⟩
          · have hp1 : (q : Int) % 2 = 0 := by omega
            have hp2 : (q : Int).tmod 2 = 0 := by rw [Int.tmod_eq_emod_of_nonneg (by omega)]; exact hp1
            have HE : Hid (o * o = x ^ q) := by have := HP.out; rwa [if_neg hpar, Nat.mul_one] at this
            rw [HE.out] at g1 g3 ⊢
            have hdq' : ((dl (x ^ q) : Nat) : Int) ≤ 4096 := by omega
            obtain ⟨j', hj'⟩ := HB2.out _ rfl
            have HJ' := hid hj'
            clear hj'
            go_wp2
            go_roundg (gk - 1)
            case measure => omega
            case rel => exact ⟨d / 2, j', x ^ q, A3, c3, by rw [HD2.out], rfl, HJ', by omega, hdq, g1, g2, g3, hAx3, hB3⟩
end Go.Proofs.Ytgininddoalenaa

namespace Go.Proofs.Ytgininddoalenaa
open Go.RowKit

/-- -1, 0 or 1. -/
def cmpN (x y : Nat) : Int := if x < y then -1 else if y < x then 1 else 0
theorem cmpN_lt {x y : Nat} (h : x < y) : cmpN x y = -1 := by simp [cmpN, h]
theorem cmpN_gt {x y : Nat} (h : y < x) : cmpN x y = 1 := by unfold cmpN; rw [if_neg (by omega), if_pos h]
theorem cmpN_eq {x y : Nat} (h : x = y) : cmpN x y = 0 := by unfold cmpN; rw [if_neg (by omega), if_neg (by omega)]

theorem nv_cmp {f g : Nat → Nat} {n k : Nat} (hf : ∀ i, i < n → f i < 4294967296) (hk : k < n) (he : ∀ j, k < j → j < n → f j = g j) (hl : f k < g k) : nv f n < nv g n := by
  induction n with
  | zero => omega
  | succ n ih =>
    simp only [nv]
    by_cases e : k = n
    · subst e
      have h1 := nv_lt (f := f) (n := k) fun i hi => hf i (by omega)
      have h2 : (f k + 1) * 4294967296 ^ k ≤ g k * 4294967296 ^ k := Nat.mul_le_mul_right _ hl
      rw [Nat.add_mul, Nat.one_mul] at h2
      omega
    · have h1 := ih (fun i hi => hf i (by omega)) (by omega) fun j h1 h2 => he j h1 (by omega)
      rw [he n (by omega) (by omega)]
      omega
theorem lt_of_dl {x y : Nat} (h : dl x < dl y) : x < y := by
  rcases Nat.lt_or_ge x y with h1 | h1
  · exact h1
  · have := dl_mono h1; omega

set_option maxHeartbeats 4000000 in
theorem natCmp_any (A A2 : Option Addr) (c c2 x y : Nat) (w : World) (h : NatOk w w.heap.size A x) (h2 : NatOk w w.heap.size A2 y) (hc : dl x ≤ c) (hm : c ≤ maxLen) (hc2 : dl y ≤ c2) (hm2 : c2 ≤ maxLen) (hn2 : dl y ≤ 1073741824) :
    Calls Try.prog 75 #[.slice A (dl x) c, .slice A2 (dl y) c2] w fun e w' => e = .returned (.int .i64 (cmpN x y)) ∧ Below w.heap.size w w' := by
  go_enter Try.func75, Try.ntmps75
  go_wp2_with fail
  refine (short_nat A c x w h hc hm).mono ?_
  rintro e w1 ⟨rfl, rfl⟩
  go_wp2_with fail
  refine (short_nat A2 c2 y w h2 hc2 hm2).mono ?_
  rintro e w1 ⟨rfl, rfl⟩
  by_cases hd : dl x = dl y
  · obtain ⟨n, hn'⟩ : ∃ n, n = dl y := ⟨_, rfl⟩
    have hX : nv (dg x) n = x := by rw [hn', ← hd, nv_dg]
    have hY : nv (dg y) n = y := by rw [hn', nv_dg]
    have HX := hid hX
    have HY := hid hY
    have h3 : Lims w w.heap.size A n (dg x) := by rw [hn', ← hd]; exact h
    have h4 : Lims w w.heap.size A2 n (dg y) := by rw [hn']; exact h2
    rw [hd, ← hn']
    rw [← hn'] at hn2
    clear hX hY h h2 hc hc2 hd hn'
    go_wp2
    go_loopg [5] n (fun gg iv wx => ∃ k : Nat, iv = .int .i64 ((k : Nat) - 1 : Int) ∧ k ≤ n ∧ k ≤ gg ∧ Hid (∀ j, k ≤ j → j < n → dg x j = dg y j) ∧ Below w.heap.size w wx)
    case atStart => exact ⟨n, rfl, by omega, by omega, hid fun j h1 h2 => absurd h1 (by omega), Below.refl _ _⟩
    case round =>
      obtain ⟨k, rfl, hk, hkg, HE, hB⟩ := hrel
      by_cases h0 : 0 < k
      · obtain ⟨k, rfl⟩ : ∃ k', k = k' + 1 := ⟨k - 1, by omega⟩
        have ek : (((k + 1 : Nat) : Int) - 1) = (k : Int) := by omega
        rw [ek]
        obtain ⟨b, o, rfl, hb, e0⟩ := (h3.on hB).at (i := k) (by omega)
        obtain ⟨b2, o2, rfl, hb2, e2⟩ := (h4.on hB).at (i := k) (by omega)
        have hk0 : (0 : Int) ≤ (k : Int) := by omega
        have hk1 : (k : Int) < (n : Int) := by omega
        have he := HE.out
        by_cases c1 : dg x k < dg y k
        · have HC := hid (cmpN_lt (x := x) (y := y) (by have := nv_cmp (f := dg x) (g := dg y) (n := n) (k := k) (fun i _ => dg_lt x i) (by omega) (fun j h1 h2 => he j (by omega) h2) c1; rwa [HX.out, HY.out] at this))
          obtain ⟨u, hu⟩ : ∃ u, u = dg x k := ⟨_, rfl⟩
          obtain ⟨v, hv⟩ : ∃ v, v = dg y k := ⟨_, rfl⟩
          rw [← hu] at e0 c1
          rw [← hv] at e2 c1
          clear ek he hu hv
          go_wp2
          go_quiet (fail)
          go_wp2
          go_ret
          exact ⟨ret_int HC.out.symm, below_drewN hB _⟩
        · by_cases c2 : dg y k < dg x k
          · have HC := hid (cmpN_gt (x := x) (y := y) (by have := nv_cmp (f := dg y) (g := dg x) (n := n) (k := k) (fun i _ => dg_lt y i) (by omega) (fun j h1 h2 => (he j (by omega) h2).symm) c2; rwa [HX.out, HY.out] at this))
            obtain ⟨u, hu⟩ : ∃ u, u = dg x k := ⟨_, rfl⟩
            obtain ⟨v, hv⟩ : ∃ v, v = dg y k := ⟨_, rfl⟩
            rw [← hu] at e0 c1 c2
            rw [← hv] at e2 c1 c2
            clear ek he hu hv
            go_wp2
            go_quiet (fail)
            go_wp2
            go_quiet (fail)
            go_wp2
            go_ret
            exact ⟨ret_int HC.out.symm, below_drewN (below_drewN hB _) _⟩
          · have heq : dg x k = dg y k := by omega
            have HN : Hid (∀ j, k ≤ j → j < n → dg x j = dg y j) := fun j h1 h2 => by
              by_cases e : j = k
              · rw [e]; exact heq
              · exact he j (by omega) h2
            rw [heq] at e0
            obtain ⟨v, hv⟩ : ∃ v, v = dg y k := ⟨_, rfl⟩
            rw [← hv] at e0 e2
            clear ek he hv heq c1 c2
            go_wp2
            go_quiet (fail)
            go_wp2
            go_quiet (fail)
            go_wp2
            go_roundg (gk - 1)
            case measure => omega
            case rel => exact ⟨k, rfl, by omega, by omega, HN, below_drewN hB _⟩
      · obtain rfl : k = 0 := by omega
        have HC := hid (cmpN_eq (x := x) (y := y) (by rw [← HX.out, ← HY.out]; exact nv_congr fun i hi => HE.out i (by omega) hi))
        go_wp2
        go_ret
        exact ⟨ret_int HC.out.symm, hB⟩
  · by_cases hlt : dl x < dl y
    · have HC := hid (cmpN_lt (lt_of_dl hlt))
      have d1 : ((dl x : Nat) : Int) < ((dl y : Nat) : Int) := by omega
      have d2 : (((dl x : Nat) : Int) != ((dl y : Nat) : Int)) = true := by simp; omega
      clear h h2
      go_wp2
      go_ret
      exact ⟨ret_int HC.out.symm, Below.refl _ _⟩
    · have HC := hid (cmpN_gt (lt_of_dl (x := y) (y := x) (by omega)))
      have d1 : ¬ ((dl x : Nat) : Int) < ((dl y : Nat) : Int) := by omega
      have d2 : (((dl x : Nat) : Int) != ((dl y : Nat) : Int)) = true := by simp; omega
      clear h h2
      go_wp2
      go_ret
      exact ⟨ret_int HC.out.symm, Below.refl _ _⟩

set_option maxHeartbeats 4000000 in
theorem refCmp_any (A A2 : Option Addr) (c c2 x y : Nat) (w : World) (h : NatOk w w.heap.size A x) (h2 : NatOk w w.heap.size A2 y) (hn : dl x ≤ 1073741824) (hn2 : dl y ≤ 1073741824) :
    Calls Try.prog 55 #[.slice A (dl x) c, .slice A2 (dl y) c2] w fun e w' => e = .returned (.int .i64 (cmpN x y)) ∧ w = w' := by
  obtain ⟨n, hnx, hny, hme, hnb⟩ : ∃ n : Nat, dl x ≤ n ∧ dl y ≤ n ∧ max ((dl x : Nat) : Int) ((dl y : Nat) : Int) = (n : Int) ∧ n ≤ 1073741824 := by
    by_cases e : dl x ≤ dl y
    · exact ⟨dl y, e, Nat.le_refl _, by omega, hn2⟩
    · exact ⟨dl x, Nat.le_refl _, by omega, by omega, hn⟩
  have hX : nv (padded (dg x) (dl x)) n = x := by rw [nv_padded _ hnx, nv_dg]
  have hY : nv (padded (dg y) (dl y)) n = y := by rw [nv_padded _ hny, nv_dg]
  have HX := hid hX
  have HY := hid hY
  have L1 := hid fun i => limb_in A (dl x) c i (dg x) w h (dg_all x)
  have L2 := hid fun i => limb_in A2 (dl y) c2 i (dg y) w h2 (dg_all y)
  clear hX hY h h2
  go_enter Try.func55, Try.ntmps55
  go_wp2
  go_loopg [5] n (fun gg iv wx => ∃ k : Nat, iv = .int .i64 ((k : Nat) - 1 : Int) ∧ k ≤ n ∧ k ≤ gg ∧ Hid (∀ j, k ≤ j → j < n → padded (dg x) (dl x) j = padded (dg y) (dl y) j) ∧ w = wx)
  case atStart => exact ⟨n, rfl, by omega, by omega, hid fun j h1 h2 => absurd h1 (by omega), rfl⟩
  case round =>
    obtain ⟨k, rfl, hk, hkg, HE, rfl⟩ := hrel
    by_cases h0 : 0 < k
    · obtain ⟨k, rfl⟩ : ∃ k', k = k' + 1 := ⟨k - 1, by omega⟩
      have ek : (((k + 1 : Nat) : Int) - 1) = (k : Int) := by omega
      rw [ek]
      have he := HE.out
      have l1 := L1.out k
      have l2 := L2.out k
      have q1 := padded_lt (dg_all x).out k
      have q2 := padded_lt (dg_all y).out k
      have lt1 : padded (dg x) (dl x) k < padded (dg y) (dl y) k → x < y := fun hh => by
        have := nv_cmp (f := padded (dg x) (dl x)) (g := padded (dg y) (dl y)) (n := n) (k := k) (fun i _ => padded_lt (dg_all x).out i) (by omega) (fun j h1 h2 => he j (by omega) h2) hh
        rwa [HX.out, HY.out] at this
      have lt2 : padded (dg y) (dl y) k < padded (dg x) (dl x) k → y < x := fun hh => by
        have := nv_cmp (f := padded (dg y) (dl y)) (g := padded (dg x) (dl x)) (n := n) (k := k) (fun i _ => padded_lt (dg_all y).out i) (by omega) (fun j h1 h2 => (he j (by omega) h2).symm) hh
        rwa [HX.out, HY.out] at this
      have HN : padded (dg x) (dl x) k = padded (dg y) (dl y) k → Hid (∀ j, k ≤ j → j < n → padded (dg x) (dl x) j = padded (dg y) (dl y) j) := fun heq j h1 h2 => by
        by_cases e : j = k
        · rw [e]; exact heq
        · exact he j (by omega) h2
      obtain ⟨u, hu⟩ : ∃ u, u = padded (dg x) (dl x) k := ⟨_, rfl⟩
      obtain ⟨v, hv⟩ : ∃ v, v = padded (dg y) (dl y) k := ⟨_, rfl⟩
      rw [← hu] at l1 q1 lt1 lt2
      rw [← hv] at l2 q2 lt1 lt2
      rw [← hu, ← hv] at HN
      have M1 := hid l1
      have M2 := hid l2
      clear ek he hu hv l1 l2
      by_cases c1 : u < v
      · have HC := hid (cmpN_lt (lt1 c1))
        clear lt1 lt2 HN
        go_wp2_with fail
        refine M1.out.mono ?_
        rintro e w2 ⟨rfl, rfl⟩
        go_wp2_with fail
        refine M2.out.mono ?_
        rintro e w2 ⟨rfl, rfl⟩
        go_wp2
        go_ret
        exact ⟨ret_int HC.out.symm, rfl⟩
      · by_cases c2 : v < u
        · have HC := hid (cmpN_gt (lt2 c2))
          clear lt1 lt2 HN
          go_wp2_with fail
          refine M1.out.mono ?_
          rintro e w2 ⟨rfl, rfl⟩
          go_wp2_with fail
          refine M2.out.mono ?_
          rintro e w2 ⟨rfl, rfl⟩
          go_wp2_with fail
          refine M1.out.mono ?_
          rintro e w2 ⟨rfl, rfl⟩
          go_wp2_with fail
          refine M2.out.mono ?_
          rintro e w2 ⟨rfl, rfl⟩
          go_wp2
          go_ret
          exact ⟨ret_int HC.out.symm, rfl⟩
        · have heq : u = v := by omega
          have HN2 := HN heq
          subst heq
          clear lt1 lt2 HN c1 c2
          go_wp2_with fail
          refine M1.out.mono ?_
          rintro e w2 ⟨rfl, rfl⟩
          go_wp2_with fail
          refine M2.out.mono ?_
          rintro e w2 ⟨rfl, rfl⟩
          go_wp2_with fail
          refine M1.out.mono ?_
          rintro e w2 ⟨rfl, rfl⟩
          go_wp2_with fail
          refine M2.out.mono ?_
          rintro e w2 ⟨rfl, rfl⟩
          go_wp2
          go_roundg (gk - 1)
          case measure => omega
          case rel => exact ⟨k, rfl, by omega, by omega, HN2, rfl⟩
    · obtain rfl : k = 0 := by omega
      have HC := hid (cmpN_eq (x := x) (y := y) (by rw [← HX.out, ← HY.out]; exact nv_congr fun i hi => HE.out i (by omega) hi))
      go_wp2
      go_ret
      exact ⟨ret_int HC.out.symm, rfl⟩
end Go.Proofs.Ytgininddoalenaa

namespace Go.Proofs.Ytgininddoalenaa

/-- One limb of a difference: s = f k + 2^32 - g k - bo. -/
theorem sub_step {f g o : Nat → Nat} {k bo s : Nat} (hv : nv o k + nv g k = nv f k + bo * 4294967296 ^ k) (hf : f k < 4294967296) (hg : g k < 4294967296) (hb : bo ≤ 1) (hs : s = f k + 4294967296 - g k - bo) :
    nv (upd o k (s % 4294967296)) (k + 1) + nv g (k + 1) = nv f (k + 1) + (1 - s / 4294967296) * 4294967296 ^ (k + 1) ∧ 1 - s / 4294967296 ≤ 1 ∧ s / 4294967296 ≤ 1 := by
  have e : s % 4294967296 + g k + bo = f k + (1 - s / 4294967296) * 4294967296 := by omega
  have h1 : s / 4294967296 ≤ 1 := by omega
  refine ⟨?_, by omega, h1⟩
  simp only [nv]
  rw [nv_upd_ge (Nat.le_refl _), upd_same, Nat.pow_succ]
  generalize s % 4294967296 = r at *
  generalize 1 - s / 4294967296 = c at *
  grind
/-- The end: nothing is borrowed where the second number is not greater. -/
theorem sub_end {f g o : Nat → Nat} {n bo : Nat} (hv : nv o n + nv g n = nv f n + bo * 4294967296 ^ n) (ho : ∀ i, i < n → o i < 4294967296) (hle : nv g n ≤ nv f n) (_hb : bo ≤ 1) : nv o n = nv f n - nv g n := by
  have h := nv_lt ho
  have h0 : bo = 0 := by
    rcases Nat.eq_zero_or_pos bo with e | e
    · exact e
    · have : 1 * 4294967296 ^ n ≤ bo * 4294967296 ^ n := Nat.mul_le_mul_right _ e
      omega
  subst h0
  omega
end Go.Proofs.Ytgininddoalenaa

namespace Go.Proofs.Ytgininddoalenaa
open Go.RowKit

set_option maxRecDepth 100000 in
set_option maxHeartbeats 4000000 in
theorem refSub_any (A A2 : Option Addr) (c c2 x y : Nat) (w : World) (h : NatOk w w.heap.size A x) (h2 : NatOk w w.heap.size A2 y) (hle : y ≤ x) (hn : dl x ≤ 268435456) :
    Calls Try.prog 88 #[.slice A (dl x) c, .slice A2 (dl y) c2] w (NatPost (x - y) w) := by
  obtain ⟨i0, qi0, qz0, qz1, qz2⟩ := info_parts Try.infoU32
  have hdl := dl_mono hle
  have HX : Hid (nv (padded (dg x) (dl x)) (dl x) = x) := by show _ = _; rw [nv_padded _ (Nat.le_refl _), nv_dg]
  have HY : Hid (nv (padded (dg y) (dl y)) (dl x) = y) := by show _ = _; rw [nv_padded _ hdl, nv_dg]
  go_enter Try.func88, Try.ntmps88
  go_wp2
  go_loopg [7, 5, 6] (dl x) (fun gg iv ov cv wx => ∃ k bo : Nat, ∃ o : Nat → Nat, iv = .int .i64 (k : Nat) ∧ cv = .int .u64 (bo : Nat) ∧ dl x ≤ k + gg ∧ k ≤ dl x ∧ bo ≤ 1 ∧ Below w.heap.size w wx ∧ Own wx w.heap.size 77 1 ov k (fun i _ => .int .u32 (o i : Nat)) ∧ Hid (∀ i, o i < 4294967296) ∧ Hid (nv o k + nv (padded (dg y) (dl y)) k = nv (padded (dg x) (dl x)) k + bo * 4294967296 ^ k))
  case atStart => exact ⟨0, 0, fun _ => 0, rfl, rfl, by omega, by omega, by omega, Below.refl _ _, Own.nil _ _ _ _ _, hid fun _ => by show 0 < _; omega, hid rfl⟩
  case round =>
    obtain ⟨k, bo, o, rfl, rfl, hkg, hk, hbo, hB, hO, HO, HV⟩ := hrel
    by_cases hlt : k < dl x
    · have hlt' : (k : Int) < ((dl x : Nat) : Int) := by omega
      have hf1 := padded_lt (dg_all x).out k
      have hg1 := padded_lt (dg_all y).out k
      obtain ⟨s, hs⟩ : ∃ s, s = padded (dg x) (dl x) k + 4294967296 - padded (dg y) (dl y) k - bo := ⟨_, rfl⟩
      obtain ⟨s1, s2, s3⟩ := sub_step HV.out hf1 hg1 hbo hs
      have K1 := hid s1
      have HL1 := hid (limb_in A (dl x) c k (dg x) wr (NatOk.on h hB) (dg_all x))
      have HL2 := hid (limb_in A2 (dl y) c2 k (dg y) wr (NatOk.on h2 hB) (dg_all y))
      obtain ⟨u, hu⟩ : ∃ u, u = padded (dg x) (dl x) k := ⟨_, rfl⟩
      obtain ⟨v, hv⟩ : ∃ v, v = padded (dg y) (dl y) k := ⟨_, rfl⟩
      rw [← hu] at hf1 hs HL1
      rw [← hv] at hg1 hs HL2
      have es : ((u : Int) + 4294967296 - v - bo) = (s : Int) := by omega
      have hO1 : Own wr w.heap.size 77 1 u5 k (fun i _ => .int .u32 (upd o k (s % 4294967296) i : Nat)) := hO.congr fun i hi _ _ => by rw [upd_other (by omega)]
      have N1 : Hid (∀ z : Int, z = ((s % 4294967296 : Nat) : Int) → ∀ j, j < 1 → (wr.alloc (Obj.cells #[Value.int .u32 z] 77)).cell? ((⟨wr.heap.size, 0, none⟩ : Addr).add j) = some (.int .u32 (upd o k (s % 4294967296) k : Nat))) := fun z hz j hj => by
        obtain rfl : j = 0 := by omega
        rw [upd_same, hz]
        exact World.cell?_alloc_at _ _ _ _ rfl
      have N2 : Hid (∀ j, j < 1 → (Value.int .u32 (upd o k (s % 4294967296) k : Nat)).oneCell' = true) := fun _ _ => rfl
      have n3 : Hid (k + 1 ≤ maxLen) := by show _ ≤ _; unfold maxLen; omega
      have n4 : Hid ((k + 1) * 4 ≤ 140737488355328) := by show _ ≤ _; omega
      have hQb : Hid (∀ k, u5.ownBlock = some k → w.heap.size ≤ k) := fun k e => (hO.lt k e).1
      have K3 : Hid (∀ i, upd o k (s % 4294967296) i < 4294967296) := fun i => by
        unfold upd
        split
        · omega
        · exact HO.out i
      have K5 : Hid ((1 - (s : Int) / 4294967296) = ((1 - s / 4294967296 : Nat) : Int)) := by show _ = _; omega
      have K6 : Hid ((s : Int) % 4294967296 = ((s % 4294967296 : Nat) : Int)) := by show _ = _; omega
      have hsb : (s : Int) ≤ 8589934591 := by omega
      have hsz := hB.size
      have ES := hid es
      clear hu hv hs s1 es hO
      go_wp2_with fail
      refine HL1.out.mono ?_
      rintro e w2 ⟨rfl, rfl⟩
      go_wp2_with fail
      refine HL2.out.mono ?_
      rintro e w2 ⟨rfl, rfl⟩
      go_upto_region 7 with fail
      rw [ES.out]
      have hs4 : (s : Int) / 4294967296 ≤ 1 := by omega
      have hs5 : (0 : Int) ≤ (s : Int) / 4294967296 := by omega
      have hBA := hid fun z : Int => hB.alloc hB.size (Obj.cells #[Value.int .u32 z] 77)
      go_wp2_with (first | (at_builtin; (refine wpList_append_one _ rfl (.tmp 25) (.tmp 29) _ rfl w.heap.size 77 i0 _ 1 4 Try.underlying39 qi0 qz0 qz1 qz2 rfl (by omega) u5 k _ rfl (hO1.alloc _) ⟨wr.heap.size, 0, none⟩ 1 rfl (N1.out _ K6.out) N2.out n3.out n4.out (by simp; omega) ?_); intro v' w3 hown3 hg3 hat3))
      have hB3 := (hBA.out _).grown hg3 (by simp; omega) (fun q e => hQb.out q e)
      go_roundg (gk - 1)
      case measure => omega
      case rel => exact ⟨k + 1, 1 - s / 4294967296, _, by go_num, by rw [K5.out], by omega, by omega, by omega, hB3, hown3, K3, K1⟩
    · obtain rfl : k = dl x := by omega
      have HS : Hid (nv o (dl x) = x - y) := by
        have := sub_end HV.out (fun i _ => HO.out i) (by rw [HX.out, HY.out]; exact hle) hbo
        rwa [HX.out, HY.out] at this
      obtain ⟨oa, oc, rfl⟩ := hO.shape
      have hI : Lims wr wr.heap.size oa (dl x) o := hO.rd rfl
      have hob : Hid (∀ i, i < dl x → o i < 4294967296) := fun i _ => HO.out i
      have hcap : dl x ≤ oc ∧ oc ≤ maxLen := by
        rcases hO with ⟨e1, e2⟩ | ⟨g1, o1, cap, cur, e1, _, _, h3, h4, _⟩
        · injection e1 with _ _ e3; subst e3; exact ⟨by omega, by unfold maxLen; omega⟩
        · injection e1 with _ _ e3; subst e3; exact ⟨h3, h4⟩
      go_wp2_with fail
      refine (refTrim_any oa (dl x) oc o wr hI hob hcap.1 hcap.2 (by omega)).mono ?_
      rintro e w2 ⟨A', c', rfl, g1, g2, g3, g4⟩
      rw [HS.out] at g1 g3 ⊢
      have hB2 := onS hB g4
      clear g4 hI hO hB
      go_wp2
      go_ret
      exact ⟨A', c', rfl, g1, g2, g3, hB2⟩
end Go.Proofs.Ytgininddoalenaa

namespace Go.Proofs.Ytgininddoalenaa

/-- One limb of q times g taken away: p = q * g k + ca, s = f k + 2^32 - p % 2^32 - bo. -/
theorem msub_step {f g o : Nat → Nat} {k q ca bo p s : Nat} (hv : nv o k + q * nv g k = nv f k + (ca + bo) * 4294967296 ^ k) (hf : f k < 4294967296) (hb : bo ≤ 1) (hp : p = q * g k + ca) (hs : s = f k + 4294967296 - p % 4294967296 - bo) :
    nv (upd o k (s % 4294967296)) (k + 1) + q * nv g (k + 1) = nv f (k + 1) + (p / 4294967296 + (1 - s / 4294967296)) * 4294967296 ^ (k + 1) ∧ 1 - s / 4294967296 ≤ 1 ∧ s / 4294967296 ≤ 1 := by
  have e : s % 4294967296 + p % 4294967296 + bo = f k + (1 - s / 4294967296) * 4294967296 := by omega
  have e2 : p % 4294967296 + 4294967296 * (p / 4294967296) = p := Nat.mod_add_div _ _
  have h1 : s / 4294967296 ≤ 1 := by omega
  refine ⟨?_, by omega, h1⟩
  simp only [nv]
  rw [nv_upd_ge (Nat.le_refl _), upd_same, Nat.pow_succ]
  generalize s % 4294967296 = r at *
  generalize 1 - s / 4294967296 = c at *
  generalize p % 4294967296 = pl at *
  generalize p / 4294967296 = ph at *
  grind
theorem mul_limb_le {q x ca : Nat} (hq : q < 4294967296) (hx : x < 4294967296) (hc : ca < 4294967296) : q * x + ca < 18446744073709551616 ∧ (q * x + ca) / 4294967296 < 4294967296 := by
  have := limb_mul_le hq hx
  omega
where limb_mul_le {q x : Nat} (hq : q < 4294967296) (hx : x < 4294967296) : q * x ≤ 18446744065119617025 := by
        have : q * x ≤ 4294967295 * 4294967295 := Nat.mul_le_mul (by omega) (by omega)
        omega

/-- The three limbs at the top of u, the two at the top of v, apart. -/
theorem nv_top3 (u : Nat → Nat) (m : Nat) : nv u (m + 3) = nv u m + u m * 4294967296 ^ m + (u (m + 2) * 4294967296 + u (m + 1)) * (4294967296 * 4294967296 ^ m) := by
  simp only [nv, Nat.pow_succ]
  grind
theorem nv_top2 (v : Nat → Nat) (m : Nat) : nv v (m + 2) = nv v m + v m * 4294967296 ^ m + v (m + 1) * (4294967296 * 4294967296 ^ m) := by
  simp only [nv, Nat.pow_succ]
  grind
section
variable {x0 u0 u1 u2 y0 v0 v1 P q r : Nat}
/-- u2 is not above v1. -/
theorem top_le (hy : y0 < P) (hv0 : v0 < 4294967296) (h : x0 + u0 * P + (u2 * 4294967296 + u1) * (4294967296 * P) < (y0 + v0 * P + v1 * (4294967296 * P)) * 4294967296) : u2 ≤ v1 := by
  rcases Nat.lt_or_ge v1 u2 with hlt | hge
  · exfalso
    have h1 : (v1 + 1) * (4294967296 * (4294967296 * P)) ≤ u2 * (4294967296 * (4294967296 * P)) := Nat.mul_le_mul_right _ hlt
    have h2 : (v0 + 1) * P ≤ 4294967296 * P := Nat.mul_le_mul_right _ hv0
    grind
  · exact hge
/-- The first guess is not too small. -/
theorem guess_start (hx : x0 < P) (hu0 : u0 < 4294967296) (hv1 : 0 < v1) (hq : q = (u2 * 4294967296 + u1) / v1) :
    x0 + u0 * P + (u2 * 4294967296 + u1) * (4294967296 * P) < (q + 1) * (y0 + v0 * P + v1 * (4294967296 * P)) := by
  have h1 : u2 * 4294967296 + u1 < (q + 1) * v1 := by
    rw [hq]
    have := Nat.lt_div_mul_add hv1 (a := u2 * 4294967296 + u1)
    rw [Nat.add_mul, Nat.one_mul]
    exact this
  have h2 : (u2 * 4294967296 + u1 + 1) * (4294967296 * P) ≤ (q + 1) * v1 * (4294967296 * P) := Nat.mul_le_mul_right _ h1
  have h3 : (u0 + 1) * P ≤ 4294967296 * P := Nat.mul_le_mul_right _ hu0
  have h4 : (q + 1) * v1 * (4294967296 * P) ≤ (q + 1) * (y0 + v0 * P + v1 * (4294967296 * P)) := by
    rw [Nat.mul_assoc]
    exact Nat.mul_le_mul_left _ (by omega)
  rw [Nat.add_mul _ 1, Nat.one_mul] at h2
  rw [Nat.add_mul, Nat.one_mul] at h3
  omega
/-- A guess that the second limb shows too great. -/
theorem guess_less (hx : x0 < P) (ht : q * v1 + r = u2 * 4294967296 + u1) (h : r * 4294967296 + u0 < q * v0) :
    x0 + u0 * P + (u2 * 4294967296 + u1) * (4294967296 * P) < q * (y0 + v0 * P + v1 * (4294967296 * P)) := by
  have h1 : (r * 4294967296 + u0 + 1) * P ≤ q * v0 * P := Nat.mul_le_mul_right _ h
  rw [← ht]
  have h2 : q * (y0 + v0 * P + v1 * (4294967296 * P)) = q * y0 + q * v0 * P + q * v1 * (4294967296 * P) := by grind
  rw [h2]
  have h3 : (q * v1 + r) * (4294967296 * P) = q * v1 * (4294967296 * P) + r * 4294967296 * P := by grind
  rw [h3]
  have h4 : (r * 4294967296 + u0 + 1) * P = r * 4294967296 * P + u0 * P + P := by grind
  rw [h4] at h1
  omega
/-- Where the guessing ends, q is less than 2^32 .. -/
theorem guess_lt (ht : q * v1 + r = u2 * 4294967296 + u1) (hu : u2 ≤ v1) (hu1 : u1 < 4294967296) (hr : 4294967296 ≤ r) : q < 4294967296 := by
  rcases Nat.lt_or_ge q 4294967296 with h | h
  · exact h
  · have h1 : 4294967296 * v1 ≤ q * v1 := Nat.mul_le_mul_right _ h
    omega
/-- .. and at most one too great. -/
theorem guess_end (hy : y0 < P) (hv0 : v0 < 4294967296) (hv1 : 0 < v1) (hq : q < 4294967296) (ht : q * v1 + r = u2 * 4294967296 + u1) (h : 4294967296 ≤ r ∨ q * v0 ≤ r * 4294967296 + u0) :
    q * (y0 + v0 * P + v1 * (4294967296 * P)) ≤ x0 + u0 * P + (u2 * 4294967296 + u1) * (4294967296 * P) + (y0 + v0 * P + v1 * (4294967296 * P)) := by
  rw [← ht]
  have h2 : q * (y0 + v0 * P + v1 * (4294967296 * P)) = q * y0 + q * v0 * P + q * v1 * (4294967296 * P) := by grind
  rw [h2]
  have h3 : (q * v1 + r) * (4294967296 * P) = q * v1 * (4294967296 * P) + r * 4294967296 * P := by grind
  rw [h3]
  have h5 : q * y0 ≤ 4294967296 * P := Nat.mul_le_mul (by omega) (by omega)
  rcases h with h | h
  · have h4 : q * v0 * P ≤ 4294967295 * 4294967296 * P := Nat.mul_le_mul_right _ (Nat.mul_le_mul (by omega) (by omega))
    have h6 : 4294967296 * 4294967296 * P ≤ r * 4294967296 * P := Nat.mul_le_mul_right _ (Nat.mul_le_mul_right _ h)
    omega
  · have h4 : q * v0 * P ≤ (r * 4294967296 + u0) * P := Nat.mul_le_mul_right _ h
    rw [Nat.add_mul] at h4
    have h6 : 1 * (4294967296 * P) ≤ v1 * (4294967296 * P) := Nat.mul_le_mul_right _ hv1
    omega
end

/-- A number with a segment of limbs apart. -/
def seg (u : Nat → Nat) (j : Nat) : Nat → Nat := fun i => u (j + i)
theorem nv_seg (u : Nat → Nat) (j k : Nat) : nv u (j + k) = nv u j + nv (seg u j) k * 4294967296 ^ j := by
  induction k with
  | zero => simp [nv]
  | succ k ih =>
    show nv u (j + k + 1) = _
    simp only [nv]
    rw [ih, Nat.pow_add]
    unfold seg
    grind
theorem seg_low (u : Nat → Nat) (j k : Nat) : nv (seg u j) (k + 1) = u j + 4294967296 * nv (seg u (j + 1)) k := by
  rw [nv_low]
  unfold seg
  simp only [Nat.add_zero]
  rw [show (fun i => u (j + (i + 1))) = fun i => u (j + 1 + i) from funext fun i => by rw [show j + (i + 1) = j + 1 + i by omega]]

/-- The limbs shifted right by n. -/
theorem shr_limb (x n i : Nat) (hn : n ≤ 32) : dg (x / 2 ^ n) i = (dg x i + 4294967296 * dg x (i + 1)) / 2 ^ n % 4294967296 := by
  unfold dg
  rw [Nat.div_div_eq_div_mul, Nat.mul_comm, ← Nat.div_div_eq_div_mul, Nat.pow_succ, ← Nat.div_div_eq_div_mul]
  generalize x / 4294967296 ^ i = y
  obtain ⟨d, hd⟩ : ∃ d, (4294967296 : Nat) = 2 ^ n * d := ⟨2 ^ (32 - n), by rw [← Nat.pow_add, show n + (32 - n) = 32 by omega]⟩
  have h1 := Nat.mod_add_div y 4294967296
  have h2 := Nat.mod_add_div (y / 4294967296) 4294967296
  have h3 : y = y % 4294967296 + 4294967296 * (y / 4294967296 % 4294967296) + 2 ^ n * (d * 4294967296 * (y / 4294967296 / 4294967296)) := by
    have : 2 ^ n * (d * 4294967296 * (y / 4294967296 / 4294967296)) = (2 ^ n * d) * 4294967296 * (y / 4294967296 / 4294967296) := by grind
    rw [this, ← hd]
    omega
  conv => lhs; rw [h3]
  rw [Nat.add_mul_div_left _ _ (Nat.pow_pos (by omega)), show d * 4294967296 * (y / 4294967296 / 4294967296) = 4294967296 * (d * (y / 4294967296 / 4294967296)) by grind, Nat.add_mul_mod_self_left]

theorem nv_upd_top (f : Nat → Nat) (k s : Nat) : nv (upd f k s) (k + 1) = nv f k + s * 4294967296 ^ k := by
  show nv (upd f k s) k + upd f k s k * _ = _
  rw [nv_upd_ge (Nat.le_refl _), upd_same]
theorem seg_upd (o : Nat → Nat) (off k x : Nat) : seg (upd o (off + k) x) off = upd (seg o off) k x := by
  funext i
  unfold seg upd
  by_cases e : i = k
  · rw [if_pos (by omega), if_pos e]
  · rw [if_neg (by omega), if_neg e]
/-- What is left is not negative: q was right. -/
theorem step_ge {X Y V q P u2 cb : Nat} (h : X + q * V = Y + cb * P) (hge : cb ≤ u2) (hl : Y + u2 * P < (q + 1) * V) : (Y + u2 * P) / V = q ∧ (Y + u2 * P) % V = X + (u2 - cb) * P := by
  obtain ⟨d, rfl⟩ : ∃ d, u2 = cb + d := ⟨u2 - cb, by omega⟩
  rw [Nat.add_sub_cancel_left]
  have e : Y + (cb + d) * P = V * q + (X + d * P) := by
    rw [Nat.add_mul]
    have := Nat.mul_comm q V
    omega
  rw [Nat.add_mul q 1, Nat.one_mul, Nat.mul_comm q V] at hl
  have hr : X + d * P < V := by omega
  rw [e]
  exact ⟨by rw [Nat.mul_add_div (by omega), Nat.div_eq_of_lt hr, Nat.add_zero], by rw [Nat.mul_add_mod, Nat.mod_eq_of_lt hr]⟩
/-- What is left is negative: q was one too great, and adding v gives the remainder. -/
theorem step_less {X Y V q P u2 cb X' cc : Nat} (h : X + q * V = Y + cb * P) (hlt : u2 < cb) (hX : X < P) (hle : q * V ≤ Y + u2 * P + V) (hadd : X' + cc * P = X + V) (hX' : X' < P) (hV : V < P) :
    cb = u2 + 1 ∧ cc = 1 ∧ 1 ≤ q ∧ (Y + u2 * P) / V = q - 1 ∧ (Y + u2 * P) % V = X' := by
  obtain ⟨t, rfl⟩ : ∃ t, cb = u2 + 1 + t := ⟨cb - u2 - 1, by omega⟩
  have e1 : (u2 + 1 + t) * P = u2 * P + P + t * P := by rw [Nat.add_mul, Nat.add_mul, Nat.one_mul]
  rw [e1] at h
  have hc1 : cc < 2 := by
    rcases Nat.lt_or_ge cc 2 with h1 | h1
    · exact h1
    · have : 2 * P ≤ cc * P := Nat.mul_le_mul_right _ h1
      omega
  have hc0 : cc ≠ 0 := fun e => by
    subst e
    rw [Nat.zero_mul] at hadd
    omega
  obtain rfl : cc = 1 := by omega
  rw [Nat.one_mul] at hadd
  have ht : t = 0 := by
    rcases Nat.eq_zero_or_pos t with h1 | h1
    · exact h1
    · have : 1 * P ≤ t * P := Nat.mul_le_mul_right _ h1
      omega
  subst ht
  rw [Nat.zero_mul] at h
  have hq : 1 ≤ q := by
    rcases Nat.eq_zero_or_pos q with h1 | h1
    · subst h1; rw [Nat.zero_mul] at h; omega
    · exact h1
  obtain ⟨p, rfl⟩ : ∃ p, q = p + 1 := ⟨q - 1, by omega⟩
  rw [Nat.add_mul, Nat.one_mul] at h hle
  rw [Nat.add_sub_cancel]
  have e : Y + u2 * P = V * p + X' := by
    have := Nat.mul_comm p V
    omega
  have hr : X' < V := by omega
  rw [e]
  exact ⟨by omega, rfl, hq, by rw [Nat.mul_add_div (by omega), Nat.div_eq_of_lt hr, Nat.add_zero], by rw [Nat.mul_add_mod, Nat.mod_eq_of_lt hr]⟩
/-- One limb of a sum. -/
theorem add_step {f g o : Nat → Nat} {k c s : Nat} (hv : nv o k + c * 4294967296 ^ k = nv f k + nv g k) (hs : s = f k + g k + c) :
    nv (upd o k (s % 4294967296)) (k + 1) + s / 4294967296 * 4294967296 ^ (k + 1) = nv f (k + 1) + nv g (k + 1) := by
  simp only [nv]
  rw [nv_upd_ge (Nat.le_refl _), upd_same]
  have hc := carry_step1 s k
  subst hs
  grind

/-- A difference in 64 bits. -/
theorem wrap_diff (x : Int) (h : -9223372036854775808 ≤ x) (h1 : x < 9223372036854775808) : ∃ D : Nat, IntKind.u64.wrap x = (D : Int) ∧ D < 18446744073709551616 ∧ (D : Int) % 4294967296 = x % 4294967296 ∧ D / 9223372036854775808 = (if x < 0 then 1 else 0) ∧ ∀ y : Int, IntKind.u64.wrap ((D : Int) - y) = IntKind.u64.wrap (x - y) := by
  simp only [IntKind.wrap, IntKind.bits, IntKind.signed]
  simp
  refine ⟨(x % 18446744073709551616).toNat, by omega, by omega, by omega, by split <;> omega, fun y => by omega⟩
end Go.Proofs.Ytgininddoalenaa

namespace Go.Proofs.Ytgininddoalenaa
open Go.RowKit

set_option maxHeartbeats 2000000 in
theorem trimOwn_any (A : Option Addr) (c x : Nat) (w : World) (h : NatOk w w.heap.size A x) (hc : dl x ≤ c) (hm : c ≤ maxLen) (hn : dl x ≤ 1073741824) :
    Calls Try.prog 111 #[.slice A (dl x) c] w fun e w' => ∃ A' c', e = .returned (.slice A' (dl x) c') ∧ Own w' w.heap.size 77 1 (.slice A' (dl x) c') (dl x) (fun i _ => .int .u32 (dg x i : Nat)) ∧ Below w.heap.size w w' := by
  obtain ⟨i0, qi0, qz0, qz1, qz2⟩ := info_parts Try.infoU32
  go_enter Try.func111, Try.ntmps111
  go_wp2_with fail
  refine (short_nat A c x w h hc hm).mono ?_
  rintro e w1 ⟨rfl, rfl⟩
  rcases Nat.eq_zero_or_pos (dl x) with h0 | h0
  · have H0 := hid h0
    rw [h0]
    clear h0
    go_wp2_with (first | (at_builtin; (refine wpList_append_nil_none rfl (.const (.slice none 0 0)) (.tmp 4) _ rfl 77 i0 Try.underlying39 qi0 rfl A 0 rfl ?_)))
    go_ret
    exact ⟨none, 0, by rw [H0.out]; rfl, by rw [H0.out]; exact Own.nil _ _ _ _ _, Below.refl _ _⟩
  · have n3 : Hid (dl x ≤ maxLen) := by show _ ≤ _; unfold maxLen; omega
    have n4 : Hid (dl x * 4 ≤ 140737488355328) := by show _ ≤ _; omega
    go_wp2_with (first | (at_builtin; (refine wpList_append_copy_some rfl (.const (.slice none 0 0)) (.tmp 4) _ rfl 77 i0 _ 1 4 Try.underlying39 qi0 qz0 qz1 qz2 rfl (by omega) none rfl A (dl x) (dl x) (fun i _ => .int .u32 (dg x i : Nat)) rfl h h0 (fun _ _ _ _ => rfl) n3.out n4.out ?_); intro cap cur k1 k2 k3 k4))
    go_ret
    have hO := Own.new (w := w) (base := w.heap.size) (e := 77) (Nat.le_refl _) k1 k2 k3 k4
    exact ⟨_, cap, rfl, hO.drew, ((Below.refl _ _).alloc (Nat.le_refl _) _).drew⟩

/-- What Sub leaves where the first is not less. -/
def SubPost (x : Nat) (w : World) (e : Ending) (w' : World) : Prop :=
  ∃ A c, e = .returned (.tuple #[.slice A (dl x) c, .int .i64 0]) ∧ dl x ≤ c ∧ c ≤ maxLen ∧ NatOk w' w'.heap.size A x ∧ Below w.heap.size w w'

theorem Own.cap {w : World} {base e s n : Nat} {A : Option Addr} {c : Nat} {f : Nat → Nat → Value} (h : Own w base e s (.slice A n c) n f) : n ≤ c ∧ c ≤ maxLen := by
  rcases h with ⟨e1, e2⟩ | ⟨g1, o1, cap, cur, e1, _, _, h3, h4, _⟩
  · injection e1 with _ _ e3; subst e3; exact ⟨by omega, by unfold maxLen; omega⟩
  · injection e1 with _ _ e3; subst e3; exact ⟨h3, h4⟩

set_option maxRecDepth 100000 in
set_option maxHeartbeats 4000000 in
theorem natSub_ok (A A2 : Option Addr) (c c2 x y : Nat) (w : World) (h : NatOk w w.heap.size A x) (h2 : NatOk w w.heap.size A2 y) (hc : dl x ≤ c) (hm : c ≤ maxLen) (hc2 : dl y ≤ c2) (hm2 : c2 ≤ maxLen) (hle : y ≤ x) (hn : dl x ≤ 268435456) :
    Calls Try.prog 84 #[.slice A (dl x) c, .slice A2 (dl y) c2] w (SubPost (x - y) w) := by
  have hdl := dl_mono hle
  have HX : Hid (nv (dg x) (dl x) = x) := nv_dg x
  have HY : Hid (nv (padded (dg y) (dl y)) (dl x) = y) := by show _ = _; rw [nv_padded _ hdl, nv_dg]
  have hcmp : (cmpN x y < 0) = False := by
    rw [eq_iff_iff]
    rcases Nat.lt_or_ge y x with e | e
    · rw [cmpN_gt e]; simp
    · rw [cmpN_eq (by omega)]; simp
  have hcmp' : ¬ cmpN x y < 0 := by rw [hcmp]; simp
  obtain ⟨z, hz⟩ : ∃ z, z = cmpN x y := ⟨_, rfl⟩
  rw [← hz] at hcmp'
  have HZ := hid hz
  clear hz hcmp
  go_enter Try.func84, Try.ntmps84
  go_wp2_with fail
  refine (natCmp_any A A2 c c2 x y w h h2 hc hm hc2 hm2 (by omega)).mono ?_
  rintro e w1 ⟨rfl, hb1⟩
  rw [← HZ.out]
  have g1 := h.on hb1
  have g2 := h2.on hb1
  have hB1 := onS (Below.refl _ w) hb1
  clear hb1 h
  go_wp2_with fail
  refine (trimOwn_any A c x w1 g1 hc hm (by omega)).mono ?_
  rintro e w2 ⟨A', c', rfl, hO, hb2⟩
  have g3 := g2.on hb2
  have hO0 : Own w2 w.heap.size 77 1 (.slice A' (dl x) c') (dl x) (fun i _ => .int .u32 (dg x i : Nat)) := hO.mono hB1.size
  have hB2 := onS hB1 hb2
  have hcap := hO.cap
  clear hb2 hB1 g1 g2 hO
  go_wp2
  go_loopg [18, 7] (dl x) (fun gg iv cv wx => ∃ k bo : Nat, ∃ o : Nat → Nat, iv = .int .i64 (k : Nat) ∧ cv = .int .u64 (bo : Nat) ∧ dl x ≤ k + gg ∧ k ≤ dl x ∧ bo ≤ 1 ∧ Below w.heap.size w wx ∧ NatOk wx w.heap.size A2 y ∧ Own wx w.heap.size 77 1 (.slice A' (dl x) c') (dl x) (fun i _ => .int .u32 (o i : Nat)) ∧ Hid (∀ i, o i < 4294967296) ∧ Hid (∀ i, k ≤ i → o i = dg x i) ∧ Hid (nv o k + nv (padded (dg y) (dl y)) k = nv (dg x) k + bo * 4294967296 ^ k))
  case atStart => exact ⟨0, 0, dg x, rfl, rfl, by omega, by omega, by omega, hB2, Rd.below h2 hB2 (Nat.le_refl _), hO0, hid fun i => dg_lt x i, hid fun _ _ => rfl, hid rfl⟩
  case round =>
    clear hO0 g3 hB2 h2
    obtain ⟨k, bo, o, rfl, rfl, hkg, hk, hbo, hB, hR, hO, HO, HU, HV⟩ := hrel
    by_cases hlt : k < dl x
    · obtain ⟨g, og, cap, hv, hg1, hg2, hg3, hg4, hg5⟩ := hO.form (by omega)
      injection hv with hv1 _ hv3
      subst hv1 hv3
      have y0 := hg5 k hlt 0 (by omega)
      rw [Nat.mul_one, Nat.add_zero] at y0
      have z0 := hO.frozen (og + k)
      have hlt' : (k : Int) < ((dl x : Nat) : Int) := by omega
      obtain ⟨u, hu⟩ : ∃ u, u = o k := ⟨_, rfl⟩
      have q1 := HO.out k
      rw [← hu] at y0 q1
      obtain ⟨v, hv⟩ : ∃ v, v = padded (dg y) (dl y) k := ⟨_, rfl⟩
      have q2 := padded_lt (dg_all y).out k
      rw [← hv] at q2
      obtain ⟨s, hs⟩ : ∃ s, s = u + 4294967296 - v - bo := ⟨_, rfl⟩
      have hs' : s = dg x k + 4294967296 - padded (dg y) (dl y) k - bo := by rw [hs, hu, hv, HU.out k (Nat.le_refl _)]
      obtain ⟨s1, s2, s3⟩ := sub_step HV.out (dg_lt x k) (padded_lt (dg_all y).out k) hbo hs'
      have K1 := hid s1
      obtain ⟨D1, d1, d2, d3, d4, d5⟩ := wrap_diff ((u : Int) - bo) (by omega) (by omega)
      obtain ⟨D, e1, e2, e3, e4, e5⟩ := wrap_diff ((u : Int) - bo - v) (by omega) (by omega)
      have e6 := d5 v
      rw [e1] at e6
      have K5 : Hid ((D : Int) / 9223372036854775808 = ((1 - s / 4294967296 : Nat) : Int)) := by
        show _ = _
        split at e4 <;> omega
      have K6 : Hid ((D : Int) % 4294967296 = ((s % 4294967296 : Nat) : Int)) := by show _ = _; omega
      have K2 : Hid (∀ z : Int, z = ((s % 4294967296 : Nat) : Int) → Own (wr.setCell ⟨g, og + k, none⟩ (.int .u32 z)) w.heap.size 77 1 (.slice (some ⟨g, og, none⟩) (dl x) c') (dl x) (fun i _ => .int .u32 (upd o k (s % 4294967296) i : Nat))) := fun z hz => by
        have := hO.set hlt (show 0 < 1 by omega) (.int .u32 z)
        rw [Nat.mul_one, Nat.add_zero] at this
        refine this.congr fun i _ j hj => ?_
        unfold upd
        by_cases e : i = k
        · rw [if_pos ⟨e, by omega⟩, if_pos e, hz]
        · rw [if_neg (fun c => e c.1), if_neg e]
      have K3 : Hid (∀ i, upd o k (s % 4294967296) i < 4294967296) := fun i => by
        unfold upd
        split
        · omega
        · exact HO.out i
      have K4 : Hid (∀ i, k + 1 ≤ i → upd o k (s % 4294967296) i = dg x i) := fun i hi => by rw [upd_other (by omega)]; exact HU.out i (by omega)
      have K7 : Hid (∀ z, NatOk (wr.setCell ⟨g, og + k, none⟩ z) w.heap.size A2 y) := fun z => hR.setCell hg1 z
      have D5 := hid d5
      have hD0 : (0 : Int) ≤ D := by omega
      have hD1 : (D : Int) ≤ 18446744073709551615 := by omega
      by_cases hy : k < dl y
      · have hv2 : v = dg y k := by rw [hv]; unfold padded; rw [if_pos hy]
        obtain ⟨b2, o2, rfl, hb2, t0⟩ := Lims.at hR hy
        rw [← hv2] at t0
        have hy' : (k : Int) < ((dl y : Nat) : Int) := by omega
        clear hv hu hs hs' s1 s2 s3 e1 d3 d4 d5 e3 e4 e5 hv2 hg5 hO
        go_wp2
        go_roundg (gk - 1)
        case measure => omega
        case rel => exact ⟨k + 1, 1 - s / 4294967296, _, by go_num, by rw [K5.out], by omega, by omega, by omega, hB.setCell hg1 _, K7.out _, K2.out _ K6.out, K3, K4, K1⟩
      · have hy' : ¬ (k : Int) < ((dl y : Nat) : Int) := by omega
        have hv2 : v = 0 := by rw [hv]; unfold padded; rw [if_neg hy]
        have hDD : D = D1 := by
          rw [hv2] at e1
          have : IntKind.u64.wrap ((u : Int) - bo - ((0 : Nat) : Int)) = IntKind.u64.wrap ((u : Int) - bo) := by congr 1; omega
          rw [this, d1] at e1
          omega
        subst hDD
        clear hv hu hs hs' s1 s2 s3 e1 d3 d4 d5 e3 e4 e5 hv2 hg5 hO e6
        go_wp2
        go_roundg (gk - 1)
        case measure => omega
        case rel => exact ⟨k + 1, 1 - s / 4294967296, _, by go_num, by rw [K5.out], by omega, by omega, by omega, hB.setCell hg1 _, K7.out _, K2.out _ K6.out, K3, K4, K1⟩
    · obtain rfl : k = dl x := by omega
      have HS : Hid (nv o (dl x) = x - y) := by
        have := sub_end HV.out (fun i _ => HO.out i) (by rw [HX.out, HY.out]; exact hle) hbo
        rwa [HX.out, HY.out] at this
      have hI : Lims wr wr.heap.size A' (dl x) o := hO.rd rfl
      have hob : Hid (∀ i, i < dl x → o i < 4294967296) := fun i _ => HO.out i
      go_wp2_with fail
      refine (short_any A' (dl x) c' o wr hI hob hcap.1 hcap.2).mono ?_
      rintro e w3 ⟨rfl, hR3, rfl⟩
      rw [HS.out] at hR3 ⊢
      have hd3 : dl (x - y) ≤ dl x := dl_mono (by omega)
      go_wp2
      go_ret2
      exact ⟨_, _, rfl, Nat.le_refl _, by unfold maxLen; omega, hR3, hB⟩

set_option maxRecDepth 100000 in
set_option maxHeartbeats 4000000 in
theorem natSub_err (A A2 : Option Addr) (c c2 x y : Nat) (w : World) (h : NatOk w w.heap.size A x) (h2 : NatOk w w.heap.size A2 y) (hc : dl x ≤ c) (hm : c ≤ maxLen) (hc2 : dl y ≤ c2) (hm2 : c2 ≤ maxLen) (hlt : x < y) (hn : dl y ≤ 268435456) :
    Calls Try.prog 84 #[.slice A (dl x) c, .slice A2 (dl y) c2] w fun e w' => e = .returned (.tuple #[.slice none 0 0, .int .i64 6]) ∧ Below w.heap.size w w' := by
  have HC := hid (cmpN_lt hlt)
  go_enter Try.func84, Try.ntmps84
  go_wp2_with fail
  refine (natCmp_any A A2 c c2 x y w h h2 hc hm hc2 hm2 (by omega)).mono ?_
  rintro e w1 ⟨rfl, hb1⟩
  rw [HC.out]
  go_wp2
  go_ret2
  exact ⟨rfl, hb1⟩
end Go.Proofs.Ytgininddoalenaa
