/- codewrightref01: Trim, Of, limb, Bits, Same, Mul. -/
import Derived.Test.YtnocbkhnmdmfhaaNatBits
import Derived.Deep.QuietTactic
import Derived.BigQuiet

namespace Go.Proofs.Ytnocbkhnmdmfhaa
open Go.RowKit

section
variable {P : Program} {w : World}
theorem wpList_append_copy_none {ops : Array Oper} {rest : List Oper} {o : Oper} {a : Act} {Q : Exit → Act → World → Prop} (hgd : o.guard = none) (sl x : Operand) (t : TypeId)
    (ho : o.op = .call { callee := .builtin .append, args := #[sl, x], argTypes := #[t, t] })
    (e : TypeId) (i : TypeInfo) (ht : P.underlying t = some (.slice e)) (hi : P.info? e = some i) (b0 o0 : Nat) (hv : a.eval sl = .slice (some ⟨b0, o0, none⟩) 0 0)
    (A : Option Addr) (c : Nat) (hx : a.eval x = .slice A 0 c)
    (h : wpList P ops Q rest (a.put o.dst (.slice (some ⟨b0, o0, none⟩) 0 0)) w) : wpList P ops Q (o :: rest) a w := by
  refine wpList_plain hgd fun K hK => ?_
  have hrun := run_append_copy_none (P := P) w t o.type e i ht hi b0 o0 A c
  unfold Oper.wp execOp
  simp only [ho, resolve, invoke, builtin, Sem.run_bind, Sem.run_pure, Result.andThen_ok, List.map_toArray, List.map_cons, List.map_nil, hv, hx, hrun]
  exact hK _ _ h
end
theorem box1_below (X : World) (o : Obj) : Below X.heap.size X (X.alloc o) := (Below.refl _ _).alloc (Nat.le_refl _) _

set_option maxRecDepth 100000 in
set_option maxHeartbeats 4000000 in
theorem refTrim_any (A : Option Addr) (n c : Nat) (f : Nat → Nat) (w : World) (h : Lims w w.heap.size A n f) (hf : Hid (∀ i, i < n → f i < 4294967296)) (hc : n ≤ c) (hm : c ≤ maxLen) (hn : n ≤ 1073741824) :
    Calls Try.prog 58 #[.slice A n c] w (NatPost (nv f n) w) := by
  have hm9 : c ≤ 9223372036854775807 := by unfold maxLen at hm; omega
  obtain ⟨i0, qi0, qz0, qz1, qz2⟩ := info_parts Try.infoU32
  obtain ⟨x, hx⟩ : ∃ x, nv f n = x := ⟨_, rfl⟩
  have HX := hid hx
  rw [hx]
  clear hx
  go_enter Try.func58, Try.ntmps58
  go_wp2
  go_loopg [3] n (fun g kv wx => ∃ k : Nat, k ≤ n ∧ k ≤ g ∧ kv = .int .i64 (k : Nat) ∧ Hid (∀ i, k ≤ i → i < n → f i = 0) ∧ w = wx)
  case atStart => exact ⟨n, by omega, by omega, rfl, hid fun i h1 h2 => absurd h1 (by omega), rfl⟩
  case round =>
    obtain ⟨k, hk, hkg, rfl, hz, rfl⟩ := hrel
    by_cases h0 : 0 < k
    · obtain ⟨b, o, rfl, hb, e0⟩ := h.at (i := k - 1) (by omega)
      have h0' : (0 : Int) < (k : Int) := by omega
      have hw2 : ((k : Int) - 1).toNat = k - 1 := by omega
      by_cases hz0 : f (k - 1) = 0
      · rw [hz0] at e0
        have HN : Hid (∀ i, k - 1 ≤ i → i < n → f i = 0) := fun i h1 h2 => by
          by_cases e : i = k - 1
          · rw [e]; exact hz0
          · exact hz.out i (by omega) h2
        clear hz0
        go_wp2
        go_roundg (gk - 1)
        case measure => omega
        case rel => exact ⟨k - 1, by omega, by omega, by rw [show ((k - 1 : Nat) : Int) = (k : Int) - 1 by omega], HN, rfl⟩
      · obtain ⟨d1, d2⟩ := dl_of (f := f) hk hf.out hz.out (.inr hz0)
        obtain ⟨v, hv⟩ : ∃ v : Int, v = (f (k - 1) : Nat) := ⟨_, rfl⟩
        rw [← hv] at e0
        have hv2 : (v == 0) = false := by simp; omega
        rw [HX.out] at d1 d2
        have D1 := hid d1
        have hR : Hid (∀ o1, Rd (w.alloc o1) (w.alloc o1).heap.size (some ⟨b, o, none⟩) k 1 (fun i _ => .int .u32 (dg x i : Nat))) := fun o1 => by
          have h1 : Rd w w.heap.size (some ⟨b, o, none⟩) k 1 (fun i _ => .int .u32 (dg x i : Nat)) := fun i hi => by
            obtain ⟨b', o', e, hb', hc'⟩ := h i (by omega)
            exact ⟨b', o', e, hb', fun j hj => by show _ = some (Value.int .u32 (dg x i : Nat)); rw [d2 i hi]; exact hc' j hj⟩
          exact (Rd.alloc h1 (Nat.le_refl _) o1).mono (by simp)
        have n3 : Hid (k ≤ maxLen) := by show _ ≤ _; unfold maxLen; omega
        have n4 : Hid (k * 4 ≤ 140737488355328) := by show _ ≤ _; omega
        clear hv d1 d2 hz0
        go_wp2_with (first | (at_builtin; (refine wpList_append_copy_some rfl (.tmp 18) (.tmp 21) _ rfl 77 i0 _ 1 4 Try.underlying43 qi0 qz0 qz1 qz2 rfl (by omega) _ rfl (some ⟨b, o, none⟩) k c (fun i _ => .int .u32 (dg x i : Nat)) rfl (hR.out _) h0 (fun _ _ _ _ => rfl) n3.out n4.out ?_); intro cap cur k1 k2 k3 k4))
        go_ret
        have hO := Own.new (w := w.alloc (Obj.cells #[] 77)) (base := w.heap.size) (e := 77) (by simp) k1 k2 k3 k4
        simp only [World.size_alloc] at hO
        refine ⟨_, cap, by rw [D1.out]; rfl, by rw [D1.out]; exact k1, k2, ?_, (((Below.refl _ _).alloc (Nat.le_refl _) _).alloc (by simp) _).drew⟩
        unfold NatOk Lims
        rw [D1.out]
        exact hO.drew.rd rfl
    · obtain rfl : k = 0 := by omega
      obtain ⟨d1, d2⟩ := dl_of (f := f) hk hf.out hz.out (.inl rfl)
      rw [HX.out] at d1
      have D1 := hid d1
      clear d1 d2
      cases A with
      | none =>
        go_wp2_with (first | (at_builtin; (refine wpList_append_copy_none rfl (.tmp 18) (.tmp 21) _ rfl 77 i0 Try.underlying43 qi0 w.heap.size 0 rfl none c rfl ?_)))
        go_ret
        exact ⟨_, 0, by rw [D1.out]; rfl, by rw [D1.out]; omega, by unfold maxLen; omega, fun i hi => absurd hi (by rw [D1.out]; omega), box1_below _ _⟩
      | some a =>
        go_wp2_with (first | (at_builtin; (refine wpList_append_copy_none rfl (.tmp 18) (.tmp 21) _ rfl 77 i0 Try.underlying43 qi0 w.heap.size 0 rfl (some a) c rfl ?_)))
        go_ret
        exact ⟨_, 0, by rw [D1.out]; rfl, by rw [D1.out]; omega, by unfold maxLen; omega, fun i hi => absurd hi (by rw [D1.out]; omega), box1_below _ _⟩

theorem refTrim_nat (A : Option Addr) (c x : Nat) (w : World) (h : NatOk w w.heap.size A x) (hc : dl x ≤ c) (hm : c ≤ maxLen) (hn : dl x ≤ 1073741824) :
    Calls Try.prog 58 #[.slice A (dl x) c] w (NatPost x w) := by
  have := refTrim_any A (dl x) c (dg x) w h (dg_all x) hc hm hn
  rwa [nv_dg] at this

set_option maxHeartbeats 2000000 in
theorem refOf_any (x : Nat) (w : World) (hx : x < 18446744073709551616) :
    Calls Try.prog 97 #[.int .u64 (x : Nat)] w (NatPost x w) := by
  have hL : Lims (w.alloc (Obj.cells #[Value.int .u32 ((x : Int) % 4294967296), Value.int .u32 ((x : Int) / 4294967296)] 77)) (w.alloc (Obj.cells #[Value.int .u32 ((x : Int) % 4294967296), Value.int .u32 ((x : Int) / 4294967296)] 77)).heap.size (some ⟨w.heap.size, 0, none⟩) 2 (two x) := by
    refine lims_row (t := 77) ⟨_, heap_alloc_new _ _, rfl, fun i hi => ?_⟩
    match i, hi with
    | 0, _ => simp [two]
    | 1, _ => simp [two]
  have H2 : Hid (∀ i, i < 2 → two x i < 4294967296) := fun i hi => by
    unfold two
    split <;> omega
  go_enter Try.func97, Try.ntmps97
  go_wp2_with fail
  refine (refTrim_any _ 2 2 (two x) _ hL H2 (Nat.le_refl _) (by unfold maxLen; omega) (by omega)).mono ?_
  rintro e w2 ⟨A, c, rfl, g1, g2, g3, g4⟩
  rw [nv_two] at g1 g3 ⊢
  have hB := onS ((Below.refl _ _).alloc (Nat.le_refl _) _) g4
  clear g4 hL
  go_wp2
  go_ret
  exact ⟨A, c, rfl, g1, g2, g3, hB⟩

theorem limb_in (A : Option Addr) (n c i : Nat) (f : Nat → Nat) (w : World) (h : Lims w w.heap.size A n f) (hf : Hid (∀ i, i < n → f i < 4294967296)) :
    Calls Try.prog 69 #[.slice A n c, .int .i64 (i : Nat)] w fun e w' => e = .returned (.int .u64 (padded f n i : Nat)) ∧ w = w' := by
  by_cases hlt : i < n
  · obtain ⟨b, o, rfl, hb, e0⟩ := h.at hlt
    have hlt' : (i : Int) < (n : Int) := by omega
    have q := hf.out i hlt
    have HP := hid (show padded f n i = f i by unfold padded; rw [if_pos hlt])
    obtain ⟨x, hx⟩ : ∃ x, x = f i := ⟨_, rfl⟩
    rw [← hx] at e0 q HP
    clear hx
    go_enter Try.func69, Try.ntmps69
    go_wp2
    go_ret
    exact ⟨ret_int (by simp [HP.out]), rfl⟩
  · have hlt' : ¬ (i : Int) < (n : Int) := by omega
    have HP := hid (show padded f n i = 0 by unfold padded; rw [if_neg hlt])
    go_enter Try.func69, Try.ntmps69
    go_wp2
    go_ret
    exact ⟨ret_int (by simp [HP.out]), rfl⟩

/-- The sum, limb by limb. -/
theorem refAdd_step {f g o : Nat → Nat} {n m k cc : Nat} (hv : nv o k + cc * 4294967296 ^ k = nv (padded f n) k + nv (padded g m) k) :
    nv (upd o k ((padded f n k + padded g m k + cc) % 4294967296)) (k + 1) + (padded f n k + padded g m k + cc) / 4294967296 * 4294967296 ^ (k + 1) = nv (padded f n) (k + 1) + nv (padded g m) (k + 1) := by
  simp only [nv]
  rw [nv_upd_ge (Nat.le_refl _), upd_same]
  have hc := carry_step1 (padded f n k + padded g m k + cc) k
  grind

set_option maxRecDepth 100000 in
set_option maxHeartbeats 4000000 in
theorem refAdd_any (A A2 : Option Addr) (n c m c2 : Nat) (f g : Nat → Nat) (w : World) (h : Lims w w.heap.size A n f) (h2 : Lims w w.heap.size A2 m g) (hf : Hid (∀ i, i < n → f i < 4294967296)) (hg : Hid (∀ i, i < m → g i < 4294967296)) (hn : n ≤ 268435456) (hm : m ≤ 268435456) :
    Calls Try.prog 87 #[.slice A n c, .slice A2 m c2] w (NatPost (nv f n + nv g m) w) := by
  obtain ⟨i0, qi0, qz0, qz1, qz2⟩ := info_parts Try.infoU32
  go_enter Try.func87, Try.ntmps87
  go_wp2
  go_loopg [7, 5, 6] (n + m + 1) (fun gg iv ov cv wx => ∃ k cc : Nat, ∃ o : Nat → Nat, iv = .int .i64 (k : Nat) ∧ cv = .int .u64 (cc : Nat) ∧ n + m + 1 ≤ k + gg ∧ k ≤ n + m + 1 ∧ (max n m < k → cc = 0) ∧ cc ≤ 1 ∧ Below w.heap.size w wx ∧ Own wx w.heap.size 77 1 ov k (fun i _ => .int .u32 (o i : Nat)) ∧ Hid (∀ i, o i < 4294967296) ∧ Hid (nv o k + cc * 4294967296 ^ k = nv (padded f n) k + nv (padded g m) k))
  case atStart => exact ⟨0, 0, fun _ => 0, rfl, rfl, by omega, by omega, fun _ => rfl, by omega, Below.refl _ _, Own.nil _ _ _ _ _, hid fun _ => by show 0 < _; omega, hid rfl⟩
  case round =>
    obtain ⟨k, cc, o, rfl, rfl, hkg, hk, hmx, hcc, hB, hO, HO, HV⟩ := hrel
    by_cases hgo : k < n ∨ k < m ∨ 0 < cc
    · have hkb : k ≤ max n m := by
        rcases hgo with h1 | h1 | h1
        · omega
        · omega
        · by_cases e : max n m < k
          · have := hmx e; omega
          · omega
      have hkb2 : k ≤ n + m := by omega
      have hf1 := padded_lt hf.out k
      have hg1 := padded_lt hg.out k
      have K1 := hid (refAdd_step HV.out)
      have hL1 := limb_in A n c k f wr (h.on hB) hf
      have hL2 := limb_in A2 m c2 k g wr (h2.on hB) hg
      have hzx : Hid (n ≤ k → m ≤ k → padded f n k + padded g m k = 0) := fun h1 h2 => by unfold padded; rw [if_neg (by omega), if_neg (by omega)]
      obtain ⟨x, hx⟩ : ∃ x, x = padded f n k := ⟨_, rfl⟩
      obtain ⟨y, hy⟩ : ∃ y, y = padded g m k := ⟨_, rfl⟩
      rw [← hx] at hf1 K1 hL1 hzx
      rw [← hy] at hg1 K1 hL2 hzx
      have HL1 := hid hL1
      have HL2 := hid hL2
      clear hx hy hL1 hL2
      have hO1 : Own wr w.heap.size 77 1 u5 k (fun i _ => .int .u32 (upd o k ((x + y + cc) % 4294967296) i : Nat)) := hO.congr fun i hi _ _ => by rw [upd_other (by omega)]
      have es : (((x : Int) + y + cc) % 4294967296) = (((x + y + cc) % 4294967296 : Nat) : Int) := by omega
      have N1 : Hid (∀ j, j < 1 → (wr.alloc (Obj.cells #[Value.int .u32 (((x : Int) + y + cc) % 4294967296)] 77)).cell? ((⟨wr.heap.size, 0, none⟩ : Addr).add j) = some (.int .u32 (upd o k ((x + y + cc) % 4294967296) k : Nat))) := fun j hj => by
        obtain rfl : j = 0 := by omega
        rw [upd_same, es]
        exact World.cell?_alloc_at _ _ _ _ rfl
      have N2 : Hid (∀ j, j < 1 → (Value.int .u32 (upd o k ((x + y + cc) % 4294967296) k : Nat)).oneCell' = true) := fun _ _ => rfl
      have n3 : Hid (k + 1 ≤ maxLen) := by show _ ≤ _; unfold maxLen; omega
      have n4 : Hid ((k + 1) * 4 ≤ 140737488355328) := by show _ ≤ _; omega
      have hQb : Hid (∀ k, u5.ownBlock = some k → w.heap.size ≤ k) := fun k e => (hO.lt k e).1
      have K3 : Hid (∀ i, upd o k ((x + y + cc) % 4294967296) i < 4294967296) := fun i => by
        unfold upd
        split
        · omega
        · exact HO.out i
      have K5 : Hid ((((x : Int) + y + cc) / 4294967296) = (((x + y + cc) / 4294967296 : Nat) : Int)) := by show _ = _; omega
      have K6 : Hid (max n m < k + 1 → (x + y + cc) / 4294967296 = 0) := fun hmk => by
        have := hzx.out (by omega) (by omega)
        omega
      have hsz := hB.size
      have hBA := hid (hB.alloc hB.size (Obj.cells #[Value.int .u32 (((x : Int) + y + cc) % 4294967296)] 77))
      clear es hO hmx
      have fin : True := trivial
      by_cases c1 : (k : Int) < (n : Int)
      all_goals by_cases c2 : (k : Int) < (m : Int)
      all_goals by_cases c3 : 0 < cc
      all_goals first
        | (exfalso; omega)
        | (have c4 : (0 : Int) < (cc : Int) ∨ ¬ (0 : Int) < (cc : Int) := by omega
           clear hgo
           go_wp2_with fail
           refine HL1.out.mono ?_
           rintro e w2 ⟨rfl, rfl⟩
           go_wp2_with fail
           refine HL2.out.mono ?_
           rintro e w2 ⟨rfl, rfl⟩
           go_wp2_with (first | (at_builtin; (refine wpList_append_one _ rfl (.tmp 34) (.tmp 38) _ rfl w.heap.size 77 i0 _ 1 4 Try.underlying43 qi0 qz0 qz1 qz2 rfl (by omega) u5 k _ rfl (hO1.alloc _) ⟨wr.heap.size, 0, none⟩ 1 rfl N1.out N2.out n3.out n4.out (by simp; omega) ?_); intro v' w3 hown3 hg3 hat3))
           have hB3 := hBA.out.grown hg3 (by simp; omega) (fun q e => hQb.out q e)
           go_roundg (gk - 1)
           case measure => omega
           case rel => exact ⟨k + 1, (x + y + cc) / 4294967296, _, by go_num, by rw [K5.out], by omega, by omega, K6.out, by omega, hB3, hown3, K3, K1⟩)
    · have c1 : ¬ (k : Int) < (n : Int) := by omega
      have c2 : ¬ (k : Int) < (m : Int) := by omega
      have c3 : cc = 0 := by omega
      subst c3
      have HS : Hid (nv o k = nv f n + nv g m) := by
        have := HV.out
        rw [nv_padded f (show n ≤ k by omega), nv_padded g (show m ≤ k by omega)] at this
        show _ = _
        omega
      obtain ⟨oa, oc, rfl⟩ := hO.shape
      have hI : Lims wr wr.heap.size oa k o := hO.rd rfl
      have hob : Hid (∀ i, i < k → o i < 4294967296) := fun i _ => HO.out i
      have hcap : k ≤ oc ∧ oc ≤ maxLen := by
        rcases Nat.eq_zero_or_pos k with e | e
        · subst e
          rcases hO with ⟨e1, _⟩ | ⟨g1, o1, cap, cur, e1, _, _, h3, h4, _⟩
          · injection e1 with _ _ e3; subst e3; exact ⟨by omega, by unfold maxLen; omega⟩
          · injection e1 with _ _ e3; subst e3; exact ⟨h3, h4⟩
        · obtain ⟨g1, o1, cap, e1, _, _, h3, h4, _⟩ := hO.form e
          injection e1 with _ _ e3; subst e3; exact ⟨h3, h4⟩
      clear hgo
      go_wp2_with fail
      refine (refTrim_any oa k oc o wr hI hob hcap.1 hcap.2 (by omega)).mono ?_
      rintro e w2 ⟨A', c', rfl, g1, g2, g3, g4⟩
      rw [HS.out] at g1 g3 ⊢
      have hB2 := onS hB g4
      clear g4 hI hO hB
      go_wp2
      go_ret
      exact ⟨A', c', rfl, g1, g2, g3, hB2⟩
theorem refAdd_nat (A A2 : Option Addr) (c c2 x y : Nat) (w : World) (h : NatOk w w.heap.size A x) (h2 : NatOk w w.heap.size A2 y) (hn : dl x ≤ 268435456) (hn2 : dl y ≤ 268435456) :
    Calls Try.prog 87 #[.slice A (dl x) c, .slice A2 (dl y) c2] w (NatPost (x + y) w) := by
  have := refAdd_any A A2 (dl x) c (dl y) c2 (dg x) (dg y) w h h2 (dg_all x) (dg_all y) hn hn2
  rwa [nv_dg, nv_dg] at this

set_option maxHeartbeats 2000000 in
theorem refBits_any (A : Option Addr) (c x : Nat) (w : World) (h : NatOk w w.heap.size A x) (hc : dl x ≤ c) (hm : c ≤ maxLen) (hn : dl x ≤ 1073741824) :
    Calls Try.prog 68 #[.slice A (dl x) c] w fun e w' => e = .returned (.int .i64 (nlen x : Nat)) ∧ Below w.heap.size w w' := by
  go_enter Try.func68, Try.ntmps68
  go_wp2_with fail
  refine (refTrim_nat A c x w h hc hm hn).mono ?_
  rintro e w1 ⟨A2, c2, rfl, g1, g2, g3, g4⟩
  by_cases h0 : x = 0
  · have hd : dl x = 0 := by rw [h0]; exact dl_zero
    have H := hid (show nlen x = 0 by rw [h0]; exact nlen_zero)
    rw [hd]
    clear h0 hd g1 g3
    go_wp2
    go_ret
    exact ⟨ret_int (by rw [H.out]; rfl), g4⟩
  · have hd : 0 < dl x := by have := mt dl_eq_zero.1 h0; omega
    obtain ⟨b, o, rfl, hb, e0⟩ := Lims.at g3 (i := dl x - 1) (by omega)
    have HL := hid (nlen_dl h0)
    have hg := dg_lt x (dl x - 1)
    obtain ⟨n, hn'⟩ : ∃ n, n = dl x := ⟨_, rfl⟩
    obtain ⟨v, hv⟩ : ∃ v, v = dg x (dl x - 1) := ⟨_, rfl⟩
    rw [← hv] at hg e0 HL
    rw [← hn'] at e0 hd HL hn g1 ⊢
    have hw2 : ((n : Int) - 1).toNat = n - 1 := by omega
    have hn0 : ((n : Int) == 0) = false := by simp; omega
    have hlen := nlen_le (x := v) (k := 32) hg
    clear hn' hv h h0 g3
    go_wp2
    go_loopg [3, 4] (nlen v) (fun gg nv tv wx => ∃ j u : Nat, nv = .int .i64 (32 * ((n : Int) - 1) + (j : Nat)) ∧ tv = .int .u32 (u : Nat) ∧ Hid (j + nlen u = nlen v) ∧ nlen u ≤ gg ∧ j ≤ 32 ∧ u < 4294967296 ∧ w1 = wx)
    case atStart => exact ⟨0, v, by simp, rfl, hid (by omega), Nat.le_refl _, by omega, hg, rfl⟩
    case round =>
      obtain ⟨j, u, rfl, rfl, hj, hgg, hj2, hu, rfl⟩ := hrel
      by_cases hu0 : u = 0
      · have HJ : Hid (j = nlen v) := by
          have := hj.out
          rw [hu0, nlen_zero] at this
          show _ = _
          omega
        subst hu0
        go_wp2
        go_ret
        exact ⟨ret_int (by rw [HL.out, ← HJ.out]; omega), g4⟩
      · have hp := nlen_pos hu0
        have hj3 := hj.out
        have hu1 : (0 : Int) < (u : Int) := by omega
        have hu2 : ((u : Int) / 2) = ((u / 2 : Nat) : Int) := by omega
        have HU := hid hu2
        have HN : Hid (j + 1 + nlen (u / 2) = nlen v) := by show _ = _; omega
        have hgg2 : nlen (u / 2) < gk := by omega
        have hj4 : j + 1 ≤ 32 := by omega
        clear hu2 hp hj3
        go_wp2
        go_roundg (nlen (u / 2))
        case measure => omega
        case rel => exact ⟨j + 1, u / 2, by congr 1 <;> omega, by rw [HU.out], HN, Nat.le_refl _, hj4, by omega, rfl⟩

set_option maxHeartbeats 2000000 in
theorem refSame_any (A A2 : Option Addr) (c c2 x : Nat) (w : World) (h : NatOk w w.heap.size A x) (h2 : NatOk w w.heap.size A2 x) (hn : dl x ≤ 1073741824) :
    Calls Try.prog 31 #[.slice A (dl x) c, .slice A2 (dl x) c2] w fun e w' => e = .returned (.bool true) ∧ Below w.heap.size w w' := by
  obtain ⟨n, hn'⟩ : ∃ n, n = dl x := ⟨_, rfl⟩
  have HN := hid hn'
  rw [← hn'] at hn ⊢
  clear hn'
  go_enter Try.func31, Try.ntmps31
  go_wp2
  go_loopg [5] n (fun gg iv wx => ∃ k : Nat, iv = .int .i64 (k : Nat) ∧ k ≤ n ∧ n ≤ k + gg ∧ Below w.heap.size w wx)
  case atStart => exact ⟨0, rfl, by omega, by omega, Below.refl _ _⟩
  case round =>
    obtain ⟨k, rfl, hk, hkg, hB⟩ := hrel
    by_cases hlt : k < n
    · obtain ⟨b, o, rfl, hb, e0⟩ := Lims.at (h.on hB) (i := k) (by rw [← HN.out]; exact hlt)
      obtain ⟨b2, o2, rfl, hb2, e2⟩ := Lims.at (h2.on hB) (i := k) (by rw [← HN.out]; exact hlt)
      have hlt' : (k : Int) < (n : Int) := by omega
      have hk0 : (0 : Int) ≤ (k : Int) := by omega
      go_wp2
      go_quiet (fail)
      go_wp2
      go_roundg (gk - 1)
      case measure => omega
      case rel => exact ⟨k + 1, by go_num, by omega, by omega, below_drewN hB _⟩
    · obtain rfl : k = n := by omega
      go_wp2
      go_ret
      exact ⟨rfl, hB⟩
end Go.Proofs.Ytnocbkhnmdmfhaa

namespace Go.Proofs.Ytnocbkhnmdmfhaa
open Go.RowKit

set_option maxRecDepth 100000 in
set_option maxHeartbeats 4000000 in
theorem refMul_any (A A2 : Option Addr) (n c m c2 : Nat) (f g : Nat → Nat) (w : World) (h : Lims w w.heap.size A n f) (h2 : Lims w w.heap.size A2 m g) (hf : Hid (∀ i, i < n → f i < 4294967296)) (hg : Hid (∀ i, i < m → g i < 4294967296)) (hn : n ≤ 536870912) (hm : m ≤ 536870912) :
    Calls Try.prog 89 #[.slice A n c, .slice A2 m c2] w (NatPost (nv f n * nv g m) w) := by
  have hmk := fun W => run_makeI (P := Try.prog) 43 77 _ 4 Try.underlying43 Try.infoU32 rfl ((n : Int) + (m : Int)) (by omega) (by omega) (by omega) W
  have e1 : ((n : Int) + (m : Int)).toNat = n + m := by omega
  have hrow0 := World.rowIs_made w (.int .u32 0) (n + m) 77
  go_enter Try.func89, Try.ntmps89
  go_wp2
  go_loopg [6] n (fun gg iv wx => ∃ k : Nat, ∃ o : Nat → Nat, iv = .int .i64 (k : Nat) ∧ k ≤ n ∧ n ≤ k + gg ∧ Below w.heap.size w wx ∧ wx.rowIs w.heap.size 77 (n + m) (fun i => .int .u32 (o i : Nat)) ∧ Hid (∀ i, o i < 4294967296) ∧ Hid (∀ i, k + m ≤ i → o i = 0) ∧ Hid (nv o (n + m) = nv f k * nv g m))
  case atStart => exact ⟨0, fun _ => 0, rfl, by omega, by omega, (Below.refl _ _).alloc (Nat.le_refl _) _, hrow0, hid fun _ => by show 0 < _; omega, hid fun _ _ => rfl, hid (by rw [nv_zero fun _ _ => rfl]; simp [nv])⟩
  case round =>
    clear hrow0 hmk e1
    obtain ⟨k, o, rfl, hk, hkg, hB, hrow, HO, HZ, HV⟩ := hrel
    by_cases hlt : k < n
    · have q1 := hf.out k hlt
      have hlt' : (k : Int) < (n : Int) := by omega
      obtain ⟨x, hx⟩ : ∃ x, x = f k := ⟨_, rfl⟩
      rw [← hx] at q1
      have HX := hid hx
      obtain ⟨wo, rfl⟩ : ∃ wo : World, wo = wr := ⟨_, rfl⟩
      obtain ⟨K, rfl⟩ : ∃ K : Nat, K = gk := ⟨_, rfl⟩
      clear hx
      go_wp2
      go_loopg [8, 7] m (fun gg jv cv wx => ∃ j cc : Nat, ∃ o' : Nat → Nat, jv = .int .i64 (j : Nat) ∧ cv = .int .u64 (cc : Nat) ∧ j ≤ m ∧ m ≤ j + gg ∧ cc < 4294967296 ∧ Below w.heap.size w wx ∧ wx.rowIs w.heap.size 77 (n + m) (fun i => .int .u32 (o' i : Nat)) ∧ Hid (∀ i, o' i < 4294967296) ∧ Hid (∀ i, k + m ≤ i → o' i = 0) ∧ Hid (nv o' (n + m) + cc * 4294967296 ^ (k + j) = nv o (n + m) + x * nv g j * 4294967296 ^ k))
      case atStart => exact ⟨0, 0, o, rfl, rfl, by omega, by omega, by omega, hB, hrow, HO, HZ, hid (by simp [nv])⟩
      case round =>
        clear hB hrow
        obtain ⟨j, cc, o', rfl, rfl, hj, hjg, hcc, hB, hrow, HO', HZ', HV'⟩ := hrel
        have hz := hrow.lt
        by_cases hjlt : j < m
        · obtain ⟨b, o1, rfl, hb, e0⟩ := (h.on hB).at hlt
          rw [← HX.out] at e0
          obtain ⟨b2, o2, rfl, hb2, e2⟩ := (h2.on hB).at hjlt
          have hk0 : (0 : Int) ≤ (k : Int) := by omega
          have hj0 : (0 : Int) ≤ (j : Int) := by omega
          have hkj0 : (0 : Int) ≤ (k : Int) + (j : Int) := by omega
          have hkj1 : (k : Int) + (j : Int) < (n : Int) + (m : Int) := by omega
          have hkj2 : IntKind.i64.wrap ((k : Int) + (j : Int)) = (k : Int) + (j : Int) := IntWalk.i64_in _ (by omega)
          have q2 := hg.out j hjlt
          have hjlt' : (j : Int) < (m : Int) := by omega
          have y0 := hrow.cell (i := k + j) (by omega)
          have z0 := hrow.frozen (k + j)
          have q3 := HO'.out (k + j)
          have hix : ((k : Int) + (j : Int)).toNat = k + j := by omega
          obtain ⟨y, hy⟩ : ∃ y, y = g j := ⟨_, rfl⟩
          obtain ⟨u, hu⟩ : ∃ u, u = o' (k + j) := ⟨_, rfl⟩
          rw [← hy] at e2 q2
          have K1 := hid (times_step (y := y) (show k + j < n + m by omega) HV'.out hy)
          rw [← hu] at y0 q3 K1
          have p0 : (0 : Int) ≤ (x : Int) * (y : Int) := by rw [← Int.natCast_mul]; omega
          have p1 : (x : Int) * (y : Int) ≤ 18446744065119617025 := by rw [← Int.natCast_mul]; have := limb_mul q1 q2; omega
          have p2 : (x : Int) * (y : Int) = ((x * y : Nat) : Int) := by rw [Int.natCast_mul]
          have p3 := limb_mul q1 q2
          have K2 : Hid ((wr.setCell ⟨w.heap.size, k + j, none⟩ (.int .u32 (((x : Int) * y + u + cc) % 4294967296))).rowIs w.heap.size 77 (n + m) (fun i => .int .u32 (upd o' (k + j) ((x * y + u + cc) % 4294967296) i : Nat))) := by
            refine (hrow.set (k + j) _).congr fun i _ => ?_
            unfold upd
            by_cases e : i = k + j
            · rw [if_pos e, if_pos e]; congr 1 <;> omega
            · rw [if_neg e, if_neg e]
          have K3 : Hid (∀ i, upd o' (k + j) ((x * y + u + cc) % 4294967296) i < 4294967296) := fun i => by
            unfold upd
            split
            · omega
            · exact HO'.out i
          have K4 : Hid (∀ i, k + m ≤ i → upd o' (k + j) ((x * y + u + cc) % 4294967296) i = 0) := fun i hi => by
            rw [upd_other (by omega)]; exact HZ'.out i hi
          have K5 : Hid ((((x : Int) * y + u + cc) / 4294967296) = (((x * y + u + cc) / 4294967296 : Nat) : Int)) := by show _ = _; omega
          have K6 : Hid ((x * y + u + cc) / 4294967296 < 4294967296) := by show _ < _; omega
          have p4 : IntKind.u64.wrap ((x : Int) * (y : Int)) = (x : Int) * (y : Int) := IntWalk.u64_in _ (by omega)
          have p5 : IntKind.u64.wrap ((x : Int) * (y : Int) + (u : Int)) = (x : Int) * (y : Int) + (u : Int) := IntWalk.u64_in _ (by omega)
          have p6 : IntKind.u64.wrap ((x : Int) * (y : Int) + (u : Int) + (cc : Int)) = (x : Int) * (y : Int) + (u : Int) + (cc : Int) := IntWalk.u64_in _ (by omega)
          have KD : Hid (∀ dn, ((wr.drewN dn).setCell ⟨w.heap.size, k + j, none⟩ (.int .u32 (((x : Int) * y + u + cc) % 4294967296))).rowIs w.heap.size 77 (n + m) (fun i => .int .u32 (upd o' (k + j) ((x * y + u + cc) % 4294967296) i : Nat))) := fun dn => K2.out
          clear hy hu p2 hrow
          go_wp2
          go_quiet (fail)
          go_wp2
          go_roundg (gk - 1)
          case measure => omega
          case rel => exact ⟨j + 1, (x * y + u + cc) / 4294967296, _, by go_num, by rw [← K5.out], by omega, by omega, K6.out, (below_drewN hB _).setCell (Nat.le_refl _) _, KD.out _, K3, K4, K1⟩
        · obtain rfl : j = m := by omega
          have y0 := hrow.cell (i := k + j) (by omega)
          have z0 := hrow.frozen (k + j)
          have hix : ((k : Int) + (j : Int)).toNat = k + j := by omega
          have K1 : Hid (nv (upd o' (k + j) cc) (n + j) = nv f (k + 1) * nv g j) := by
            have h1 := nv_upd (f := o') (v := cc) (show k + j < n + j by omega)
            rw [HZ'.out (k + j) (Nat.le_refl _)] at h1
            have h3 := HV'.out
            rw [HV.out, HX.out] at h3
            show _ = _
            simp only [nv]
            grind
          have K2 : Hid ((wr.setCell ⟨w.heap.size, k + j, none⟩ (.int .u32 (cc : Nat))).rowIs w.heap.size 77 (n + j) (fun i => .int .u32 (upd o' (k + j) cc i : Nat))) := by
            refine (hrow.set (k + j) _).congr fun i _ => ?_
            unfold upd
            by_cases e : i = k + j
            · rw [if_pos e, if_pos e]
            · rw [if_neg e, if_neg e]
          have K3 : Hid (∀ i, upd o' (k + j) cc i < 4294967296) := fun i => by
            unfold upd
            split
            · omega
            · exact HO'.out i
          have K4 : Hid (∀ i, k + 1 + j ≤ i → upd o' (k + j) cc i = 0) := fun i hi => by
            rw [upd_other (by omega)]; exact HZ'.out i (by omega)
          clear hrow
          go_wp2
          go_roundg (K - 1)
          case measure => omega
          case rel => exact ⟨k + 1, _, by go_num, by omega, by omega, hB.setCell (Nat.le_refl _) _, K2.out, K3, K4, K1⟩
    · obtain rfl : k = n := by omega
      have hob : Hid (∀ i, i < k + m → o i < 4294967296) := fun i _ => HO.out i
      go_wp2_with fail
      refine (refTrim_any (some ⟨w.heap.size, 0, none⟩) (k + m) (k + m) o wr (lims_row hrow) hob (Nat.le_refl _) (by unfold maxLen; omega) (by omega)).mono ?_
      rintro e w1 ⟨A', c', rfl, g1, g2, g3, g4⟩
      rw [HV.out] at g1 g3 ⊢
      have hB2 := onS hB g4
      clear hrow HO HZ hB g4
      go_wp2
      go_ret
      exact ⟨A', c', rfl, g1, g2, g3, hB2⟩

theorem refMul_nat (A A2 : Option Addr) (c c2 x y : Nat) (w : World) (h : NatOk w w.heap.size A x) (h2 : NatOk w w.heap.size A2 y) (hn : dl x ≤ 536870912) (hn2 : dl y ≤ 536870912) :
    Calls Try.prog 89 #[.slice A (dl x) c, .slice A2 (dl y) c2] w (NatPost (x * y) w) := by
  have := refMul_any A A2 (dl x) c (dl y) c2 (dg x) (dg y) w h h2 (dg_all x) (dg_all y) hn hn2
  rwa [nv_dg, nv_dg] at this

end Go.Proofs.Ytnocbkhnmdmfhaa
