/- channel.Undetected; ChannelUndetected returns true. -/
import Derived.Test.YtlfmnaepcndhiaaUndet
import Derived.Test.YtlfmnaepcndhiaaSized
namespace Go.Proofs.Ytlfmnaepcndhiaa
open Go.RowKit Go.ChangeShapes Go.WideShapes Go.ChangeAt

section
variable {P : Program} (w : World)
/-- append onto a slice of one element without room: m > 0 more. -/
theorem run_append_cons (t ty e : TypeId) (i : TypeInfo) (z : Value) (bytes : Nat) (ht : P.underlying t = some (.slice e)) (hi : P.info? e = some i) (hz : i.zero = some z)
    (hsize : i.size = 1) (hby : i.bytes = bytes) (g : Nat) (u : Value) (hu : w.cell? ⟨g, 0, none⟩ = some u)
    (A : Option Addr) (m c : Nat) (f : Nat → Value) (hsrc : Rd w w.heap.size A m 1 (fun i _ => f i)) (hm : 0 < m) (h1 : ∀ k, k < m → (f k).oneCell' = true)
    (h63 : 1 + m ≤ maxLen) (hbytes : (1 + m) * bytes ≤ 140737488355328) :
    ∃ cap cur, (Builtin.append_ #[t, t] ty #[.slice (some ⟨g, 0, none⟩) 1 1, .slice A m c]).run P w = .ok (.slice (some ⟨w.heap.size, 0, none⟩) (1 + m) cap) (w.drew.alloc (.cells cur e)) ∧
      1 + m ≤ cap ∧ cap ≤ maxLen ∧ cur[0]? = some u ∧ ∀ k, k < m → cur[k + 1]? = some (f k) := by
  subst hby
  obtain ⟨b, off, rfl, hb, _⟩ := hsrc 0 hm
  have add_lit' : ∀ (b o j : Nat), (⟨b, o, none⟩ : Addr).add j = ⟨b, o + j, none⟩ := fun b o j => by unfold Addr.add; split <;> simp_all
  have hcell : ∀ j v, ((List.range m).map f)[j]? = some v → w.cell? ((⟨b, off, none⟩ : Addr).add j) = some v := fun j v hv => by
    have hj : j < m := by have := (List.getElem?_eq_some_iff.1 hv).1; simpa using this
    obtain ⟨b', off', e', _, hc⟩ := hsrc j hj
    injection e' with e'
    injection e' with e' e''
    subst e' e''
    rw [add_lit']
    have := hc 0 (by omega)
    simp at this
    rw [this]
    simp [hj] at hv
    rw [hv]
  have hsr := Src.ofSlice (P := P) w (size := i.size) (e' := e) ht ⟨b, off, none⟩ m c ((List.range m).map f) (by rw [hsize]; simp) hcell (fun u hu => by
    obtain ⟨j, hj, rfl⟩ := List.mem_map.1 hu
    exact h1 _ (List.mem_range.1 hj))
  have hold : (Builtin.firstCells i.size 1 (.slice (some ⟨g, 0, none⟩) 1 1)).run P w.drew = .ok [u].toArray w.drew := by
    refine run_firstCells_some (P := P) w.drew i.size 1 ⟨g, 0, none⟩ 1 1 [u] (by rw [hsize]; rfl) fun j v hv => ?_
    have hj : j < 1 := by have := (List.getElem?_eq_some_iff.1 hv).1; simpa using this
    obtain rfl : j = 0 := by omega
    simp at hv
    subst hv
    rw [add_lit']
    exact hu
  have hrun := run_append_grow_src (P := P) w t t ty e i z ht hi hz (some ⟨g, 0, none⟩) 1 1 [u] hold (.slice (some ⟨b, off, none⟩) m c) m ((List.range m).map f) hsr (by omega) (by simp only [maxLen] at h63; omega) (growslice_fits (by omega) hbytes)
  refine ⟨_, _, hrun, grownCap_ge w (1 + m) 1 e, grownCap_le_maxLen w (1 + m) 1 e h63, ?_, fun k hk => ?_⟩
  · rw [Array.getElem?_append_left (by simp)]; rfl
  · rw [Array.getElem?_append_left (by simp; omega), List.getElem?_toArray]
    show ((List.range m).map f)[k]? = _
    simp [hk]
theorem run_append_cons_none (t ty e : TypeId) (i : TypeInfo) (ht : P.underlying t = some (.slice e)) (hi : P.info? e = some i) (g : Nat) (A : Option Addr) (c : Nat) :
    (Builtin.append_ #[t, t] ty #[.slice (some ⟨g, 0, none⟩) 1 1, .slice A 0 c]).run P w = .ok (.slice (some ⟨g, 0, none⟩) 1 1) w := by
  have hs : Src P i.size t (.slice A 0 c) 0 [] w := by
    cases A with
    | none => exact Src.ofNil w ht c
    | some a => exact Src.ofSlice w (e' := e) ht a 0 c [] (by simp) (fun j u h => by simp at h) (fun u h => by cases h)
  have h := run_append_room_src (P := P) w t t ty e i ht hi g 0 1 1 (.slice A 0 c) 0 [] hs (Nat.le_refl _) (fun j hj => by simp at hj) (fun j hj => by simp at hj)
  rw [h]
  rfl
end
theorem Try.infoNatS : (Try.prog.info? 30).map (fun i => (i.zero, i.size, i.bytes)) = some (some (.slice none 0 0), 1, 24) := by kernel_rfl
theorem wpList_append_nats {w : World} {ops : Array Oper} {rest : List Oper} {o : Oper} {a : Act} {Q : Exit → Act → World → Prop} (hgd : o.guard = none) (sl x : Operand)
    (ho : o.op = .call { callee := .builtin .append, args := #[sl, x], argTypes := #[51, 51] })
    (g : Nat) (hv : a.eval sl = .slice (some ⟨g, 0, none⟩) 1 1) (hu : w.cell? ⟨g, 0, none⟩ = some (.slice none 0 0))
    (A : Option Addr) (m c : Nat) (hx : a.eval x = .slice A m c) (f : Nat → Value) (hsrc : Rd w w.heap.size A m 1 (fun i _ => f i)) (hm : 0 < m) (h1 : ∀ k, k < m → (f k).oneCell' = true) (h63 : m ≤ 1048576)
    (hK : ∀ cap cur, 1 + m ≤ cap → cap ≤ maxLen → cur[0]? = some (.slice none 0 0) → (∀ k, k < m → cur[k + 1]? = some (f k)) → wpList Try.prog ops Q rest (a.put o.dst (.slice (some ⟨w.heap.size, 0, none⟩) (1 + m) cap)) (w.drew.alloc (.cells cur 30))) : wpList Try.prog ops Q (o :: rest) a w := by
  refine wpList_plain hgd fun K hK' => ?_
  obtain ⟨i, hi, hzz⟩ := Option.map_eq_some_iff.1 Try.infoNatS
  simp only [Prod.mk.injEq] at hzz
  obtain ⟨hz, hs, hb⟩ := hzz
  obtain ⟨cap, cur, hrun, h2, h3, h4, h5⟩ := run_append_cons (P := Try.prog) w 51 o.type 30 i _ 24 Try.underlying51 hi hz hs hb g _ hu A m c f hsrc hm h1 (by unfold maxLen; omega) (by omega)
  unfold Oper.wp execOp
  simp only [ho, resolve, invoke, builtin, Sem.run_bind, Sem.run_pure, Result.andThen_ok, List.map_toArray, List.map_cons, List.map_nil, hv, hx, hrun]
  exact hK' _ _ (hK cap cur h2 h3 h4 h5)
theorem wpList_append_nats0 {w : World} {ops : Array Oper} {rest : List Oper} {o : Oper} {a : Act} {Q : Exit → Act → World → Prop} (hgd : o.guard = none) (sl x : Operand)
    (ho : o.op = .call { callee := .builtin .append, args := #[sl, x], argTypes := #[51, 51] })
    (g : Nat) (hv : a.eval sl = .slice (some ⟨g, 0, none⟩) 1 1) (A : Option Addr) (c : Nat) (hx : a.eval x = .slice A 0 c)
    (hK : wpList Try.prog ops Q rest (a.put o.dst (.slice (some ⟨g, 0, none⟩) 1 1)) w) : wpList Try.prog ops Q (o :: rest) a w := by
  refine wpList_plain hgd fun K hK' => ?_
  obtain ⟨i, hi, hzz⟩ := Option.map_eq_some_iff.1 Try.infoNatS
  have hrun := run_append_cons_none (P := Try.prog) w 51 o.type 30 i Try.underlying51 hi g A c
  unfold Oper.wp execOp
  simp only [ho, resolve, invoke, builtin, Sem.run_bind, Sem.run_pure, Result.andThen_ok, List.map_toArray, List.map_cons, List.map_nil, hv, hx, hrun]
  exact hK' _ _ hK
/-- The list with 0 for its first. -/
def zer (xs : Nat → Nat) (i : Nat) : Nat := if i = 0 then 0 else xs i
theorem natRaw_nil (w : World) (B : Nat) : NatRaw w B none 0 0 := ⟨fun _ => 0, fun i hi => by omega, fun i hi => by omega, rfl⟩

set_option maxRecDepth 100000 in
set_option maxHeartbeats 4000000 in
theorem undet_ok (q n : Nat) (T : Option Addr) (M c : Nat) (xs : Nat → Nat) (w : World) (h : NatRTab w w.heap.size T M xs 8) (hq : 2 ≤ q) (hq2 : q ≤ 256) (hn : n ≤ 64) (hM : M = n + 1) (hMc : M ≤ c) (hcm : c ≤ maxLen) :
    Calls Try.prog 31 #[.int .i64 (q : Nat), .slice T M c] w (PolyOk (wtP q n (zer xs) (n + 1)).1 (wtP q n (zer xs) (n + 1)).2 w) := by
  have hpo : Hid (∀ (W : World) (e : Ending) (W' : World), PolyPost (wtP q n (zer xs) (n + 1)).1 (wtP q n (zer xs) (n + 1)).2 W e W' → PolyPost (wtP q n (zer xs) (n + 1)).1 (wtP q n (zer xs) (n + 1)).2 W e W') := fun _ _ _ h => h
  obtain ⟨L, hL⟩ : ∃ L, L = (wtP q n (zer xs) (n + 1)).1 := ⟨_, rfl⟩
  obtain ⟨S, hS⟩ : ∃ S, S = (wtP q n (zer xs) (n + 1)).2 := ⟨_, rfl⟩
  have hpo : Hid (∀ (W : World) (e : Ending) (W' : World), PolyPost (wtP q n (zer xs) (n + 1)).1 (wtP q n (zer xs) (n + 1)).2 W e W' → PolyPost L S W e W') := fun _ _ _ h => by rw [hL, hS]; exact h
  rw [← hL, ← hS]
  clear hL hS
  have hq1 : (2 : Int) ≤ (q : Int) := by omega
  have hq3 : (q : Int) ≤ 256 := by omega
  have hM1 : (1 : Int) ≤ (M : Int) := by omega
  have hM2 : (M : Int) ≤ 65 := by omega
  have hMc' : (M : Int) ≤ (c : Int) := by omega
  have hc1 : (1 : Int) ≤ (c : Int) := by omega
  obtain ⟨b, off, A1, l1, d1, rfl, hb, _⟩ := h 0 (by omega)
  have HMM := hid hM
  have hsrc : Hid (∀ i, i < n → ∃ A l d, w.cell? ⟨b, off + 1 + i, none⟩ = some (.slice A l d) ∧ NatRaw w w.heap.size A l (xs (i + 1)) ∧ l ≤ d ∧ d ≤ maxLen ∧ l ≤ 8) := fun i hi => by
    obtain ⟨b', off', A, l, d, e, _, h2, h3, h4, h5, h6⟩ := h (i + 1) (by omega)
    injection e with e
    injection e with e1 e2
    subst e1 e2
    exact ⟨A, l, d, by rw [show off + 1 + i = off + (i + 1) by omega]; exact h2, h3, h4, h5, h6⟩
  clear h
  have kb0 := below_one w (.cells #[.slice none 0 0] 30)
  by_cases hn0 : n = 0
  · subst hn0
    obtain rfl : M = 1 := by omega
    have htab : NatRTab (w.alloc (.cells #[.slice none 0 0] 30)) (w.alloc (.cells #[.slice none 0 0] 30)).heap.size (some ⟨w.heap.size, 0, none⟩) 1 (zer xs) 8 := fun i hi => by
      obtain rfl : i = 0 := by omega
      exact ⟨w.heap.size, 0, none, 0, 0, rfl, by simp, by simp, natRaw_nil _ _, Nat.le_refl _, by unfold maxLen; omega, by omega⟩
    clear hM HMM hsrc
    by_cases hcc : c = 1
    · subst hcc
      go_enter Try.func31, Try.ntmps31
      go_wp2_with (first | (at_builtin; (refine wpList_append_nats0 rfl (.tmp 21) (.tmp 23) rfl w.heap.size rfl _ _ rfl ?_)))
      refine ((weighted_any q 0 (some ⟨w.heap.size, 0, none⟩) 1 1 (zer xs) _ htab hq hq2 hn rfl).mono (fun e W' => hpo.out _ e W')).mono ?_
      rintro e w1 ⟨Ta, ca, rfl, p1, p2, p3, kb⟩
      replace kb0 := onS kb0 kb
      clear kb
      go_wp2
      go_ret2
      exact ⟨_, _, rfl, p1, p2, p3, kb0⟩
    · have hc2 : (1 : Int) < (c : Int) := by omega
      have hc3 : ¬ (c : Int) = 1 := by omega
      go_enter Try.func31, Try.ntmps31
      go_wp2_with (first | (at_builtin; (refine wpList_append_nats0 rfl (.tmp 21) (.tmp 23) rfl w.heap.size rfl _ _ rfl ?_)))
      refine ((weighted_any q 0 (some ⟨w.heap.size, 0, none⟩) 1 1 (zer xs) _ htab hq hq2 hn rfl).mono (fun e W' => hpo.out _ e W')).mono ?_
      rintro e w1 ⟨Ta, ca, rfl, p1, p2, p3, kb⟩
      replace kb0 := onS kb0 kb
      clear kb
      go_wp2
      go_ret2
      exact ⟨_, _, rfl, p1, p2, p3, kb0⟩
  · have hc2 : (1 : Int) < (c : Int) := by omega
    have hc3 : ¬ (c : Int) = 1 := by omega
    have hcn : ¬ c = 1 := by omega
    have hMn : M - 1 = n := by omega
    have hMi : (M : Int) - 1 = ((n : Nat) : Int) := by omega
    have hval : ∀ i, ∃ v : Value, i < n → (w.cell? ⟨b, off + 1 + i, none⟩ = some v ∧ v.oneCell' = true ∧ ∃ A l d, v = .slice A l d ∧ NatRaw w w.heap.size A l (xs (i + 1)) ∧ l ≤ d ∧ d ≤ maxLen ∧ l ≤ 8) := fun i => by
      by_cases hi : i < n
      · obtain ⟨A, l, d, h1, h2⟩ := hsrc.out i hi
        exact ⟨.slice A l d, fun _ => ⟨h1, rfl, A, l, d, rfl, h2⟩⟩
      · exact ⟨undef, fun h => absurd h hi⟩
    obtain ⟨f, hf⟩ := Classical.axiomOfChoice hval
    have hrd : Rd (w.alloc (.cells #[.slice none 0 0] 30)) (w.alloc (.cells #[.slice none 0 0] 30)).heap.size (some ⟨b, off + 1, none⟩) n 1 (fun i _ => f i) := fun i hi => by
      refine ⟨b, off + 1, rfl, by simp; omega, fun j hj => ?_⟩
      obtain rfl : j = 0 := by omega
      have := cellS kb0 (hf i hi).1
      simpa using this
    have hcell0 : (w.alloc (.cells #[.slice none 0 0] 30)).cell? ⟨w.heap.size, 0, none⟩ = some (.slice none 0 0) := by simp
    have HF := hid hf
    have HRD := hid hrd
    have H0 := hid hcell0
    clear hf hval hrd hcell0 hsrc hM
    go_enter Try.func31, Try.ntmps31
    go_wp2_with (first | (at_builtin; (refine wpList_append_nats rfl (.tmp 21) (.tmp 23) rfl w.heap.size rfl H0.out (some ⟨b, off + 1, none⟩) n (c - 1) rfl f HRD.out (by omega) (fun k hk => (HF.out k hk).2.1) (by omega) ?_); intro cap cur k1 k2 k3 k4))
    obtain ⟨wz, hwz⟩ : ∃ W, W = ((w.alloc (.cells #[.slice none 0 0] 30)).alloc (.cells cur 30)).drew := ⟨_, rfl⟩
    have kb1 : Below w.heap.size w wz := by
      rw [hwz]
      exact (onS kb0 (below_one _ (.cells cur 30))).drew
    have hblk : wz.heap[w.heap.size + 1]? = some (.cells cur 30 (0, 0)) := by
      rw [hwz]
      have := heap_alloc_new (w.alloc (.cells #[.slice none 0 0] 30)) (.cells cur 30)
      rw [show (w.alloc (.cells #[.slice none 0 0] 30)).heap.size = w.heap.size + 1 by simp] at this
      exact this
    have hlt : w.heap.size + 1 < wz.heap.size := (Array.getElem?_eq_some_iff.1 hblk).1
    have htab : NatRTab wz wz.heap.size (some ⟨w.heap.size + 1, 0, none⟩) (1 + n) (zer xs) 8 := fun i hi => by
      by_cases h0 : i = 0
      · subst h0
        exact ⟨w.heap.size + 1, 0, none, 0, 0, rfl, hlt, by rw [cell_of_row _ _ _ _ _ _ hblk]; exact k3, natRaw_nil _ _, Nat.le_refl _, by unfold maxLen; omega, by omega⟩
      · obtain ⟨_, _, A, l, d, e, g1, g2, g3, g4⟩ := HF.out (i - 1) (by omega)
        refine ⟨w.heap.size + 1, 0, A, l, d, rfl, hlt, ?_, ?_, g2, g3, g4⟩
        · rw [cell_of_row _ _ _ _ _ _ hblk, Nat.zero_add]
          have := k4 (i - 1) (by omega)
          rw [show i - 1 + 1 = i by omega, e] at this
          exact this
        · have := g1.on kb1
          rw [show i - 1 + 1 = i by omega] at this
          unfold zer
          rw [if_neg h0]
          exact this
    rw [← hwz]
    obtain ⟨gz, hgz⟩ : ∃ g, g = w.heap.size + 1 := ⟨_, rfl⟩
    rw [← hgz] at htab ⊢
    clear hwz hgz hblk hlt k3 k4 HF HRD H0 kb0
    refine ((weighted_any q n (some ⟨gz, 0, none⟩) (1 + n) cap (zer xs) _ htab hq hq2 hn (Nat.add_comm _ _)).mono (fun e W' => hpo.out _ e W')).mono ?_
    rintro e w1 ⟨Ta, ca, rfl, p1, p2, p3, kb⟩
    have hB := onS kb1 kb
    clear kb htab kb1
    go_wp2
    go_ret2
    exact ⟨_, _, rfl, p1, p2, p3, hB⟩

theorem undet_badq (q : Int) (T : Option Addr) (M c : Nat) (w : World) (h : q < 2 ∨ 256 < q) : Calls Try.prog 31 #[.int .i64 q, .slice T M c] w fun e w' => e = .returned (.tuple #[.slice none 0 0, .int .i64 6]) ∧ w = w' := by
  rcases h with h | h
  · go_enter Try.func31, Try.ntmps31
    go_wp2
    go_ret2
    exact ⟨rfl, rfl⟩
  · have h2 : ¬ q < 2 := by omega
    go_enter Try.func31, Try.ntmps31
    go_wp2
    go_ret2
    exact ⟨rfl, rfl⟩
theorem undet_badm (q : Int) (T : Option Addr) (M c : Nat) (w : World) (h1 : 2 ≤ q) (h2 : q ≤ 256) (h : M < 1 ∨ 65 < M) : Calls Try.prog 31 #[.int .i64 q, .slice T M c] w fun e w' => e = .returned (.tuple #[.slice none 0 0, .int .i64 3]) ∧ w = w' := by
  rcases h with h | h
  · have h' : (M : Int) < 1 := by omega
    go_enter Try.func31, Try.ntmps31
    go_wp2
    go_ret2
    exact ⟨rfl, rfl⟩
  · have h' : (65 : Int) < (M : Int) := by omega
    have h2' : ¬ (M : Int) < 1 := by omega
    go_enter Try.func31, Try.ntmps31
    go_wp2
    go_ret2
    exact ⟨rfl, rfl⟩
set_option maxRecDepth 100000 in
set_option maxHeartbeats 8000000 in
theorem channelUndetected_any (q : Int) (T : Option Addr) (M c : Nat) (ln xs : Nat → Nat) (w : World) (hl : NatLens w T M ln) (h : ∀ N, (∀ i, i < M → ln i ≤ N) → NatRTab w w.heap.size T M xs N) (hMc : M ≤ c) (hcm : c ≤ 5864062014634) :
    Calls Try.prog 7 #[.int .i64 q, .slice T M c] w fun e w' => e = .returned (.bool true) ∧ Below w.heap.size w w' := by
  by_cases hmid : 16 < M ∧ M ≤ 65
  · have m1 : (16 : Int) < (M : Int) := by omega
    have m2 : (M : Int) ≤ 65 := by omega
    clear h hl
    go_enter Try.func7, Try.ntmps7
    go_wp2
    go_ret
    exact ⟨rfl, Below.refl _ _⟩
  · cases hb : largeB ln M
    · have HB := hid hb
      have htab := h 8 (fun i hi => largeB_false hb i hi)
      clear h hb
      by_cases hq : q < 2 ∨ 256 < q
      · by_cases hsm : M ≤ 16
        · have m1 : ¬ (16 : Int) < (M : Int) := by omega
          clear htab
          clear hmid
          go_enter Try.func7, Try.ntmps7
          go_wp2_with fail
          refine (lawLarge_any false T M c ln _ hl (by omega) HB).mono ?_
          rintro e w0 ⟨rfl, rfl⟩
          go_wp2_with fail
          refine (undet_badq q T M c _ hq).mono ?_
          rintro e w1 ⟨rfl, rfl⟩
          go_wp2_with fail
          refine (order_bad q _ hq).mono ?_
          rintro e w1 ⟨rfl, rfl⟩
          clear hq
          go_wp2
          go_ret
          exact ⟨rfl, Below.refl _ _⟩
        · have m1 : (16 : Int) < (M : Int) := by omega
          have m2 : ¬ (M : Int) ≤ 65 := by omega
          clear htab
          clear hmid
          go_enter Try.func7, Try.ntmps7
          go_wp2_with fail
          refine (lawLarge_any false T M c ln _ hl (by omega) HB).mono ?_
          rintro e w0 ⟨rfl, rfl⟩
          go_wp2_with fail
          refine (undet_badq q T M c _ hq).mono ?_
          rintro e w1 ⟨rfl, rfl⟩
          go_wp2_with fail
          refine (order_bad q _ hq).mono ?_
          rintro e w1 ⟨rfl, rfl⟩
          clear hq
          go_wp2
          go_ret
          exact ⟨rfl, Below.refl _ _⟩
      · have hq1 : 2 ≤ q := by omega
        have hq2 : q ≤ 256 := by omega
        clear hq
        by_cases hM : M < 1 ∨ 65 < M
        · by_cases hsm : M ≤ 16
          · have m1 : ¬ (16 : Int) < (M : Int) := by omega
            clear htab
            have hMi : (M : Int) < 1 ∨ 65 < (M : Int) := by omega
            have HMI := hid hMi
            clear hMi
            clear hmid
            go_enter Try.func7, Try.ntmps7
            go_wp2_with fail
            refine (lawLarge_any false T M c ln _ hl (by omega) HB).mono ?_
            rintro e w0 ⟨rfl, rfl⟩
            go_wp2_with fail
            refine (undet_badm q T M c _ hq1 hq2 hM).mono ?_
            rintro e w1 ⟨rfl, rfl⟩
            clear hM
            go_wp2_with fail
            refine (order_ok q _ hq1 hq2).mono ?_
            rintro e w1 ⟨rfl, rfl⟩
            go_wp2_with fail
            refine (shape_bad _ _ HMI.out).mono ?_
            rintro e w1 ⟨rfl, rfl⟩
            go_wp2
            go_ret
            exact ⟨rfl, Below.refl _ _⟩
          · have m1 : (16 : Int) < (M : Int) := by omega
            have m2 : ¬ (M : Int) ≤ 65 := by omega
            clear htab
            have hMi : (M : Int) < 1 ∨ 65 < (M : Int) := by omega
            have HMI := hid hMi
            clear hMi
            clear hmid
            go_enter Try.func7, Try.ntmps7
            go_wp2_with fail
            refine (lawLarge_any false T M c ln _ hl (by omega) HB).mono ?_
            rintro e w0 ⟨rfl, rfl⟩
            go_wp2_with fail
            refine (undet_badm q T M c _ hq1 hq2 hM).mono ?_
            rintro e w1 ⟨rfl, rfl⟩
            clear hM
            go_wp2_with fail
            refine (order_ok q _ hq1 hq2).mono ?_
            rintro e w1 ⟨rfl, rfl⟩
            go_wp2_with fail
            refine (shape_bad _ _ HMI.out).mono ?_
            rintro e w1 ⟨rfl, rfl⟩
            go_wp2
            go_ret
            exact ⟨rfl, Below.refl _ _⟩
        · have m1 : ¬ (16 : Int) < (M : Int) := by omega
          have m3 : (1 : Int) ≤ (M : Int) := by omega
          have m4 : (M : Int) ≤ 65 := by omega
          obtain ⟨q, rfl⟩ := Int.eq_ofNat_of_zero_le (show 0 ≤ q by omega)
          obtain ⟨n, hn⟩ : ∃ n, M = n + 1 := ⟨M - 1, by omega⟩
          have hn16 : n ≤ 15 := by omega
          have hq1n : 2 ≤ q := by omega
          have hq2n : q ≤ 256 := by omega
          have hS := wt_ru q n (zer xs) rfl n
          have hru : ruP q n (zer xs) n = ruP q n xs n := ruP_congr (fun i hi => by unfold zer; rw [if_neg (by omega)]) n
          rw [hru] at hS
          obtain ⟨e1, e2, _⟩ := hS
          have hdx : ∀ k, k ≤ n → dl (xs k) ≤ 8 := fun k hk => by
            obtain ⟨b, off, A, l, d, _, _, _, h3, _, _, h5⟩ := htab k (by omega)
            have := h3.dl
            omega
          have hrs := hid (rsz_cl2 (rsz_ru hq1n hq2n (by omega) hdx n (Nat.le_refl _)))
          have hrl := ruP_len q n xs n
          have hent : Hid (∀ i, i < (ruP q n xs n).1 → (wtP q n (zer xs) (n + 1)).2 i = (ruP q n xs n).2 i) := fun i hi => by
            have := e2 i
            unfold cl2 cutR at this
            rwa [if_pos (by omega), if_pos hi] at this
          have hpo : Hid (∀ (W : World) (e : Ending) (W' : World), PolyOk (wtP q n (zer xs) (n + 1)).1 (wtP q n (zer xs) (n + 1)).2 W e W' → PolyOk (ruP q n xs n).1 (ruP q n xs n).2 W e W') := fun W e W' ⟨A, c, h1, h2, h3, h4, h5⟩ => by rw [e1] at h1 h2 h4; exact ⟨A, c, h1, h2, h3, h4.congr hent.out, h5⟩
          have hpr : Hid (∀ (W : World) (e : Ending) (W' : World), PolyPost (ruP q n xs n).1 (ruP q n xs n).2 W e W' → PolyPost (ruP q n xs n).1 (ruP q n xs n).2 W e W') := fun _ _ _ h => h
          obtain ⟨L, hL⟩ : ∃ L, L = (ruP q n xs n).1 := ⟨_, rfl⟩
          obtain ⟨S, hSS⟩ : ∃ S, S = (ruP q n xs n).2 := ⟨_, rfl⟩
          have hprL : Hid (∀ (W : World) (e : Ending) (W' : World), PolyPost (ruP q n xs n).1 (ruP q n xs n).2 W e W' → PolyPost L S W e W') := fun _ _ _ h => by rw [hL, hSS]; exact h
          rw [← hL, ← hSS] at hpo hrs
          rw [← hL] at hrl
          clear hL hSS hpr hent e1 e2 hru hdx
          have HN := hid hn
          clear hn hM
          clear hmid
          go_enter Try.func7, Try.ntmps7
          go_wp2_with fail
          refine (lawLarge_any false T M c ln _ hl (by omega) HB).mono ?_
          rintro e w0 ⟨rfl, rfl⟩
          go_wp2_with fail
          refine ((undet_ok q n T M c xs _ htab hq1n hq2n (by omega) HN.out hMc (by unfold maxLen; omega)).mono (fun e W' => hpo.out _ e W')).mono ?_
          rintro e w1 ⟨A1, c1, rfl, l1, l2, l3, kb⟩
          have hB := kb
          clear kb
          go_wp2_with fail
          refine (order_ok _ _ hq1 hq2).mono ?_
          rintro e w2 ⟨rfl, rfl⟩
          go_wp2_with fail
          refine (shape_ok _ _ m3 m4).mono ?_
          rintro e w2 ⟨rfl, rfl⟩
          go_wp2_with fail
          refine ((refUndet_any q n T M c xs _ (htab.on hB) hq1n hq2n (by omega) HN.out).mono (fun e W' => hprL.out _ e W')).mono ?_
          rintro e w2 ⟨A2, c2, rfl, k1, k2, k3, kb⟩
          replace l3 := l3.on kb
          replace hB := onS hB kb
          clear kb
          go_wp2_with fail
          refine (lawSame_any A1 A2 L c1 c2 (1 + n * 501) S _ l3 k3 (by omega) (by omega) hrs).mono ?_
          rintro e w3 ⟨rfl, kb⟩
          replace hB := onS hB kb
          clear kb l3 k3
          go_wp2
          go_ret
          exact ⟨rfl, hB⟩
    · have HB := hid hb
      clear h hb
      by_cases hsm : M ≤ 16
      · have m1 : ¬ (16 : Int) < (M : Int) := by omega
        clear hmid
        go_enter Try.func7, Try.ntmps7
        go_wp2_with fail
        refine (lawLarge_any true T M c ln _ hl (by omega) HB).mono ?_
        rintro e w0 ⟨rfl, rfl⟩
        go_wp2
        go_ret
        exact ⟨rfl, Below.refl _ _⟩
      · have m1 : (16 : Int) < (M : Int) := by omega
        have m2 : ¬ (M : Int) ≤ 65 := by omega
        clear hmid
        go_enter Try.func7, Try.ntmps7
        go_wp2_with fail
        refine (lawLarge_any true T M c ln _ hl (by omega) HB).mono ?_
        rintro e w0 ⟨rfl, rfl⟩
        go_wp2
        go_ret
        exact ⟨rfl, Below.refl _ _⟩
theorem channelUndetected_law {H : Type} {enc : TypeId × Value → H} {w : World} {q : Int} {T : Option Addr} {m c : Nat}
    (_hq : (Lit.int .i64 q).wf = true) (h : Sees enc Try.prog w 0 (fun _ => true) true 51 [.slice T m c]) (z1 : c * 24 ≤ 140737488351232) :
    Calls Try.prog 7 #[.int .i64 q, .slice T m c] w fun e w' => e = .returned (.bool true) ∧ Below w.heap.size w w' := by
  obtain ⟨S, n, d, ln, xs, e, h1, h2, h3, h4⟩ := sees_nats h
  simp only [List.cons.injEq, Value.slice.injEq, and_true] at e
  obtain ⟨rfl, rfl, rfl⟩ := e
  exact channelUndetected_any q T m c ln xs w h3 h4 h1 (by omega)
end Go.Proofs.Ytlfmnaepcndhiaa
