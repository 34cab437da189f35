/- trellis.span, the comparing closure of trellis.Renumber, trellis.order: the ranks of the keys. -/
import Derived.Test.YtnocbkhnmdmfhaaSortOwn
import Derived.Test.YtnocbkhnmdmfhaaRank
import Derived.Test.YtnocbkhnmdmfhaaTabL
import Derived.Test.YtnocbkhnmdmfhaaNumRows
namespace Go.Proofs.Ytnocbkhnmdmfhaa
open Go.RowKit

theorem nodup_inj {l : List Nat} (h : l.Nodup) {i j : Nat} (hi : i < l.length) (hj : j < l.length) (e : l[i] = l[j]) : i = j := by
  have h1 := List.pairwise_iff_getElem.1 h
  rcases Nat.lt_trichotomy i j with h2 | h2 | h2
  · exact absurd e (h1 i j hi hj h2)
  · exact h2
  · exact absurd e.symm (h1 j i hj hi h2)
/-- The last place of u among the first k of l. -/
def posIn (l : List Nat) : Nat → Nat → Nat
  | 0, _ => 0
  | k + 1, u => if l.getD k 0 = u then k else posIn l k u
theorem posIn_eq {l : List Nat} (hn : l.Nodup) {p : Nat} : ∀ {k : Nat}, p < k → k ≤ l.length → posIn l k (l.getD p 0) = p := by
  intro k
  induction k with
  | zero => intro h; omega
  | succ k ih =>
    intro hp hk
    unfold posIn
    by_cases e : l.getD k 0 = l.getD p 0
    · rw [if_pos e]
      rw [List.getD_eq_getElem?_getD, List.getD_eq_getElem?_getD, List.getElem?_eq_getElem (by omega), List.getElem?_eq_getElem (by omega)] at e
      exact nodup_inj hn (by omega) (by omega) e
    · rw [if_neg e]
      exact ih (by
        by_cases h : p = k
        · subst h; exact absurd rfl e
        · omega) (by omega)
/-- The places in a list sorted by distinct keys are the ranks. -/
theorem posIn_rank {key : Nat → Nat} {n : Nat} {l : List Nat} (hp : l.Perm (List.range n)) (hs : ∀ p q, p < q → q < n → key (l.getD p 0) ≤ key (l.getD q 0)) (hk : ∀ a b, a < n → b < n → key a = key b → a = b) {u : Nat} (hu : u < n) : posIn l n u = rankOf key n u := by
  have hlen : l.length = n := by have := hp.length_eq; simpa using this
  have hnd : l.Nodup := hp.nodup_iff.2 List.nodup_range
  have hmem : u ∈ l := hp.mem_iff.2 (List.mem_range.2 hu)
  obtain ⟨p, hpl, hpu⟩ := List.getElem_of_mem hmem
  have hg : ∀ q (h : q < l.length), l.getD q 0 = l[q] := fun q h => by rw [List.getD_eq_getElem?_getD, List.getElem?_eq_getElem h]; rfl
  have hlt : ∀ q, q < n → l.getD q 0 < n := fun q hq => by
    rw [hg q (by omega)]
    exact List.mem_range.1 (hp.mem_iff.1 (List.getElem_mem _))
  have e : l.getD p 0 = u := by rw [hg p hpl, hpu]
  have h1 := rankOf_place (k := key) hp (fun p q hpq hq => by
    have h1 := hs p q hpq (by omega)
    rcases Nat.lt_or_ge (key (l.getD p 0)) (key (l.getD q 0)) with h2 | h2
    · exact h2
    · have h3 := hk _ _ (hlt p (by omega)) (hlt q (by omega)) (by omega)
      rw [hg p (by omega), hg q (by omega)] at h3
      exact absurd (nodup_inj hnd (by omega) (by omega) h3) (by omega)) hpl
  rw [← e, h1]
  exact posIn_eq hnd (by omega) (by omega)

set_option maxRecDepth 100000 in
set_option maxHeartbeats 4000000 in
theorem span_any (n : Nat) (w : World) (hn : n ≤ 1048576) :
    Calls Try.prog 98 #[.int .i64 0, .int .i64 (n : Nat)] w fun e w' => Below w.heap.size w w' ∧ ∃ v, e = .returned v ∧ Own w' w.heap.size 3 1 v n (fun i _ => .int .i64 (i : Nat)) := by
  have H0 : Hid (Own w w.heap.size 3 1 (.slice none 0 0) 0 (fun i _ => .int .i64 (i : Nat))) := Own.nil _ _ _ _ _
  go_enter Try.func98, Try.ntmps98
  go_wp2
  obtain ⟨n1, hn1⟩ : ∃ x : Value, x = .slice none 0 0 := ⟨_, rfl⟩
  rw [← hn1] at H0 ⊢
  clear hn1
  go_loopg [5, 6] n (fun gg sv iv wx => ∃ k : Nat, iv = .int .i64 (k : Nat) ∧ k ≤ n ∧ n ≤ k + gg ∧ Hid (Own wx w.heap.size 3 1 sv k (fun i _ => .int .i64 (i : Nat))) ∧ Below w.heap.size w wx)
  case atStart => exact ⟨0, rfl, by omega, by omega, H0, Below.refl _ _⟩
  case round =>
    clear H0
    obtain ⟨k, rfl, hk, hkg, HO, hB⟩ := hrel
    by_cases hlt : k < n
    · have hlt' : (k : Int) < (n : Int) := by omega
      have HZ := hid hB.size
      have kb : Below wr.heap.size wr (wr.alloc (Obj.cells #[Value.int .i64 (k : Nat)] 3)) := (Below.refl _ _).alloc (Nat.le_refl _) _
      have HB1 := hid (onS hB kb)
      have HO1 := hid (HO.out.on kb)
      have HC1 : Hid ((wr.alloc (Obj.cells #[Value.int .i64 (k : Nat)] 3)).cell? ⟨wr.heap.size, 0, none⟩ = some (.int .i64 (k : Nat))) := by show _ = _; simp
      have HZ1 := hid HB1.out.size
      have HL1 : Hid (k ≤ 1048576) := by show _ ≤ _; omega
      clear kb hB
      go_wp2_with (first | (at_builtin; (refine wpList_append_fint rfl (.tmp 13) (.tmp 15) rfl (f := fun i => (i : Nat)) HO1.out rfl (ad := ⟨wr.heap.size, 0, none⟩) (c := 1) rfl HC1.out HZ1.out HL1.out ?_); intro v17 w17 o1 o2 o3))
      have HO2 := hid o1
      have HB2 := hid (HB1.out.grown o2 HZ1.out fun q e => (Own.lt HO1.out q e).1)
      clear o1 o2 o3
      go_wp2
      go_roundg (gk - 1)
      case measure => omega
      case rel => exact ⟨k + 1, by go_num, by omega, by omega, HO2, HB2.out⟩
    · have hlt' : ¬ (k : Int) < (n : Int) := by omega
      obtain rfl : k = n := by omega
      have HB := hid hB
      clear hB
      go_wp2
      go_ret
      exact ⟨HB.out, _, rfl, HO.out⟩

/-- Edges in a row of one's own. -/
def eRow (x : Nat → Int × Int × Int) (k : Nat) : Value := edgeCell x (k / 3) (k % 3)
theorem eRow_at {w : World} {b n : Nat} {t : TypeId} {x : Nat → Int × Int × Int} (h : w.rowIs b t (n * 3) (eRow x)) {u : Nat} (hu : u < n) :
    w.cell? ⟨b, u * 3, none⟩ = some (.int .i64 (x u).1) ∧ w.cell? ⟨b, u * 3 + 1, none⟩ = some (.int .i64 (x u).2.1) ∧ w.cell? ⟨b, u * 3 + 2, none⟩ = some (.int .i64 (x u).2.2) := by
  have h0 := h.cell (i := u * 3) (by omega)
  have h1 := h.cell (i := u * 3 + 1) (by omega)
  have h2 := h.cell (i := u * 3 + 2) (by omega)
  unfold eRow at h0 h1 h2
  rw [show u * 3 / 3 = u by omega, show u * 3 % 3 = 0 by omega] at h0
  rw [show (u * 3 + 1) / 3 = u by omega, show (u * 3 + 1) % 3 = 1 by omega] at h1
  rw [show (u * 3 + 2) / 3 = u by omega, show (u * 3 + 2) % 3 = 2 by omega] at h2
  exact ⟨h0, h1, h2⟩
theorem less_gq (f l t f' l' t' : Int) (W : World) :
    Calls Try.prog 48 #[.agg #[.int .i64 f, .int .i64 l, .int .i64 t], .agg #[.int .i64 f', .int .i64 l', .int .i64 t']] W fun e w' => e = .returned (.int .i64 (lessV f l f' l')) ∧ ∃ q os', w' = Go.Sort.grow (W.drewN q) os' :=
  (less_gg f l t f' l' t' W).mono fun _ _ ⟨he, _, hg⟩ => ⟨he, hg⟩
set_option maxRecDepth 100000 in
set_option maxHeartbeats 4000000 in
/-- The closure of Renumber: nodes compared by their least edges. -/
theorem cmpLeast_any (bx lb n c : Nat) (x : Nat → Int × Int × Int) (W : World) (p : W.cell? ⟨bx, 0, none⟩ = some (.slice (some ⟨lb, 0, none⟩) n c)) (hx : W.rowIs lb 72 (n * 3) (eRow x)) (u v : Nat) (hu : u < n) (hv : v < n) :
    Calls Try.prog 71 #[.int .i64 (u : Nat), .int .i64 (v : Nat), .pointer (some ⟨bx, 0, none⟩)] W fun e w' => e = .returned (.int .i64 (lessV (x u).1 (x u).2.1 (x v).1 (x v).2.1)) ∧ GG W w' := by
  have hbx := World.block_lt_of_cell? W _ p
  obtain ⟨u0, u1, u2⟩ := eRow_at hx hu
  obtain ⟨v0, v1, v2⟩ := eRow_at hx hv
  have q := fun k os => _root_.Go.cell_grown hbx p k os
  have a0 := fun k os => _root_.Go.cell_grown (World.block_lt_of_cell? W _ u0) u0 k os
  have a1 := fun k os => _root_.Go.cell_grown (World.block_lt_of_cell? W _ u1) u1 k os
  have a2 := fun k os => _root_.Go.cell_grown (World.block_lt_of_cell? W _ u2) u2 k os
  have b0 := fun k os => _root_.Go.cell_grown (World.block_lt_of_cell? W _ v0) v0 k os
  have b1 := fun k os => _root_.Go.cell_grown (World.block_lt_of_cell? W _ v1) v1 k os
  have b2 := fun k os => _root_.Go.cell_grown (World.block_lt_of_cell? W _ v2) v2 k os
  have hu' : (u : Int) < (n : Int) := by omega
  have hv' : (v : Int) < (n : Int) := by omega
  have mixed : Try.prog.follows .mixedOrders = true := by kernel_rfl
  have hc := fun W => less_gq (x u).1 (x u).2.1 (x u).2.2 (x v).1 (x v).2.1 (x v).2.2 W
  clear p hx u0 u1 u2 v0 v1 v2 hbx hu hv
  generalize (x u).1 = f at *
  generalize (x u).2.1 = l at *
  generalize (x u).2.2 = t at *
  generalize (x v).1 = f' at *
  generalize (x v).2.1 = l' at *
  generalize (x v).2.2 = t' at *
  generalize lessV f l f' l' = r at *
  go_enter Try.func71, Try.ntmps71
  go_upto_region 1 with fail
  go_quiet_grown (first | (go_at_call 48; refine Calls.grown_of (hc _)))
  go_wp2_with fail
  go_ret
  exact ⟨rfl, _, _, rfl⟩
/-- The closure's contract in every world above w. -/
def CmpB (bx n : Nat) (cf : Nat → Nat → Int) (w : World) : Prop :=
  ∀ W, Below w.heap.size w W → ∀ u v, u < n → v < n → Calls Try.prog 71 #[.int .i64 (u : Nat), .int .i64 (v : Nat), .pointer (some ⟨bx, 0, none⟩)] W fun e w' => e = .returned (.int .i64 (cf u v)) ∧ GG W w'
set_option maxRecDepth 100000 in
set_option maxHeartbeats 4000000 in
theorem order_any (bx n : Nat) (cf : Nat → Nat → Int) (key : Nat → Nat) (w : World) (hc : CmpB bx n cf w) (hlt : ∀ u v, u < n → v < n → (cf u v < 0 ↔ key u < key v)) (hk : ∀ a b, a < n → b < n → key a = key b → a = b) (hn : 0 < n) (hn2 : n ≤ 1048576) :
    Calls Try.prog 70 #[.int .i64 (n : Nat), .func (.func 71) #[] #[.pointer (some ⟨bx, 0, none⟩)]] w fun e w' =>
      ∃ go, e = .returned (.slice (some ⟨go, 0, none⟩) n n) ∧ w'.rowIs go 3 n (fun u => .int .i64 (rankOf key n u : Nat)) ∧ w.heap.size ≤ go ∧ Below w.heap.size w w' := by
  have eg : ∀ args w, (callFunc 71 args).run Try.prog w = .ok (.enter 71 args) w := enters_of Try.func71 (by kernel_rfl) rfl
  have HC := hid hc
  have HLT := hid hlt
  have HK := hid hk
  have HEG := hid eg
  clear hc hlt hk eg
  go_enter Try.func70, Try.ntmps70
  go_wp2_with fail
  refine (span_any n w hn2).mono ?_
  rintro e w1 ⟨hB, v, rfl, hv⟩
  obtain ⟨lb, lo, lc, rfl, hlb, hlb1, _⟩ := hv.form hn
  go_wp2_with fail
  refine (sortNums_any 71 #[.pointer (some ⟨bx, 0, none⟩)] n cf key w1 w.heap.size _ HEG.out (fun W hg u v hu hv2 => HC.out W (hB.grown hg hB.size (fun k e => (Own.lt hv k e).1)) u v hu hv2) HLT.out hv hn hn2).mono ?_
  rintro e w2 ⟨rfl, l, hl1, hl2, hl3, hg2⟩
  have hB2 : Below w.heap.size w w2 := hB.grown hg2 hB.size (fun k e => (Own.lt hv k e).1)
  have hlen : l.length = n := by have := hl1.length_eq; simpa using this
  have hmem : ∀ i, i < n → l.getD i 0 < n := fun i hi => by
    rw [List.getD_eq_getElem?_getD, List.getElem?_eq_getElem (by omega)]
    exact List.mem_range.1 (hl1.mem_iff.1 (List.getElem_mem _))
  have HM := hid hmem
  have HRK : Hid (∀ u, u < n → posIn l n u = rankOf key n u) := fun u hu => posIn_rank hl1 hl2 HK.out hu
  have HL := hid hl3
  have hl2b := (hl3.lt lb rfl).2
  have HLB : Hid (lb < w2.heap.size) := hl2b
  have HW2 := hid hB2
  have hz2 := hB2.size
  have hmk := fun W => run_makeI (P := Try.prog) 22 3 _ 8 Try.underlying22 Try.infoInt rfl (n : Int) (by omega) (by omega) (by omega) W
  simp only [Int.toNat_natCast] at hmk
  clear hv hB hl1 hl2 hl3 hg2 hmem hlen hlb1
  go_upto_region 4 with fail
  have hr3 := World.rowIs_made w2 (.int .i64 0) n 3
  have kb3 : Below w2.heap.size w2 (w2.alloc (Obj.cells (madeCells #[Value.int .i64 0] n) 3)) := (Below.refl _ _).alloc (Nat.le_refl _) _
  obtain ⟨w3, hw3⟩ : ∃ W, W = w2.alloc (Obj.cells (madeCells #[Value.int .i64 0] n) 3) := ⟨_, rfl⟩
  obtain ⟨go, hgo⟩ : ∃ b, b = w2.heap.size := ⟨_, rfl⟩
  have HGO := hid hgo
  rw [← hgo] at hr3
  rw [← hw3] at hr3 kb3 ⊢
  rw [← hgo]
  have hr4 : w3.rowIs go 3 n (fun u => .int .i64 (posIn l 0 u : Nat)) := hr3
  clear hw3 hgo hmk hr3 hB2 hl2b
  go_wp2
  go_loopg [18] n (fun gg iv wx => ∃ k : Nat, iv = .int .i64 (k : Nat) ∧ k ≤ n ∧ n ≤ k + gg ∧ wx.rowIs go 3 n (fun u => .int .i64 (posIn l k u : Nat)) ∧ Below w2.heap.size w2 wx)
  case atStart => exact ⟨0, rfl, by omega, by omega, hr4, kb3⟩
  case round =>
    clear hr4 kb3
    obtain ⟨k, rfl, hk, hkg, hrow, hB⟩ := hrel
    have hk0 : (0 : Int) ≤ (k : Int) := by omega
    by_cases hlt : k < n
    · have hlt' : (k : Int) < (n : Int) := by omega
      obtain ⟨b5, o5, c5, h5, _, _, _, _, hc5⟩ := (HL.out.on hB).form hn
      injection h5 with h5 _ h7
      injection h5 with h5
      injection h5 with h5 h6
      subst h5 h6 h7
      have x0 := hc5 k hlt 0 (by omega)
      rw [Nat.mul_one, Nat.add_zero] at x0
      have hm := HM.out k hlt
      obtain ⟨m, hmm⟩ : ∃ m, m = l.getD k 0 := ⟨_, rfl⟩
      have HMM := hid hmm
      rw [← hmm] at x0 hm
      have hm' : (m : Int) < (n : Int) := by omega
      have z0 := hrow.frozen m
      have y0 := hrow.cell hm
      clear hc5 hmm
      have hrs := hrow.set m (.int .i64 (k : Nat))
      have hBs := hB.setCell (p := ⟨go, m, none⟩) (by have := HGO.out; show _ ≤ go; omega) (.int .i64 (k : Nat))
      have HRS := hid hrs
      have HBS := hid hBs
      clear hrs hBs hrow hB
      go_wp2
      go_roundg (gk - 1)
      case measure => omega
      case rel =>
        refine ⟨k + 1, by go_num, by omega, by omega, HRS.out.congr fun u _ => ?_, HBS.out⟩
        show (if u = m then _ else _) = Value.int .i64 ((if l.getD k 0 = u then k else posIn l k u : Nat) : Int)
        by_cases e : u = m
        · rw [if_pos e, if_pos (by rw [e, ← HMM.out])]
        · rw [if_neg e, if_neg (by rw [← HMM.out]; exact fun h => e h.symm)]
    · have hlt' : ¬ (k : Int) < (n : Int) := by omega
      obtain rfl : k = n := by omega
      have HB := hid hB
      have HR := hid hrow
      clear hB hrow
      go_wp2
      go_ret
      refine ⟨go, rfl, HR.out.congr fun u hu => ?_, by rw [HGO.out]; exact hz2, HW2.out.trans (HB.out.mono hz2)⟩
      show Value.int .i64 (posIn l k u : Nat) = _
      rw [HRK.out u hu]
end Go.Proofs.Ytnocbkhnmdmfhaa
