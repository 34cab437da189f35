/- trellis.Words: the labels of all paths. -/
import Derived.Test.YtnocbkhnmdmfhaaDown
import Derived.Test.YtnocbkhnmdmfhaaPaths
import Derived.Test.YtnocbkhnmdmfhaaNatInt2
import Derived.Laws.EntriesVeiled
namespace Go.Proofs.Ytnocbkhnmdmfhaa
open Go.RowKit

def WordsPost (T : Trel) (w : World) (e : Ending) (w' : World) : Prop :=
  Below w.heap.size w w' ∧
  ((T.properE ≠ 0 ∧ e = .returned (.tuple #[.slice none 0 0, .int .i64 T.properE])) ∨
  (T.properE = 0 ∧ 65536 < T.fwd (fun _ _ => 1) T.n 0 ∧ e = .returned (.tuple #[.slice none 0 0, .int .i64 8])) ∨
  (T.properE = 0 ∧ T.fwd (fun _ _ => 1) T.n 0 ≤ 65536 ∧ ∃ v, e = .returned (.tuple #[v, .int .i64 0]) ∧ TabL w' w.heap.size v (T.dn T.n 0)))
/-- The blocks that Words lays. -/
def wordBlocks (b z : Nat) : WBlocks := ⟨b, z + 1, z + 1 + 1, z, z + 1 + 1 + 1, z + 1 + 1 + 1 + 1⟩
theorem wordBlocks_ok {b z : Nat} (h : b < z) : (wordBlocks b z).Ok b := by
  constructor <;> (unfold wordBlocks; dsimp only; omega)
/-- The world in which they lie. -/
def wordWorld (w2 : World) (b n : Nat) : World :=
  (((w2.alloc (Obj.cells #[Value.slice none 0 0] 26)).alloc (Obj.cells (madeCells #[Value.int .i64 0] n) 3)).alloc (Obj.cells #[Value.slice (some ⟨w2.heap.size + 1, 0, none⟩) n n] 22)).alloc
    (Obj.cells #[Value.func (Fn.func 65) #[] #[.pointer (some ⟨w2.heap.size + 1 + 1, 0, none⟩), .pointer (some ⟨w2.heap.size, 0, none⟩), .pointer (some ⟨b, 0, none⟩), .pointer (some ⟨w2.heap.size + 1 + 1 + 1, 0, none⟩)]] 102)
theorem wordWorld_st {T : Trel} {A B : Option Addr} {c d : Nat} {w w2 : World} (hW : Below w.heap.size w w2) (p0 : w2.cell? ⟨w.heap.size, 0, none⟩ = some (.slice A T.nw c)) (p1 : w2.cell? ⟨w.heap.size, 1, none⟩ = some (.slice B T.n d)) :
    WSt T A B c d (wordBlocks w.heap.size w2.heap.size) w (wordWorld w2 w.heap.size T.n) [] (fun _ => 0) := by
  unfold wordWorld
  obtain ⟨o4, ho4⟩ : ∃ o, o = (Obj.cells #[Value.func (Fn.func 65) #[] #[.pointer (some ⟨w2.heap.size + 1 + 1, 0, none⟩), .pointer (some ⟨w2.heap.size, 0, none⟩), .pointer (some ⟨w.heap.size, 0, none⟩), .pointer (some ⟨w2.heap.size + 1 + 1 + 1, 0, none⟩)]] 102) := ⟨_, rfl⟩
  obtain ⟨o3, ho3⟩ : ∃ o, o = (Obj.cells #[Value.slice (some ⟨w2.heap.size + 1, 0, none⟩) T.n T.n] 22) := ⟨_, rfl⟩
  rw [← ho4, ← ho3]
  have hr1 := World.rowIs_alloc w2 #[Value.slice none 0 0] 26 (fun _ => .slice none 0 0) (fun i hi => by simp at hi; subst hi; rfl)
  have hr2 := World.rowIs_made (w2.alloc (Obj.cells #[Value.slice none 0 0] 26)) (.int .i64 0) T.n 3
  have hs1 : (w2.alloc (Obj.cells #[Value.slice none 0 0] 26)).heap.size = w2.heap.size + 1 := by simp
  have hb1 : Below w2.heap.size w2 (w2.alloc (Obj.cells #[Value.slice none 0 0] 26)) := (Below.refl _ _).alloc (Nat.le_refl _) _
  obtain ⟨u1, hu1⟩ : ∃ u, u = w2.alloc (Obj.cells #[Value.slice none 0 0] 26) := ⟨_, rfl⟩
  rw [← hu1] at hr1 hr2 hs1 hb1 ⊢
  have hs2 : (u1.alloc (Obj.cells (madeCells #[Value.int .i64 0] T.n) 3)).heap.size = w2.heap.size + 1 + 1 := by simp [hs1]
  have hb2 : Below u1.heap.size u1 (u1.alloc (Obj.cells (madeCells #[Value.int .i64 0] T.n) 3)) := (Below.refl _ _).alloc (Nat.le_refl _) _
  obtain ⟨u2, hu2⟩ : ∃ u, u = u1.alloc (Obj.cells (madeCells #[Value.int .i64 0] T.n) 3) := ⟨_, rfl⟩
  rw [← hu2] at hr2 hs2 hb2 ⊢
  rw [hs1] at hr2
  have hb3 : Below u2.heap.size u2 (u2.alloc o3) := (Below.refl _ _).alloc (Nat.le_refl _) _
  have hb4 : Below (u2.alloc o3).heap.size (u2.alloc o3) ((u2.alloc o3).alloc o4) := (Below.refl _ _).alloc (Nat.le_refl _) _
  have hs4 : ((u2.alloc o3).alloc o4).heap.size = w2.heap.size + 1 + 1 + 1 + 1 := by simp [hs2]
  have c3 : (u2.alloc o3).cell? ⟨w2.heap.size + 1 + 1, 0, none⟩ = some (.slice (some ⟨w2.heap.size + 1, 0, none⟩) T.n T.n) := by rw [← hs2, ho3, hs2]; exact World.cell?_alloc_at _ _ _ _ hs2.symm
  have c4 : ((u2.alloc o3).alloc o4).cell? ⟨w2.heap.size + 1 + 1 + 1, 0, none⟩ = some (.func (.func 65) #[] #[.pointer (some ⟨w2.heap.size + 1 + 1, 0, none⟩), .pointer (some ⟨w2.heap.size, 0, none⟩), .pointer (some ⟨w.heap.size, 0, none⟩), .pointer (some ⟨w2.heap.size + 1 + 1 + 1, 0, none⟩)]) := by
    rw [ho4]
    exact World.cell?_alloc_at _ _ _ _ (by simp [hs2])
  have hb34 := onS hb3 hb4
  have hb234 := onS hb2 hb34
  have hb := onS hb1 hb234
  exact {
    low := onS hW hb
    hw := by rw [hs4]; exact Nat.le_refl _
    t0 := cellS hb p0
    t1 := cellS hb p1
    pw := cellS hb4 c3
    pk := c4
    po := ⟨_, rowIs_on (rowIs_on hr1 (show Below u1.heap.size u1 _ from hb2)) hb34, TabL.nil _ _⟩
    row := rowIs_on hr2 hb34 }
set_option maxRecDepth 100000 in
set_option maxHeartbeats 8000000 in
theorem words_any (T : Trel) (A B : Option Addr) (c d : Nat) (w : World) (h : T.Reads w A B) :
    Calls Try.prog 29 #[.agg #[.slice A T.nw c, .slice B T.n d]] w (WordsPost T w) := by
  have hcf : ∀ (x y p1 p2 p3 p4 : Value) (W : World), (callFunc 65 #[x, y, p1, p2, p3, p4]).run Try.prog W = .ok (.enter 65 #[x, y, p1, p2, p3, p4]) W := fun _ _ _ _ _ _ _ => by kernel_rfl
  obtain ⟨RB, hRB⟩ : ∃ o, o = (Obj.cells #[.slice A T.nw c, .slice B T.n d] 25) := ⟨_, rfl⟩
  have hB0 : Below (w.heap.size + 1) (w.alloc RB) (w.alloc RB) := Below.refl _ _
  have HS : Hid (∀ w', Below (w.heap.size + 1) (w.alloc RB) w' → (w'.cell? ⟨w.heap.size, 0, none⟩ = some (.slice A T.nw c) ∧ w'.cell? ⟨w.heap.size, 1, none⟩ = some (.slice B T.n d)) ∧ Below w.heap.size w w') := fun w' hB => by
    have hB' := tbox_below hB
    subst hRB
    exact ⟨⟨tbox hB rfl, tbox hB rfl⟩, hB'⟩
  obtain ⟨⟨p0, p1⟩, hW⟩ := HS.out _ hB0
  go_enter Try.func29, Try.ntmps29
  go_wp2_with fail
  rw [← hRB]
  refine (paths_any T A B c d _ (h.on hW)).mono ?_
  rintro e w1 (⟨hp, rfl, kb⟩ | ⟨hp, A1, c1, rfl, g1, g2, g3, kb⟩)
  · have hB1 := tbox_on hB0 kb
    have hne : (T.properE != 0) = true := by simpa using hp
    have HP := hid hp
    obtain ⟨x, hx⟩ : ∃ x, x = T.properE := ⟨_, rfl⟩
    have HX := hid hx
    rw [← hx] at hne ⊢
    clear hp hx kb hRB hW p0 p1
    obtain ⟨_, hW⟩ := HS.out _ hB1
    go_wp2
    go_ret2
    exact ⟨hW, .inl ⟨HP.out, by rw [← HX.out]; rfl⟩⟩
  have hB1 := tbox_on hB0 kb
  clear hW p0 p1 kb hB0 hRB
  obtain ⟨⟨p0, p1⟩, hW⟩ := HS.out _ hB1
  have HP0 := hid hp
  have HP := hid (Trel.proper_of hp)
  have hn64 := HP.out.shape.n64
  have hdl := Trel.fwd_dl HP.out.shape (y := fun _ _ => 1) (fun _ _ _ _ => Nat.le_refl _) (Nat.le_refl T.n) 0
  have hx63 : T.fwd (fun _ _ => 1) T.n 0 = (T.dn T.n 0).length := (Trel.words_len HP.out).symm
  obtain ⟨x, hx⟩ : ∃ x, x = T.fwd (fun _ _ => 1) T.n 0 := ⟨_, rfl⟩
  rw [← hx] at g1 g3 hdl hx63 ⊢
  have HX := hid hx
  have HLEN := hid hx63
  have HR := hid h
  clear hp hx hx63 h
  go_wp2_with fail
  refine (natInt_any A1 c1 x w1 g3 g1 g2 (by omega)).mono ?_
  rintro e w2 ⟨hint, kb⟩
  have hB2 := tbox_on hB1 kb
  clear g3 hB1 kb p0 p1 hW
  obtain ⟨⟨p0, p1⟩, hW⟩ := HS.out _ hB2
  rcases hint with ⟨hx63, rfl⟩ | ⟨hx63, rfl⟩
  · by_cases hbig : 65536 < x
    · have hbig' : (65536 : Int) < (x : Int) := by omega
      have hfin : WordsPost T w (.returned (.tuple #[.slice none 0 0, .int .i64 8])) w2 := ⟨hW, .inr (.inl ⟨HP0.out, by rw [← HX.out]; exact hbig, rfl⟩)⟩
      have HF := hid hfin
      clear hfin hbig
      go_wp2
      go_ret2
      exact HF.out
    · have hbig' : ¬ (65536 : Int) < (x : Int) := by omega
      have hmk := fun W => run_makeI (P := Try.prog) 22 3 _ 8 Try.underlying22 Try.infoInt rfl (T.n : Int) (by omega) (by omega) (by omega) W
      simp only [Int.toNat_natCast] at hmk
      have hl2 := tbox_lt hB2
      go_upto_region 11 with fail
      have hS := wordWorld_st (T := T) (A := A) (B := B) (c := c) (d := d) hW p0 p1
      unfold wordWorld at hS
      obtain ⟨w4, hw4⟩ : ∃ W, W = (((w2.alloc (Obj.cells #[Value.slice none 0 0] 26)).alloc (Obj.cells (madeCells #[Value.int .i64 0] T.n) 3)).alloc (Obj.cells #[Value.slice (some ⟨w2.heap.size + 1, 0, none⟩) T.n T.n] 22)).alloc
        (Obj.cells #[Value.func (Fn.func 65) #[] #[.pointer (some ⟨w2.heap.size + 1 + 1, 0, none⟩), .pointer (some ⟨w2.heap.size, 0, none⟩), .pointer (some ⟨w.heap.size, 0, none⟩), .pointer (some ⟨w2.heap.size + 1 + 1 + 1, 0, none⟩)]] 102) := ⟨_, rfl⟩
      rw [← hw4] at hS ⊢
      have HOK := hid (wordBlocks_ok hl2)
      have HST := hid hS
      have p3 := hS.pk
      unfold wordBlocks at p3
      dsimp only at p3
      have hc0 := down_any T A B c d (wordBlocks w.heap.size w2.heap.size) w HOK.out HP.out HR.out T.n 0 (Nat.zero_add _) 0 [] (fun _ => 0) w4 (Int.le_refl _) (by have := HP.out.w0; omega) HST.out (by have := HLEN.out; simp only [List.length_nil]; omega)
      unfold wordBlocks at hc0
      dsimp only at hc0
      have HZ : Hid (w.heap.size ≤ w2.heap.size + 1 + 1 + 1 + 1) := by show _ ≤ _; omega
      clear hw4 hS hmk p0 p1 hW
      go_wp2_with fail
      refine hc0.mono ?_
      rintro e w5 ⟨rfl, f', hS5, _⟩
      obtain ⟨v, hro, hT⟩ := hS5.po
      have hlow := hS5.low
      dsimp only at hro hT
      have q0 := hro.cell (i := 0) (by omega)
      have hT' := hT.mono HZ.out
      have e1 : ([] ++ (T.dn T.n 0).map fun s => pre (fun _ => 0) 0 ++ s) = T.dn T.n 0 := by simp [pre]
      rw [e1] at hT'
      have HF : Hid (∀ e, e = .returned (.tuple #[v, .int .i64 0]) → WordsPost T w e w5) := fun e he => ⟨hlow, .inr (.inr ⟨HP0.out, by rw [← HX.out]; omega, v, he, hT'⟩)⟩
      obtain ⟨A9, c9, hv⟩ := hT.shape
      obtain ⟨m9, hm9⟩ : ∃ m, m = ([] ++ (T.dn T.n 0).map fun s => pre (fun _ => 0) 0 ++ s).length := ⟨_, rfl⟩
      rw [← hm9] at hv
      subst hv
      clear hc0 hS5 hro hT hT' hlow hm9 e1 p3
      go_wp2
      go_ret2
      exact HF.out _ rfl
  · have hfin : WordsPost T w (.returned (.tuple #[.slice none 0 0, .int .i64 8])) w2 := ⟨hW, .inr (.inl ⟨HP0.out, by rw [← HX.out]; omega, rfl⟩)⟩
    have HF := hid hfin
    clear hfin hx63
    go_wp2
    go_ret2
    exact HF.out
end Go.Proofs.Ytnocbkhnmdmfhaa
