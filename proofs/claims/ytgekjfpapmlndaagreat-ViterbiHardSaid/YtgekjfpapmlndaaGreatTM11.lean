/- Merged texts of a claim: Edge, FewT, From, Accepts47, RenMath, MinPl, PowS, PowPl, MinPlus, IntTab, ZeroV, ZeroR, BoundV, MaxV, Proves, SynMem, Turn09, RefForward, RefPaths, Cmp11, SameN, RefIs, Check47, RefCP, Syn, Cont47, TChk, CheckP, IRepeat, VPot, Spans, Fits, SecPl, SortLay, SortLess. -/
import Derived.Test.YtgekjfpapmlndaaGreatTM1
import Derived.Test.YtgekjfpapmlndaaGreatTM2
import Derived.Test.YtgekjfpapmlndaaGreatTM3
import Derived.Test.YtgekjfpapmlndaaGreatTM6
import Derived.Test.YtgekjfpapmlndaaGreatTM7
import Derived.Test.YtgekjfpapmlndaaGreatTM8
import Derived.Test.YtgekjfpapmlndaaGreatTM9
import Derived.Test.YtgekjfpapmlndaaGreatTM10
import Derived.Laws.StructEq
import Derived.Shelf.SlSortCmp.WholeK
import Derived.Shelf.SlSortCmp.Whole1
import Derived.Shelf.SlSortCmp.NoneTotal
import Derived.Shelf.SlicesG.Cmp
import Derived.Ground.SlgcProg
namespace Go.Proofs.YtgekjfpapmlndaaGreat
set_option maxRecDepth 100000
set_option maxHeartbeats 32000000
open KA KB KC KD KE KF
open Go.RowKit
def ltE (x y:Int × Int × Int):Prop:=x.1<y.1∨x.1=y.1/\x.2.1<y.2.1
def edgeCell (x:Nat->Int × Int × Int) (i j:Nat):Value:=if j=0 then .int .i64 (x i).1 else if j=1 then .int .i64 (x i).2.1 else .int .i64 (x i).2.2
theorem zcN (x:Nat->Int × Int × Int) (i j:Nat):(edgeCell x i j).oneCell'=true:=by
 unfold edgeCell
 split
 ·rfl
 ·split <;> rfl
theorem Tryz.infoEdge:(Tryz.prog.info? 90).map (fun i=>(i.zero,i.size,i.bytes))=some (some (.agg #[.int .i64 0,.int .i64 0,.int .i64 0]),3,24):=by kernel_rfl
theorem Tryz.infoEdges:(Tryz.prog.info? 86).map (fun i=>(i.zero,i.size,i.bytes))=some (some (.slice none 0 0),1,24):=by kernel_rfl
theorem zag {w:World} {base b n n' s:Nat} {t e:TypeId} {F:Nat->Value} {v:Value} {f:Nat->Nat->Value} (h:w.rowIs b t n F) (h':Own w base e s v n' f) (hne:t≠e):v.ownBlock≠some b:=by
 rcases h' with ⟨rfl,_⟩ | ⟨g',o',cap',cur',rfl,_,hg',_⟩
 ·simp [Value.ownBlock]
 ·intro e1
  simp [Value.ownBlock] at e1
  subst e1
  obtain ⟨cs,h1,_⟩:=h
  rw [hg'] at h1
  injection h1 with h1
  injection h1 with _ h1
  exact hne h1.symm
theorem zbd {w:World} {ops:Array Oper} {rest:List Oper} {o:Oper} {a:Act} {Q:Exit->Act->World->Prop} (hgd:o.guard=none) (sl x:Operand)
  (ho:o.op=.call { callee:=.builtin .append,args:=#[sl,x],argTypes:=#[22, 22] })
  {base:Nat} {v:Value} {k:Nat} {f:Nat->Int} (h:Own w base 3 1 v k (fun i _=>.int .i64 (f i))) (hv:a.eval sl=v) {ad:Addr} {c:Nat} (hx:a.eval x=.slice (some ad) 1 c)
  (hcell:w.cell? (ad.add 0)=some (.int .i64 (f k))) (hbase:base<=w.heap.size) (hN:k<=1048576)
  (K:∀ v' w',Own w' base 3 1 v' (k+1) (fun i _=>.int .i64 (f i))->w.grownBy w' v.ownBlock->(v'.ownBlock=v.ownBlock∨v'.ownBlock=some w.heap.size)->wpList Tryz.prog ops Q rest (a.put o.dst v') w'):wpList Tryz.prog ops Q (o :: rest) a w:=by
 obtain ⟨i0,qi0,qz0,qz1,qz2⟩:=info_parts Tryz.infoInt
 refine zaj w hgd sl x _ ho base 3 i0 _ 1 8 Tryz.underlying22 qi0 qz0 qz1 qz2 rfl (by omega) v k _ hv h ad c hx (fun j hj=>by
   obtain rfl:j=0:=by omega
   exact hcell) (fun _ _=>rfl) (by unfold maxLen; omega) (by omega) hbase ?_
 intro v' w3 hown3 hg3 hat3
 exact K v' w3 hown3 hg3 hat3
theorem zb9 {w:World} {ops:Array Oper} {rest:List Oper} {o:Oper} {a:Act} {Q:Exit->Act->World->Prop} (hgd:o.guard=none) (sl x:Operand)
  (ho:o.op=.call { callee:=.builtin .append,args:=#[sl,x],argTypes:=#[86, 86] })
  {base:Nat} {v:Value} {k:Nat} {f:Nat->Int × Int × Int} (h:Own w base 90 3 v k (edgeCell f)) (hv:a.eval sl=v) {ad:Addr} {c:Nat} (hx:a.eval x=.slice (some ad) 1 c)
  (hcell:∀ j,j<3->w.cell? (ad.add j)=some (edgeCell f k j)) (hbase:base<=w.heap.size) (hN:k<=1048576)
  (K:∀ v' w',Own w' base 90 3 v' (k+1) (edgeCell f)->w.grownBy w' v.ownBlock->(v'.ownBlock=v.ownBlock∨v'.ownBlock=some w.heap.size)->wpList Tryz.prog ops Q rest (a.put o.dst v') w'):wpList Tryz.prog ops Q (o :: rest) a w:=by
 obtain ⟨i0,qi0,qz0,qz1,qz2⟩:=info_parts Tryz.infoEdge
 exact zaj w hgd sl x _ ho base 90 i0 _ 3 24 Tryz.underlying86 qi0 qz0 qz1 qz2 rfl (by omega) v k _ hv h ad c hx hcell (fun _ _=>zcN _ _ _) (by unfold maxLen; omega) (by omega) hbase K
theorem zbt {w:World} {ops:Array Oper} {o:Oper} {a:Act} {K:Act->World->Prop} {Q:Exit->Act->World->Prop} {E:Prop} (hgd:o.guard=none) (sl x:Operand)
  (ho:o.op=.call { callee:=.builtin .append,args:=#[sl,x],argTypes:=#[86, 86] })
  {base:Nat} {v:Value} {k:Nat} {f:Nat->Int × Int × Int} (h:Own w base 90 3 v k (edgeCell f)) (hv:a.eval sl=v) {ad:Addr} {c:Nat} (hx:a.eval x=.slice (some ad) 1 c)
  (hcell:∀ j,j<3->w.cell? (ad.add j)=some (edgeCell f k j)) (hbase:base<=w.heap.size) (hN:k<=1048576)
  (K':∀ v' w',Own w' base 90 3 v' (k+1) (edgeCell f)->w.grownBy w' v.ownBlock->(v'.ownBlock=v.ownBlock∨v'.ownBlock=some w.heap.size)->K (a.put o.dst v') w') :
  if Region.wanted o (yielded ops a.tmps)=true then Oper.wp Tryz.prog o a w K Q else E:=by
 obtain ⟨i0,qi0,qz0,qz1,qz2⟩:=info_parts Tryz.infoEdge
 exact zbE w hgd sl x _ ho base 90 i0 _ 3 24 Tryz.underlying86 qi0 qz0 qz1 qz2 rfl (by omega) v k _ hv h ad c hx hcell (fun _ _=>zcN _ _ _) (by unfold maxLen; omega) (by omega) hbase K'
def ETab (w:World) (base:Nat) (v:Value) (n:Nat) (el:Nat->Nat) (y:Nat->Nat->Int × Int × Int):Prop :=
 ∃ R:Nat->Value,Own w base 86 1 v n (fun i _=>R i)/\∀ i,i<n->Own w base 90 3 (R i) (el i) (edgeCell (y i))
section
variable {w w':World} {base n:Nat} {v:Value} {el:Nat->Nat} {y:Nat->Nat->Int × Int × Int}
theorem ETab.nil (w:World) (base:Nat) (el:Nat->Nat) (y:Nat->Nat->Int × Int × Int):ETab w base (.slice none 0 0) 0 el y:=⟨fun _=>undef,Own.nil _ _ _ _ _,fun i hi=>absurd hi (by omega)⟩
theorem ETab.on (h:ETab w base v n el y) (hb:Below w.heap.size w w'):ETab w' base v n el y:=by
 obtain ⟨R,h1,h2⟩:=h
 exact ⟨R,h1.on hb,fun i hi=>(h2 i hi).on hb⟩
theorem ETab.shape (h:ETab w base v n el y):∃ A c,v=.slice A n c:=h.choose_spec.1.shape
theorem ETab.setCell (h:ETab w base v n el y) {t:TypeId} {m:Nat} {F:Nat->Value} {b i:Nat} (hr:w.rowIs b t m F) (h1:t ≠ 86) (h2:t ≠ 90) (u:Value):ETab (w.setCell ⟨b,i,none⟩ u) base v n el y:=by
 obtain ⟨R,k1,k2⟩:=h
 exact ⟨R,k1.setCell (zag hr k1 h1) u,fun i hi=>(k2 i hi).setCell (zag hr (k2 i hi) h2) u⟩
theorem ETab.congr {el':Nat->Nat} {y':Nat->Nat->Int × Int × Int} (h:ETab w base v n el y) (h1:∀ i,i<n->el i=el' i) (h2:∀ i,i<n->∀ j,j<el i->y i j=y' i j):ETab w base v n el' y':=by
 obtain ⟨R,k1,k2⟩:=h
 refine ⟨R,k1,fun i hi=>?_⟩
 rw [<-h1 i hi]
 exact (k2 i hi).congr fun j hj q _=>by unfold edgeCell; rw [h2 i hi j hj]
theorem zcj {ops:Array Oper} {rest:List Oper} {o:Oper} {a:Act} {Q:Exit->Act->World->Prop} (hgd:o.guard=none) (sl x:Operand)
  (ho:o.op=.call { callee:=.builtin .append,args:=#[sl,x],argTypes:=#[51, 51] })
  (h:ETab w base v n el y) (hv:a.eval sl=v) {ad:Addr} {c:Nat} {r:Value} (hx:a.eval x=.slice (some ad) 1 c)
  (hcell:w.cell? (ad.add 0)=some r) (h1:r.oneCell'=true) (hrow:Own w base 90 3 r (el n) (edgeCell (y n))) (hbase:base<=w.heap.size) (hN:n<=1048576)
  (K:∀ v' w',ETab w' base v' (n+1) el y->w.grownBy w' v.ownBlock->wpList Tryz.prog ops Q rest (a.put o.dst v') w'):wpList Tryz.prog ops Q (o :: rest) a w:=by
 obtain ⟨R,hA,hB⟩:=h
 obtain ⟨i0,qi0,qz0,qz1,qz2⟩:=info_parts Tryz.infoEdges
 have ne:(86 : Nat) ≠ 90 := by decide
 have hown:Own w base 86 1 v n (fun i _=>if i=n then r else R i):=hA.congr fun i hi _ _=>by rw [if_neg (by omega)]
 refine zaj w hgd sl x _ ho base 86 i0 _ 1 24 Tryz.underlying51 qi0 qz0 qz1 qz2 rfl (by omega) v n _ hv hown ad c hx (fun j hj=>by
   obtain rfl:j=0:=by omega
   rw [if_pos rfl]
   exact hcell) (fun _ _=>by rw [if_pos rfl]; exact h1) (by unfold maxLen; omega) (by omega) hbase ?_
 intro v' w3 hown3 hg3 _
 refine K v' w3 ⟨fun i=>if i=n then r else R i,hown3,fun i hi=>?_⟩ hg3
 show Own w3 base _ 3 (if i=n then r else R i) _ _
 by_cases e:i=n
 ·subst e
  rw [if_pos rfl]
  exact hrow.kept hg3 (za0 hA hrow ne)
 ·rw [if_neg e]
  exact (hB i (by omega)).kept hg3 (za0 hA (hB i (by omega)) ne)
theorem ETab.reads {T:Trel} {wv:Value} (h:ETab w base v T.n T.el fun i j=>(T.fr i j,T.lb i j,T.to i j)) (hA:Own w base 3 1 wv T.nw (fun k _=>.int .i64 (T.W k)))
  (hW:∀ i,i<T.nw->InI64 (T.W i)) (hy:∀ i,i<T.n->∀ j,j<T.el i->InI64 (T.fr i j)/\InI64 (T.lb i j)/\InI64 (T.to i j)) (hnw:T.nw<=140737488351232) (hn:T.n<=140737488351232) (hel:∀ i,i<T.n->T.el i<=140737488351232) :
  ∃ A B c d,wv=.slice A T.nw c/\v=.slice B T.n d/\T.Reads w A B/\T.nw<=c/\c<=maxLen/\T.n<=d/\d<=maxLen:=by
 obtain ⟨R,k1,k2⟩:=h
 obtain ⟨A,c,rfl⟩:=hA.shape
 obtain ⟨B,d,rfl⟩:=k1.shape
 refine ⟨A,B,c,d,rfl,rfl,⟨hA.rd rfl,hW,fun i hi=>?_,hnw,hn,hel⟩,hA.capL.1,hA.capL.2,k1.capL.1,k1.capL.2⟩
 obtain ⟨b,off,e,hb,hc⟩:=k1.rd rfl i hi
 have hc0:=hc 0 (by omega)
 rw [Nat.mul_one,Nat.add_zero] at hc0
 have hr:=k2 i hi
 obtain ⟨E,ec,hR⟩:=hr.shape
 rw [hR] at hr
 simp only [hR] at hc0
 exact ⟨b,off,E,ec,e,hb,hc0,hr.capL.1,hr.capL.2,hr.rd rfl,hy i hi⟩
end
def twoT:Trel:=⟨2,fun _=>1,1,fun _=>2,fun _ _=>0,fun _ j=>(j:Nat),fun _ _=>0⟩
theorem zfq:twoT.properE=0:=by decide +kernel
theorem ziz:twoT.fwd (fun _ _=>1) twoT.n 0=2:=by decide +kernel
theorem zgF {w:World} {c d:Nat} {b1 b2 b3:Nat} (h1:w.cell? ⟨b1,0,none⟩=some (.int .i64 1)) (h2:w.cell? ⟨b1,1,none⟩=some (.int .i64 1))
  (h3:w.cell? ⟨b3,0,none⟩=some (.slice (some ⟨b2,0,none⟩) 2 c)) (hc:2<=c) (hc2:c<=maxLen)
  (h4:∀ j,j<2->w.cell? ⟨b2,j*3,none⟩=some (.int .i64 0)/\w.cell? ⟨b2,j*3+1,none⟩=some (.int .i64 (j:Nat))/\w.cell? ⟨b2,j*3+2,none⟩=some (.int .i64 0)) (_:d=1) :
  twoT.Reads w (some ⟨b1,0,none⟩) (some ⟨b3,0,none⟩):=by
 refine ⟨fun i hi=>⟨b1,0,rfl,World.block_lt_of_cell? _ _ h1,fun j hj=>?_⟩,fun i _=>⟨by show (-9223372036854775808:Int)<=1; omega,by show (1:Int)<=9223372036854775807; omega⟩,fun i hi=>?_,by show 2<=_; omega,by show 1<=_; omega,fun i _=>by show 2<=_; omega⟩
 ·obtain rfl:j=0:=by omega
  match i,hi with
  | 0,_=>exact h1
  | 1,_=>exact h2
 ·obtain rfl:i=0:=by have:i<1:=hi; omega
  refine ⟨b3,0,some ⟨b2,0,none⟩,c,rfl,World.block_lt_of_cell? _ _ h3,h3,hc,hc2,fun j hj=>⟨b2,0,rfl,World.block_lt_of_cell? _ _ (h4 0 (by omega)).1,fun q hq=>?_⟩,fun j hj=>⟨⟨by show (-9223372036854775808:Int)<=0; omega,by show (0:Int)<=9223372036854775807; omega⟩,⟨by show (-9223372036854775808:Int)<=(j:Nat); omega,by have:j<2:=hj; show ((j:Nat):Int)<=9223372036854775807; omega⟩,⟨by show (-9223372036854775808:Int)<=0; omega,by show (0:Int)<=9223372036854775807; omega⟩⟩⟩
  obtain ⟨k0,k1,k2⟩:=h4 j hj
  rw [Nat.zero_add]
  match q,hq with
  | 0,_=>exact k0
  | 1,_=>exact k1
  | 2,_=>exact k2
section
variable {w:World} {c1 c2 c3:Array Value} {t1 t2 t3:TypeId} {i:Nat} {v:Value}
theorem ze1 (h:c1[i]?=some v):(((w.alloc (.cells c1 t1)).alloc (.cells c2 t2)).alloc (.cells c3 t3)).cell? ⟨w.heap.size,i,none⟩=some v:=by
 rw [World.cell?_alloc_lt _ _ _ (by simp; omega),World.cell?_alloc_lt _ _ _ (by simp),World.cell?_alloc_at _ _ _ _ rfl]
 exact h
theorem zbB (h:c2[i]?=some v):(((w.alloc (.cells c1 t1)).alloc (.cells c2 t2)).alloc (.cells c3 t3)).cell? ⟨w.heap.size+1,i,none⟩=some v:=by
 rw [World.cell?_alloc_lt _ _ _ (by simp),World.cell?_alloc_at _ _ _ _ (by simp)]
 exact h
theorem zfr (h:c3[i]?=some v):(((w.alloc (.cells c1 t1)).alloc (.cells c2 t2)).alloc (.cells c3 t3)).cell? ⟨w.heap.size+1+1,i,none⟩=some v:=by
 rw [World.cell?_alloc_at _ _ _ _ (by simp)]
 exact h
end
theorem zc2 (w:World):Calls Tryz.prog 27 #[] w fun e w'=>e=.returned (.bool true)/\Below w.heap.size w w':=by
 go_enter Tryz.func27, Tryz.ntmps27
 go_wp2_with fail
 refine (zhx twoT (some ⟨w.heap.size,0,none⟩) (some ⟨w.heap.size+1+1,0,none⟩) 2 1 _ ?_).mono ?_
 ·exact zgF (d:=1) (b2:=w.heap.size+1) (c:=2) (ze1 rfl) (ze1 rfl) (zfr rfl) (by omega) (by unfold maxLen; omega) (fun j hj=>by
   match j,hj with
   | 0,_=>exact ⟨zbB rfl,zbB rfl,zbB rfl⟩
   | 1,_=>exact ⟨zbB rfl,zbB rfl,zbB rfl⟩) rfl
 rintro e w1 (⟨h0,_⟩ | ⟨_,A,c,rfl,h1,h2,h3,hb⟩)
 ·exact absurd zfq h0
 have hW:Below w.heap.size w w1:=onS ((((Below.refl _ _).alloc (Nat.le_refl _) _).alloc (by simp) _).alloc (by simp; omega) _) hb
 rw [ziz] at h1 h3 ⊢;clear hb
 have hd:dl 2=1:=zcz (by omega) (by omega)
 have kb2:Below w1.heap.size w1 (w1.alloc (Obj.cells #[Value.int .u32 2] 109)):=(Below.refl _ _).alloc (Nat.le_refl _) _
 have key:=zfa A (some ⟨w1.heap.size,0,none⟩) c 1 2 (w1.alloc (Obj.cells #[Value.int .u32 2] 109)) (h3.on kb2) (zeI (w:=w1) 109 (x:=2) (by omega) (by omega)) (by omega)
 rw [hd] at key ⊢
 have HK:=hid key
 have hW2:=onS hW kb2
 clear hd h1 h2 h3 key kb2
 go_wp2_with fail
 refine HK.out.mono ?_
 rintro e w2 ⟨rfl,kb⟩
 have hW3:=onS hW2 kb
 clear kb hW2 HK
 go_wp2
 go_ret
 exact ⟨rfl,hW3⟩
theorem Trel.ord {T:Trel} {i:Nat} (h:T.secOk i):∀ q j,j<q->q<T.el i->T.fr i j<T.fr i q∨T.fr i j=T.fr i q/\T.lb i j<T.lb i q:=by
 intro q
 induction q with
 | zero=>intro j hj; omega
 | succ q ih =>
  intro j hj hq
  have h1:T.fr i q<T.fr i (q+1)∨T.fr i q=T.fr i (q+1)/\T.lb i q<T.lb i (q+1):=(h.1 (q+1) hq).2.2 (by omega)
  by_cases e:j=q
  ·subst e; exact h1
  ·have h2:=ih j (by omega) (by omega)
   omega
def Trel.code (T:Trel) (f:Nat->Nat) (i j:Nat):Nat:=f (T.fr i j).toNat*256+(T.lb i j).toNat
def Trel.kt (T:Trel) (f:Nat->Nat) (i:Nat):Nat->Nat->Nat
 | 0,_=>1099511627776
 | j+1,v=>if (T.to i j).toNat=v/\T.code f i j<T.kt f i j v then T.code f i j else T.kt f i j v
def Trel.nm (T:Trel):Nat->Nat->Nat
 | 0,_=>0
 | i+1,v=>rankOf (T.kt (T.nm i) i (T.el i)) (T.W (i+1)).toNat v
def Trel.tri (T:Trel) (i j:Nat):Int × Int × Int:=((T.nm i (T.fr i j).toNat:Nat),T.lb i j,(T.nm (i+1) (T.to i j).toNat:Nat))
section
variable {T:Trel} {f:Nat->Nat} {i:Nat}
theorem Trel.kt_le:∀ {j q:Nat},q<j->T.kt f i j (T.to i q).toNat<=T.code f i q:=by
 intro j
 induction j with
 | zero=>intro q h; omega
 | succ j ih =>
  intro q h
  unfold Trel.kt
  by_cases e:q=j
  ·subst e
   split
   ·exact Nat.le_refl _
   ·rename_i h1
    simp at h1
    exact h1
  ·have h1:=ih (q:=q) (by omega)
   split
   ·omega
   ·exact h1
theorem Trel.kt_att:∀ {j v:Nat},T.kt f i j v=1099511627776∨∃ q,q<j/\(T.to i q).toNat=v/\T.kt f i j v=T.code f i q:=by
 intro j v
 induction j with
 | zero=>exact .inl rfl
 | succ j ih =>
  unfold Trel.kt
  split
  ·rename_i h
   exact .inr ⟨j,by omega,h.1,rfl⟩
  ·rcases ih with h | ⟨q,h1,h2,h3⟩
   ·exact .inl h
   ·exact .inr ⟨q,by omega,h2,h3⟩
end
section
variable {T:Trel} (h:T.Proper)
include h
theorem Trel.Proper.nm_lt {i v:Nat} (hi:i<=T.n) (hv:v<(T.W i).toNat):T.nm i v<(T.W i).toNat:=by
 match i with
 | 0=>rw [h.w0]; show 0<_; decide
 | i+1=>exact zeq hv
theorem Trel.Proper.frL {i j:Nat} (hi:i<T.n) (hj:j<T.el i):(T.fr i j).toNat<(T.W i).toNat/\(((T.fr i j).toNat:Nat):Int)=T.fr i j:=by
 have:=h.shape.ins i hi j hj
 unfold Trel.inside at this
 omega
theorem Trel.Proper.toL {i j:Nat} (hi:i<T.n) (hj:j<T.el i):(T.to i j).toNat<(T.W (i+1)).toNat/\(((T.to i j).toNat:Nat):Int)=T.to i j:=by
 have:=h.shape.ins i hi j hj
 unfold Trel.inside at this
 omega
theorem Trel.Proper.lbL {i j:Nat} (hi:i<T.n) (hj:j<T.el i):(T.lb i j).toNat<256/\(((T.lb i j).toNat:Nat):Int)=T.lb i j:=by
 have:=(h.sec i hi).1 j hj
 unfold Trel.edgeOk at this
 omega
theorem Trel.Proper.code_lt {i j:Nat} (hi:i<T.n) (hj:j<T.el i):T.code (T.nm i) i j<16777216:=by
 have h1:=h.nm_lt (by omega) (h.frL hi hj).1
 have h2:=(h.shape.wid (i:=i) (by omega)).2
 have h3:=(h.lbL hi hj).1
 unfold Trel.code
 omega
theorem Trel.Proper.kt_hit {i v:Nat} (hi:i<T.n) (hv:v<(T.W (i+1)).toNat):∃ q,q<T.el i/\(T.to i q).toNat=v/\T.kt (T.nm i) i (T.el i) v=T.code (T.nm i) i q:=by
 obtain ⟨j,hj,e⟩:=zcM.1 ((h.sec i hi).2.2 v hv)
 have e2:(T.to i j).toNat=v:=by omega
 have h1:=Trel.kt_le (T:=T) (f:=T.nm i) (i:=i) hj
 have h2:=h.code_lt hi hj
 rw [e2] at h1
 rcases Trel.kt_att (T:=T) (f:=T.nm i) (i:=i) (j:=T.el i) (v:=v) with h3 | h3
 ·omega
 ·exact h3
theorem Trel.Proper.code_inj {i:Nat} (hi:i<T.n) (hn:∀ u v,u<(T.W i).toNat->v<(T.W i).toNat->T.nm i u=T.nm i v->u=v) {j q:Nat} (hj:j<T.el i) (hq:q<T.el i) (e:T.code (T.nm i) i j=T.code (T.nm i) i q):j=q:=by
 have h1:=h.lbL hi hj
 have h2:=h.lbL hi hq
 unfold Trel.code at e
 have e1:T.nm i (T.fr i j).toNat=T.nm i (T.fr i q).toNat:=by omega
 have e2:=hn _ _ (h.frL hi hj).1 (h.frL hi hq).1 e1
 have h3:=h.frL hi hj
 have h4:=h.frL hi hq
 rcases Nat.lt_trichotomy j q with h5 | h5 | h5
 ·have:=Trel.ord (h.sec i hi) q j h5 hq; omega
 ·exact h5
 ·have:=Trel.ord (h.sec i hi) j q h5 hj; omega
theorem Trel.Proper.key_inj {i:Nat} (hi:i<T.n) (hn:∀ u v,u<(T.W i).toNat->v<(T.W i).toNat->T.nm i u=T.nm i v->u=v) (u v:Nat) (hu:u<(T.W (i+1)).toNat) (hv:v<(T.W (i+1)).toNat)
  (e:T.kt (T.nm i) i (T.el i) u=T.kt (T.nm i) i (T.el i) v):u=v:=by
 obtain ⟨j,hj,e1,e2⟩:=h.kt_hit hi hu
 obtain ⟨q,hq,e3,e4⟩:=h.kt_hit hi hv
 have:=h.code_inj hi hn hj hq (by omega)
 subst this
 omega
theorem Trel.Proper.nm_inj:∀ {i:Nat},i<=T.n->∀ u v,u<(T.W i).toNat->v<(T.W i).toNat->T.nm i u=T.nm i v->u=v:=by
 intro i
 induction i with
 | zero=>intro _ u v hu hv _; rw [h.w0] at hu hv; have:(1:Int).toNat=1:=rfl; omega
 | succ i ih =>
  intro hi u v hu hv e
  exact zgE (fun a b ha hb hab=>h.key_inj (by omega) (ih (by omega)) a b ha hb hab) hu hv e
theorem Trel.Proper.keys {i:Nat} (hi:i<T.n) (u v:Nat) (hu:u<(T.W (i+1)).toNat) (hv:v<(T.W (i+1)).toNat)
  (e:T.kt (T.nm i) i (T.el i) u=T.kt (T.nm i) i (T.el i) v):u=v:=h.key_inj hi (h.nm_inj (by omega)) u v hu hv e
theorem Trel.Proper.tri_inj {i j q:Nat} (hi:i<T.n) (hj:j<T.el i) (hq:q<T.el i) (e1:(T.tri i j).1=(T.tri i q).1) (e2:(T.tri i j).2.1=(T.tri i q).2.1):j=q:=by
 have e1':T.nm i (T.fr i j).toNat=T.nm i (T.fr i q).toNat:=by
  have:((T.nm i (T.fr i j).toNat:Nat):Int)=(T.nm i (T.fr i q).toNat:Nat):=e1
  omega
 have e2':T.lb i j=T.lb i q:=e2
 refine h.code_inj hi (h.nm_inj (by omega)) hj hq ?_
 unfold Trel.code
 rw [e1',e2']
end
def SecRen (T:Trel) (i:Nat) (y:Nat->Int × Int × Int):Prop :=
 ((List.range (T.el i)).map y).Perm ((List.range (T.el i)).map (T.tri i))/\∀ p q,p<q->q<T.el i->ltE (y p) (y q)
def IsRen (T:Trel) (y:Nat->Nat->Int × Int × Int):Prop:=∀ i,i<T.n->SecRen T i (y i)
theorem zaF {α:Type} {R:α->α->Prop} {n:Nat} {y:Nat->α}:((List.range n).map y).Pairwise R↔∀ p q,p<q->q<n->R (y p) (y q):=by
 rw [List.pairwise_iff_getElem]
 constructor
 ·intro h p q hpq hq
  have:=h p q (by simp; omega) (by simpa using hq) hpq
  simpa using this
 ·intro h p q hp hq hpq
  have:=h p q hpq (by simpa using hq)
  simpa using this
theorem SecRen.of_sort {T:Trel} (h:T.Proper) {i:Nat} (hi:i<T.n) {y:Nat->Int × Int × Int} (hp:((List.range (T.el i)).map y).Perm ((List.range (T.el i)).map (T.tri i))) (hs:∀ p q,p<q->q<T.el i->¬ ltE (y q) (y p)):SecRen T i y:=by
 refine ⟨hp,fun p q hpq hq=>?_⟩
 have h1:(((List.range (T.el i)).map (T.tri i)).map fun t=>(t.1,t.2.1)).Nodup:=by
  rw [List.map_map]
  refine zaF.2 fun a b hab hb e=>?_
  simp only [Function.comp,Prod.mk.injEq] at e
  have:=h.tri_inj hi (by omega) hb e.1 e.2
  omega
 have h2:=((hp.map fun t=>(t.1,t.2.1)).nodup_iff).2 h1
 rw [List.map_map] at h2
 have h3:=zaF.1 h2 p q hpq hq
 have h4:=hs p q hpq hq
 simp only [Function.comp,ne_eq,Prod.mk.injEq] at h3
 unfold ltE at *
 omega
def actA (pv:Nat->Nat) (R:Nat->Nat->Nat) (N i s:Nat):Bool:=decide (pv s<i) && decide ((i:Int)<=lE (R s) N)
def actE (pv:Nat->Nat) (R:Nat->Nat->Nat) (N i s:Nat):Bool:=decide (pv s<=i) && decide ((i:Int)<=lE (R s) N)
def secE (q:Nat) (add mul:Nat->Nat->Nat) (pv:Nat->Nat) (R:Nat->Nat->Nat) (N t i:Nat) (c:Nat->Nat):Int × Int × Int :=
 (((packB q (actA pv R N i) c t:Nat):Int),((spE add mul R c t i:Nat):Int),((packB q (actA pv R N (i+1)) c t:Nat):Int))
def Trel.eD (T:Trel) (i j:Nat):Int × Int × Int:=(T.fr i j,T.lb i j,T.to i j)
structure MinT (q:Nat) (add mul:Nat->Nat->Nat) (n N:Nat) (pv:Nat->Nat) (R:Nat->Nat->Nat) (T:Trel):Prop where
 nN:T.n=N
 nw:T.nw=N+1
 w:∀ i,i<=N->T.W i=((q ^ cntB (actA pv R N i) n:Nat):Int)
 el:∀ i,i<N->T.el i=q ^ cntB (actE pv R N i) n
 out:∀ i,i<N->∀ c:Nat->Nat,(∀ s,c s<q)->∃ j,j<T.el i/\T.eD i j=secE q add mul pv R N n i c
 inn:∀ i,i<N->∀ j,j<T.el i->∃ c:Nat->Nat,(∀ s,c s<q)/\T.eD i j=secE q add mul pv R N n i c
 srt:∀ i,i<N->∀ a b,a<b->b<T.el i->ltE (T.eD i a) (T.eD i b)
section
variable {q n N:Nat} {add mul:Nat->Nat->Nat} {pv:Nat->Nat} {R:Nat->Nat->Nat}
theorem zes (s:Nat):actA pv R N 0 s=false:=by simp [actA]
theorem ziA (s:Nat):actA pv R N N s=false:=by
 have h:=ziJ (u:=R s) N
 have:¬ ((N:Int)<=lE (R s) N):=by omega
 simp [actA,this]
theorem zbS {D:Nat->Bool} (h:∀ s,D s=false):∀ n,cntB D n=0
 | 0=>rfl
 | n+1=>by
  show cntB D n+(if D n then 1 else 0)=0
  rw [zbS h n,h n]
  rfl
theorem zbu (i s:Nat):actE pv R N i s=true↔pv s<=i/\(i:Int)<=lE (R s) N:=by simp [actE]
theorem zaQ (i s:Nat):actA pv R N i s=true↔pv s<i/\(i:Int)<=lE (R s) N:=by simp [actA]
theorem ziB (hL:FieldLaws q add mul) (h:SpanF q n N pv R) {i:Nat} (hi:i<N) {c c':Nat->Nat} (hc:∀ s,c s<q) (hc':∀ s,c' s<q)
  (e1:(secE q add mul pv R N n i c).1=(secE q add mul pv R N n i c').1) (e2:(secE q add mul pv R N n i c).2.1=(secE q add mul pv R N n i c').2.1) :
  ∀ s,s<n->actE pv R N i s=true->c s=c' s:=by
 have e1:((packB q (actA pv R N i) c n:Nat):Int)=((packB q (actA pv R N i) c' n:Nat):Int):=e1
 have e2:((spE add mul R c n i:Nat):Int)=((spE add mul R c' n i:Nat):Int):=e2
 have a1:=zdx (D:=actA pv R N i) n (fun s _=>hc s) (fun s _=>hc' s) (by omega)
 intro s hs hA
 obtain ⟨h1,h2⟩:=(zbu i s).1 hA
 by_cases g:pv s<i
 ·exact a1 s hs ((zaQ i s).2 ⟨g,h2⟩)
 ·obtain rfl:i=pv s:=by omega
  have key:=zgu hL (R:=R) (c:=c) (c':=c') (j:=pv s) (s:=s) n hs (fun t ht hne=>?_) (by omega)
  ·rw [h.one s hs,hL.mulOne (hc s),hL.mulOne (hc' s)] at key
   exact key
  ·rcases Nat.lt_trichotomy t s with g | g | g
   ·have hlt:=h.inc t s g hs
    by_cases k:((pv s:Nat):Int)<=lE (R t) N
    ·rw [a1 t ht ((zaQ _ t).2 ⟨hlt,k⟩)]
    ·have:R t (pv s)=0:=zb7 (n:=N) hi (by omega)
     rw [this,hL.mulZero (hc t),hL.mulZero (hc' t)]
   ·exact absurd g hne
   ·have:R t (pv s)=0:=h.low t ht _ (h.inc s t g ht)
    rw [this,hL.mulZero (hc t),hL.mulZero (hc' t)]
theorem ziC {c c':Nat->Nat} {i:Nat} (h:∀ s,s<n->actE pv R N i s=true->c s=c' s):packB q (actE pv R N i) c n=packB q (actE pv R N i) c' n:=zbA n h
variable {T:Trel}
theorem MinT.proper (hL:FieldLaws q add mul) (hq:q<=256) (hN:N<=64) (hM:MinT q add mul n N pv R T) (hW:T.sumW (N+1)<=65536) (hE:T.sumE N<=262144):T.Proper:=by
 have hq0:0<q:=by have:=hL.two; omega
 have hpow:∀ k,1<=q ^ k:=fun k=>Nat.pow_pos hq0
 have hout:∀ i,i<N->∀ j,j<T.el i->∃ c:Nat->Nat,(∀ s,c s<q)/\T.fr i j=((packB q (actA pv R N i) c n:Nat):Int)/\T.lb i j=((spE add mul R c n i:Nat):Int)/\T.to i j=((packB q (actA pv R N (i+1)) c n:Nat):Int):=fun i hi j hj=>by
  obtain ⟨c,h1,h2⟩:=hM.inn i hi j hj
  simp only [Trel.eD,secE,Prod.mk.injEq] at h2
  exact ⟨c,h1,h2⟩
 have e:=hM.nN
 refine ⟨⟨by omega,by rw [hM.nw]; omega,fun i hi=>?_,by rw [hM.nN]; exact hW,by rw [hM.nN]; exact hE,fun i hi j hj=>?_⟩,?_,?_,fun i hi=>⟨fun j hj=>?_,fun v hv=>?_,fun v hv=>?_⟩⟩
 ·rw [hM.w i (by omega)]
  have:=hpow (cntB (actA pv R N i) n)
  omega
 ·obtain ⟨c,h1,h2,_,h4⟩:=hout i (by omega) j hj
  have l1:=zbH (D:=actA pv R N i) n fun s _=>h1 s
  have l2:=zbH (D:=actA pv R N (i+1)) n fun s _=>h1 s
  unfold Trel.inside
  rw [h2,h4,hM.w i (by omega),hM.w (i+1) (by omega)]
  omega
 ·rw [hM.w 0 (by omega),zbS zes]
  rfl
 ·rw [hM.nN,hM.w N (by omega),zbS ziA]
  rfl
 ·obtain ⟨c,h1,h2,h3,h4⟩:=hout i (by omega) j hj
  have l1:=zbb hL (V:=R) c n i
  refine ⟨by rw [h3]; omega,by rw [h3]; omega,fun h0=>?_⟩
  exact hM.srt i (by omega) (j - 1) j (by omega) hj
 ·rw [hM.w i (by omega)] at hv
  obtain ⟨c,h1,_,h3⟩:=zaN hq0 (D:=actA pv R N i) n v (by omega)
  obtain ⟨j,hj,e⟩:=hM.out i (by omega) c h1
  simp only [Trel.eD,secE,Prod.mk.injEq] at e
  exact zcM.2 ⟨j,hj,by rw [e.1,h3]⟩
 ·rw [hM.w (i+1) (by omega)] at hv
  obtain ⟨c,h1,_,h3⟩:=zaN hq0 (D:=actA pv R N (i+1)) n v (by omega)
  obtain ⟨j,hj,e⟩:=hM.out i (by omega) c h1
  simp only [Trel.eD,secE,Prod.mk.injEq] at e
  exact zcM.2 ⟨j,hj,by rw [e.2.2,h3]⟩
end
def powS (q:Nat) (d:Nat->Nat):Nat->Nat
 | 0=>0
 | i+1=>powS q d i+q ^ d i
theorem zct {q:Nat} {d:Nat->Nat}:∀ i k,powS q d i<=powS q d (i+k)
 | _,0=>Nat.le_refl _
 | i,k+1=>Nat.le_trans (zct i k) (Nat.le_add_right _ _)
theorem zcO {q:Nat} {d d':Nat->Nat}:∀ m,(∀ i,i<m->d i=d' i)->powS q d m=powS q d' m
 | 0,_=>rfl
 | m+1,h=>by
  show powS q d m+q ^ d m=powS q d' m+q ^ d' m
  rw [zcO m fun i hi=>h i (by omega),h m (by omega)]
theorem zjd {q:Nat} {d:Nat->Nat} {m i:Nat} (h:i<m):q ^ d i<=powS q d m:=by
 have h1:=zct (q:=q) (d:=d) (i+1) (m - (i+1))
 rw [show i+1+(m - (i+1))=m by omega] at h1
 have h2:powS q d (i+1)=powS q d i+q ^ d i:=rfl
 omega
def SizeIn (q n N:Nat) (pv:Nat->Nat) (R:Nat->Nat->Nat):Prop:=powS q (fun i=>cntB (actA pv R N i) n) (N+1)<=65536/\powS q (fun i=>cntB (actE pv R N i) n) N<=262144
section
variable {q n N:Nat} {add mul:Nat->Nat->Nat} {pv:Nat->Nat} {R:Nat->Nat->Nat} {T:Trel}
theorem MinT.sums (hM:MinT q add mul n N pv R T):T.sumW (N+1)=(powS q (fun i=>cntB (actA pv R N i) n) (N+1):Nat)/\T.sumE N=powS q (fun i=>cntB (actE pv R N i) n) N:=by
 constructor
 ·have:∀ m,m<=N+1->T.sumW m=(powS q (fun i=>cntB (actA pv R N i) n) m:Nat):=by
   intro m
   induction m with
   | zero=>intro _; rfl
   | succ m ih =>
    intro h
    show T.sumW m+T.W m=((powS q (fun i=>cntB (actA pv R N i) n) m+q ^ cntB (actA pv R N m) n:Nat):Int)
    rw [ih (by omega),hM.w m (by omega)]
    push_cast
    rfl
  exact this _ (Nat.le_refl _)
 ·have:∀ m,m<=N->T.sumE m=powS q (fun i=>cntB (actE pv R N i) n) m:=by
   intro m
   induction m with
   | zero=>intro _; rfl
   | succ m ih =>
    intro h
    show T.sumE m+T.el m=powS q (fun i=>cntB (actE pv R N i) n) m+q ^ cntB (actE pv R N m) n
    rw [ih (by omega),hM.el m (by omega)]
  exact this _ (Nat.le_refl _)
theorem MinT.proper_in (hL:FieldLaws q add mul) (hq:q<=256) (hN:N<=64) (hM:MinT q add mul n N pv R T) (h:SizeIn q n N pv R):T.Proper :=
 hM.proper hL hq hN (by rw [hM.sums.1]; have:=h.1; omega) (by rw [hM.sums.2]; exact h.2)
theorem SpanF.prof (hL:FieldLaws q add mul) {pv:Nat->Nat} {V R:Nat->Nat->Nat} (h:SpanF q n N pv R) (hV:∀ i,i<n->∀ j,j<N->V i j<q) (hS:SameSp q add mul N n n V R) (hd:∀ i j,i<j->j<n->lE (R i) N≠lE (R j) N)
  {i a b:Nat} (hi:i<=N) (ha:RankIs q add mul n V 0 i a) (hb:RankIs q add mul n V i (N - i) b):a+b=cntB (actA pv R N i) n+n:=SpanF.ranks hL h hV hS hd hi ha hb
end
def updI (x:Nat->Nat->Int) (v k:Nat) (y:Int):Nat->Nat->Int:=fun u j=>if u=v/\j=k then y else x u j
theorem zje (x:Nat->Nat->Int) (v k:Nat) (y:Int):updI x v k y v k=y:=if_pos ⟨rfl,rfl⟩
theorem zgG {x:Nat->Nat->Int} {v k u j:Nat} {y:Int} (h:¬ (u=v/\j=k)):updI x v k y u j=x u j:=if_neg h
def IntTab (w:World) (g base m:Nat) (F:Nat->Value) (n:Nat->Nat) (x:Nat->Nat->Int):Prop :=
 TabOwn w g base 22 3 1 m F n (fun v i _=>.int .i64 (x v i))
section
variable {w w':World} {g base m:Nat} {F:Nat->Value} {n n':Nat->Nat} {x x':Nat->Nat->Int}
theorem IntTab.on (h:IntTab w g base m F n x) (hb:Below w.heap.size w w'):IntTab w' g base m F n x:=⟨zab h.row hb,fun v hv=>(h.own v hv).on hb,h.apart⟩
theorem IntTab.congr (h:IntTab w g base m F n x) (e1:∀ v,v<m->n v=n' v) (e2:∀ v,v<m->∀ k,k<n v->x v k=x' v k):IntTab w g base m F n' x' :=
 ⟨h.row,fun v hv=>by
  rw [<-e1 v hv]
  exact (h.own v hv).congr fun i hi j _=>by
   show Value.int .i64 (x v i)=.int .i64 (x' v i)
   rw [e2 v hv i hi],h.apart⟩
theorem IntTab.at (h:IntTab w g base m F n x) {v k:Nat} (hv:v<m) (hk:k<n v):∃ b o d,F v=.slice (some ⟨b,o,none⟩) (n v) d/\base<=b/\b<w.heap.size/\w.cell? ⟨b,o+k,none⟩=some (.int .i64 (x v k))/\w.frozen? ⟨b,o+k,none⟩=false:=by
 have h1:=h.own v hv
 obtain ⟨b,o,d,e,hb,hl,_,_,hc⟩:=h1.form (by omega)
 have hc0:=hc k hk 0 (by omega)
 rw [Nat.mul_one,Nat.add_zero] at hc0
 refine ⟨b,o,d,e,hb,hl,hc0,?_⟩
 rw [e] at h1
 exact h1.frozen (o+k)
theorem IntTab.set (h:IntTab w g base m F n x) (hgb:g<base) {v k b o d:Nat} {y:Int} (hv:v<m) (hk:k<n v) (hF:F v=.slice (some ⟨b,o,none⟩) (n v) d) :
  IntTab (w.setCell ⟨b,o+k,none⟩ (.int .i64 y)) g base m F n (updI x v k y):=by
 have hob:(F v).ownBlock=some b:=by rw [hF]; rfl
 have hbb:=(h.own v hv).lt b hob
 refine ⟨h.row.setOther (by simp; omega) _,fun u hu=>?_,h.apart⟩
 by_cases e:u=v
 ·subst e
  have k1:=h.own u hu
  rw [hF] at k1 ⊢
  have ks:=k1.set (a:=k) (b:=0) hk (by omega) (.int .i64 y)
  rw [Nat.mul_one,Nat.add_zero] at ks
  exact ks.congr fun i _ j hj=>by
   obtain rfl:j=0:=by omega
   show (if i=k/\0=0 then _ else _)=Value.int .i64 (updI x u k y u i)
   unfold updI
   by_cases ei:i=k
   ·rw [if_pos ⟨ei,rfl⟩,if_pos ⟨rfl,ei⟩]
   ·rw [if_neg fun hh=>ei hh.1,if_neg fun hh=>ei hh.2]
 ·have k1:=h.own u hu
  have hne:(F u).ownBlock≠some b:=fun hh=>by
   rcases h.apart u v hu hv e with h0 | h0
   ·rw [h0] at hh; cases hh
   ·rw [hob] at h0; exact h0 hh
  exact (k1.setCell (a:=⟨b,o+k,none⟩) hne _).congr fun i _ j _=>by
   show Value.int .i64 (x u i)=.int .i64 (updI x v k y u i)
   rw [zgG fun hh=>e hh.1]
theorem IntTab.rows (h:IntTab w g base m F n x) (hx:∀ v,v<m->∀ k,k<n v -> -9223372036854775808<=x v k/\x v k<=9223372036854775807):IntRows w (some ⟨g,0,none⟩) m n x:=fun i hi=>by
 have h1:=h.own i hi
 obtain ⟨A,c,e⟩:=h1.shape
 have hc:=h.row.cell hi
 rw [e] at h1 hc
 exact ⟨g,0,A,c,rfl,h.row.lt,by rw [Nat.zero_add]; exact hc,h1.capL.1,h1.capL.2,h1.rd rfl,fun j hj=>hx i hi j hj⟩
end
theorem zet {w:World} {g base m:Nat} {x:Nat->Nat->Int} (h:w.rowIs g 22 m (fun _=>.slice none 0 0)):IntTab w g base m (fun _=>.slice none 0 0) (fun _=>0) x :=
 ⟨h,fun _ _=>Own.nil _ _ _ _ _,fun _ _ _ _ _=>.inl rfl⟩
open Go.ChangeShapes Go.WideShapes Go.ChangeAt
def idxP (p:Int->Bool) (f:Nat->Int):Nat->Int
 | 0 => -1
 | k+1=>if 0<=idxP p f k then idxP p f k else if p (f k) then k else -1
theorem ze2 {p:Int->Bool} {f:Nat->Int} {k:Nat} (h:idxP p f k = -1) (hp:p (f k)=false):idxP p f (k+1) = -1:=by simp [idxP,h,hp]
theorem zgH {p:Int->Bool} {f:Nat->Int} {k n:Nat} (h:idxP p f k = -1) (hp:p (f k)=true) (hn:k<n):idxP p f n=k:=by
 induction n with
 | zero=>omega
 | succ n ih =>
  by_cases e:k=n
  ·subst e; simp [idxP,h,hp]
  ·have:=ih (by omega); simp [idxP,this]
theorem ze3 (p:Int->Bool) (f:Nat->Int) (n:Nat):(idxP p f n = -1/\∀ i,i<n->p (f i)=false)∨(∃ i,i<n/\idxP p f n=i/\p (f i)=true):=by
 induction n with
 | zero=>exact .inl ⟨rfl,fun i hi=>absurd hi (by omega)⟩
 | succ n ih =>
  rcases ih with ⟨h1,h2⟩ | ⟨i,hi,h1,h2⟩
  ·cases hp:p (f n)
   ·refine .inl ⟨ze2 h1 hp,fun i hi=>?_⟩
    by_cases e:i=n
    ·subst e; exact hp
    ·exact h2 i (by omega)
   ·exact .inr ⟨n,by omega,zgH h1 hp (by omega),hp⟩
  ·exact .inr ⟨i,by omega,by simp [idxP,h1],h2⟩
theorem zdz (fid:Nat) (p:Int->Bool) (hcf:∀ (x:Value) (W:World),(callFunc fid #[x]).run Tryz.prog W=.ok (.enter fid #[x]) W) (hp:∀ (x:Int) (W:World),Calls Tryz.prog fid #[.int .i64 x] W fun e W'=>e=.returned (.bool (p x))/\W=W')
  (F:Option Addr) (n d:Nat) (f:Nat->Int) (w:World) (hf:IntsR w w.heap.size F n f) (hn:n<=1024) :
  Calls Tryz.prog 174 #[.slice F n d,.func (.func fid) #[] #[]] w fun e w'=>e=.returned (.int .i64 (idxP p f n))/\w=w':=by
 have HP:=hid hp
 clear hp
 go_enter Tryz.func174, Tryz.ntmps174
 go_wp2
 go_loopw [8] (fun i wr=>∃ k:Nat,k<=n/\i=.int .i64 k/\idxP p f k = -1/\w=wr) (fun i _=>n - (intOf i).toNat)
 case atStart=>exact ⟨0,by omega,rfl,rfl,rfl⟩
 case round =>
  obtain ⟨k,hk,rfl,hi,rfl⟩:=hrel
  have hi':=hid hi
  clear hi
  by_cases hlt:k<n
  ·obtain ⟨b,off,rfl,hb,e0⟩:=hf.at hlt
   cases hq:p (f k)
   ·have HQ:=hid hq
    clear hq
    go_wp2_with fail
    refine (HP.out _ _).mono ?_
    rintro e w1 ⟨rfl,rfl⟩
    rw [HQ.out]
    go_wp2
    go_roundw
    case rel=>exact ⟨k+1,by omega,by go_num,ze2 hi'.out HQ.out,by first | trivial | rfl⟩
    case measure=>simp [intOf]; omega
   ·have HQ:=hid hq
    clear hq
    go_wp2_with fail
    refine (HP.out _ _).mono ?_
    rintro e w1 ⟨rfl,rfl⟩
    rw [HQ.out]
    go_wp2
    go_ret
    exact ⟨zas (zgH hi'.out HQ.out hlt).symm,rfl⟩
  ·obtain rfl:k=n:=by omega
   go_wp2
   go_ret
   exact ⟨zas hi'.out.symm,rfl⟩
theorem IntTab.fresh {w w':World} {g base m:Nat} {F:Nat->Value} {n:Nat->Nat} {x:Nat->Nat->Int} (h:IntTab w g base m F n x) (hgb:g<base) (hbw:base<=w.heap.size) (kb:Below w.heap.size w w') {v:Nat} (hv:v<m) {v':Value} {k':Nat} {y:Nat->Int} (hown:Own w' w.heap.size 3 1 v' k' (fun i _=>.int .i64 (y i))) :
  IntTab (w'.setCell ⟨g,v,none⟩ v') g base m (fun u=>if u=v then v' else F u) (fun u=>if u=v then k' else n u) (fun u=>if u=v then y else x u):=by
 have h1:=h.on kb
 refine ⟨(h1.row.set v v').congr fun u _=>by split <;> rfl,fun u hu=>?_,fun a b ha hb hab=>?_⟩
 ·by_cases e:u=v
  ·subst e
   simp only [if_true]
   exact (hown.mono hbw).setCell (fun e=>by have h5:w.heap.size<=g:=(hown.lt _ e).1; omega) _
  ·simp only [if_neg e]
   exact (h1.own u hu).setCell (fun e=>by have h5:base<=g:=((h1.own u hu).lt _ e).1; omega) _
 ·by_cases ea:a=v
  ·have eb:¬ b=v:=fun e=>hab (by rw [ea,e])
   simp only [if_pos ea,if_neg eb]
   cases hfa:v'.ownBlock with
   | none=>exact .inl rfl
   | some k =>
    right
    intro e2
    have h5:=(hown.lt k hfa).1
    have h6:=((h.own b hb).lt k e2.symm).2
    omega
  ·simp only [if_neg ea]
   by_cases eb:b=v
   ·simp only [if_pos eb]
    cases hfa:(F a).ownBlock with
    | none=>exact .inl rfl
    | some k =>
     right
     intro e2
     have h5:=(hown.lt k e2.symm).1
     have h6:=((h.own a ha).lt k hfa).2
     omega
   ·simp only [if_neg eb]; exact h.apart a b ha hb hab
theorem zhy {w:World} {g P M:Nat} {m:Nat->Nat} (x y:Nat) (h:GF w w.heap.size g P M m) (hx:x<P ^ M) (hy:y<P ^ M) (hy0:y≠0) :
  Calls Tryz.prog 142 #[.pointer (some ⟨g,0,none⟩),.int .i64 (x:Nat),.int .i64 (y:Nat)] w fun e w'=>Below w.heap.size w w'/\∃ a:Nat,e=.returned (.tuple #[.int .i64 (a:Nat),.int .i64 0])/\a<P ^ M/\mulF P M m a y=x:=by
 have HG:=hid h
 have hL:=fieldLaws h.ok
 have HL:=hid hL
 have hix:=zak hx
 have hiy:=zak hy
 have HIX:=hid hix
 have HIY:=hid hiy
 clear h hL hix hiy
 go_enter Tryz.func142, Tryz.ntmps142
 go_wp2_with fail
 refine (zcq (y:Int) HG.out).mono ?_
 rintro e w1 ⟨kb,hc⟩
 have HB:=hid kb
 clear kb;rw [HIY.out] at hc
 rcases hc with ⟨h0,_⟩ | ⟨_,v,rfl,hv,_,hyv⟩
 ·exact absurd h0 hy0
 have hiv:=zak hv
 go_wp2_with fail
 refine (zaM (x:Int) (v:Int) (HG.out.on HB.out)).mono ?_
 rintro e w2 ⟨rfl,kb⟩
 rw [HIX.out,hiv];replace HB:=hid (onS HB.out kb)
 obtain ⟨a,ha⟩:∃ a,a=mulF P M m x v:=⟨_,rfl⟩
 rw [<-ha]
 have HA:Hid (a<P ^ M/\mulF P M m a y=x):=hid (by
  have hL:=HL.out
  rw [ha]
  refine ⟨hL.mulLt _ _,?_⟩
  rw [hL.mulAssoc x v y hx hv hy,hL.mulComm v y hv hy,hyv,hL.mulOne hx])
 clear ha hyv hv hiv kb
 go_wp2
 go_ret2
 exact ⟨HB.out,a,rfl,HA.out⟩
theorem zdA (A:Option Addr) (n c:Nat) (u:Nat->Nat) (w:World) (h:IntsR w w.heap.size A n (fun j=>((u j:Nat):Int))) (hn:n<=1048576) :
  Calls Tryz.prog 141 #[.slice A n c] w fun e w'=>e=.returned (.tuple #[.int .i64 (fE u n),.int .i64 (lE u n)])/\Below w.heap.size w w':=by
 have HA:=hid h
 clear h
 go_enter Tryz.func141, Tryz.ntmps141
 go_upto_region 3 with fail
 go_loopg [4,5,10] n (fun gg fv lv iv wx=>∃ k:Nat,iv=.int .i64 (k:Nat)/\fv=.int .i64 (fE u k)/\lv=.int .i64 (lE u k)/\k<=n/\n<=k+gg/\Below w.heap.size w wx)
 case atStart=>exact ⟨0,rfl,rfl,rfl,by omega,by omega,Below.refl _ _⟩
 case round =>
  obtain ⟨k,rfl,rfl,rfl,hk,hkg,hBx⟩:=hrel
  have hk0:(0:Int)<=(k:Int):=by omega
  have HB:=hid hBx
  obtain ⟨w3,hw3⟩:∃ X,X=wr:=⟨_,rfl⟩
  subst hw3
  clear hBx
  obtain ⟨F,hF⟩:∃ F,F=fE u k:=⟨_,rfl⟩
  obtain ⟨L,hL⟩:∃ L,L=lE u k:=⟨_,rfl⟩
  rw [<-hF,<-hL]
  by_cases hlt:k<n
  ·have hlt':(k:Int)<(n:Int):=by omega
   obtain ⟨b,o,hAe,hb,e0⟩:=(HA.out.on HB.out).at hlt
   subst hAe
   obtain ⟨x,hx⟩:∃ x,x=u k:=⟨_,rfl⟩
   rw [<-hx] at e0
   have hf1:fE u (k+1)=if x=0 then F else if F<0 then (k:Int) else F:=by rw [hx,hF]; rfl
   have hl1:lE u (k+1)=if x=0 then L else (k:Int):=by rw [hx,hL]; rfl
   clear hx hF hL
   by_cases hx0:x=0
   ·have hz:((x:Int) == 0)=true:=by simp [hx0]
    rw [if_pos hx0] at hf1 hl1
    have H1:=hid hf1
    have H2:=hid hl1
    clear hf1 hl1 hx0
    go_wp2
    go_roundg (gk - 1)
    case measure=>omega
    case rel=>exact ⟨k+1,by go_num,by rw [H1.out],by rw [H2.out],by omega,by omega,HB.out⟩
   ·have hz:((x:Int) == 0)=false:=by simp [hx0]
    rw [if_neg hx0] at hf1 hl1
    by_cases hneg:F<0
    ·rw [if_pos hneg] at hf1
     have H1:=hid hf1
     have H2:=hid hl1
     clear hf1 hl1 hx0
     go_wp2
     go_roundg (gk - 1)
     case measure=>omega
     case rel=>exact ⟨k+1,by go_num,by rw [H1.out],by rw [H2.out],by omega,by omega,HB.out⟩
    ·rw [if_neg hneg] at hf1
     have H1:=hid hf1
     have H2:=hid hl1
     clear hf1 hl1 hx0
     go_wp2
     go_roundg (gk - 1)
     case measure=>omega
     case rel=>exact ⟨k+1,by go_num,by rw [H1.out],by rw [H2.out],by omega,by omega,HB.out⟩
  ·have hlt':¬ (k:Int)<(n:Int):=by omega
   obtain rfl:k=n:=by omega
   have H1:=hid hF
   have H2:=hid hL
   clear hF hL
   go_wp2
   go_ret2
   exact ⟨by rw [H1.out,H2.out]; rfl,HB.out⟩
def SpansPost (P M : Int) (k : Nat) (f : Nat → Int) (N : Int) (n : Nat) (ln : Nat → Nat) (V : Nat → Nat → Int) (w : World) (e : Ending) (w' : World) : Prop :=
  Below w.heap.size w w'/\∃ u,FirstErr (CodeErrs P M k f N n ln V) u /\
    ((u≠0/\e=.returned (.tuple #[.slice none 0 0,.int .i64 u])) ∨
     (u=0/\∃ P' M' N':Nat,P=P'/\M=M'/\N=N'/\∃ g F pv R,e=.returned (.tuple #[.slice (some ⟨g,0,none⟩) n n,.int .i64 0])/\w.heap.size<=g/\IntTab w' g (g+1) n F (fun _=>N') (fun i j=>((R i j:Nat):Int)) /\
       SpanF (P' ^ M') n N' pv R/\SameSp (P' ^ M') (addF P' M') (mulF P' M' fun i=>(f i).toNat) N' n n (natT V) R/\∀ i j,i<j->j<n->lE (R i) N'≠lE (R j) N'))
theorem zhz (P M:Int) (A:Option Addr) (k c:Nat) (f:Nat->Int) (N:Int) (TC:Option Addr) (n d:Nat) (ln:Nat->Nat) (V:Nat->Nat->Int) (w:World) (hr:IntsR w w.heap.size A k f) (h:IntRows w TC n ln V) :
  Calls Tryz.prog 73 #[.agg #[.int .i64 P,.int .i64 M,.slice A k c,.int .i64 N,.slice TC n d]] w (SpansPost P M k f N n ln V w):=by
 have HI:=hid hr
 have HT:=hid h
 clear hr h
 have rf:=zai (w:=w) (a:=.int .i64 P) (b:=.int .i64 M) (c:=.slice A k c) (d:=.int .i64 N) (e:=.slice TC n d) (T := 27)
 have hB:Below w.heap.size w (w.alloc (.cells #[.int .i64 P,.int .i64 M,.slice A k c,.int .i64 N,.slice TC n d] 27)):=(Below.refl _ _).alloc (Nat.le_refl _) _
 obtain ⟨w1,hw1⟩:∃ W,W=w.alloc (.cells #[.int .i64 P,.int .i64 M,.slice A k c,.int .i64 N,.slice TC n d] 27):=⟨_,rfl⟩
 rw [<-hw1] at hB rf
 go_enter Tryz.func73, Tryz.ntmps73
 go_upto_region 1 with fail
 rw [<-hw1];clear hw1
 obtain ⟨b0,hb0⟩:∃ b,b=w.heap.size:=⟨_,rfl⟩
 rw [<-hb0] at rf;rw [<-hb0];clear hb0
 have HBOX:Hid (∀ X,Below w1.heap.size w1 X->(X.cell? ⟨b0,0,none⟩=some (.int .i64 P)/\X.cell? ⟨b0,1,none⟩=some (.int .i64 M)/\X.cell? ⟨b0,2,none⟩=some (.slice A k c)/\X.cell? ⟨b0,3,none⟩=some (.int .i64 N)/\X.cell? ⟨b0,4,none⟩=some (.slice TC n d))):=hid fun X hx =>
  ⟨(zab rf hx).cell (i:=0) (by omega),(zab rf hx).cell (i:=1) (by omega),(zab rf hx).cell (i:=2) (by omega),(zab rf hx).cell (i:=3) (by omega),(zab rf hx).cell (i:=4) (by omega)⟩
 have HB:=hid hB
 clear hB rf
 obtain ⟨q0,q1,q2,q3,q4⟩:=HBOX.out _ (Below.refl _ _)
 go_wp2_with fail
 refine (zcI P M A k c f N TC n d ln V w1 (HI.out.on HB.out) (HT.out.on HB.out)).mono ?_
 rintro e w2 ⟨u,rfl,hu,kb⟩
 have HU:=hid hu
 have KB:=hid kb
 clear kb hu q0 q1 q2 q3 q4
 by_cases hu0:u=0
 rotate_left
 ·have hub:(u != 0)=true:=by simpa using hu0
  have HU0:=hid hu0
  clear hu0
  go_wp2
  go_ret2
  exact ⟨onS HB.out KB.out,u,HU.out,.inl ⟨HU0.out,rfl⟩⟩
 subst hu0
 have hub:((0:Int) != 0)=false:=by simp
 obtain ⟨P',M',N',rfl,rfl,rfl,hC⟩:=zb5 HI.out HT.out HU.out
 have HC:=hid hC
 have hN64:=hC.ln2
 have hnN:=hC.n_le
 clear hC
 obtain ⟨q0,q1,q2,q3,q4⟩:=HBOX.out _ KB.out
 go_wp2_with fail
 refine (zbP (P':Int) (M':Int) A k c f w2 (HI.out.on (onS HB.out KB.out))).mono ?_
 rintro e w3 ⟨kb,hcase⟩
 rcases hcase with ⟨hbad,_⟩ | ⟨_,gf,P2,M2,hP2,hM2,rfl,_,hG⟩
 ·refine absurd ?_ hbad
  rcases HU.out with ⟨_,h9⟩ | ⟨h1,_⟩
  ·cases h9
  ·exact h1
 obtain rfl:P'=P2:=by omega
 obtain rfl:M'=M2:=by omega
 have HG:=hid hG.gf
 have HB3:=hid (onS HB.out (onS KB.out kb))
 replace KB:=hid (onS KB.out kb);clear kb q0 q1 q2 q3 q4 hP2 hM2 hG hub
 obtain ⟨q0,q1,q2,q3,q4⟩:=HBOX.out _ KB.out
 have hmk:=fun W=>zah (P:=Tryz.prog) 25 22 _ 24 Tryz.underlying25 Tryz.infoInts rfl (n:Int) (by omega) (by omega) (by omega) W
 simp only [Int.toNat_natCast] at hmk
 go_upto_region 6 with fail
 clear q0 q1 q2 q3 q4
 have rz:World.rowIs (World.alloc w3 (Obj.cells (madeCells #[Value.slice none 0 0] n) 22)) w3.heap.size 22 n (fun _=>.slice none 0 0):=World.rowIs_made _ (.slice none 0 0) n 22
 have kb:Below w3.heap.size w3 (World.alloc w3 (Obj.cells (madeCells #[Value.slice none 0 0] n) 22)):=(Below.refl _ _).alloc (Nat.le_refl _) _
 have hs6:(World.alloc w3 (Obj.cells (madeCells #[Value.slice none 0 0] n) 22)).heap.size=w3.heap.size+1:=by simp
 obtain ⟨w4,hw6⟩:∃ W,W=World.alloc w3 (Obj.cells (madeCells #[Value.slice none 0 0] n) 22):=⟨_,rfl⟩
 rw [<-hw6] at rz kb hs6 ⊢
 have K7:=hid kb
 have hb0w:w.heap.size<=w3.heap.size:=HB3.out.size
 obtain ⟨lt,hlt⟩:∃ x,x=w3.heap.size:=⟨_,rfl⟩
 rw [<-hlt] at rz hs6 hb0w ⊢
 have HLT5:Hid (lt=w3.heap.size):=hid hlt
 have HTB:Hid (IntTab w4 lt (lt+1) n (fun _=>.slice none 0 0) (fun v=>if v<0 then N' else 0) (fun i j=>((natT V i j:Nat):Int))):=hid ((zet (x:=fun i j=>((natT V i j:Nat):Int)) rz).congr (fun v _=>by rw [if_neg (by omega)]) fun v _ k _=>rfl)
 have hbase7:lt+1<=w4.heap.size:=by omega
 clear rz kb hs6 hw6 hmk hlt
 obtain ⟨q0,q1,q2,q3,q4⟩:=HBOX.out _ (onS KB.out K7.out)
 go_upto_region 7 with fail
 clear q0 q1 q2 q3 q4
 go_loopg [38] n (fun gg iv wx=>∃ (i:Nat) (F:Nat->Value),iv=.int .i64 (i:Nat)/\i<=n/\n<=i+gg/\Hid (IntTab wx lt (lt+1) n F (fun v=>if v<i then N' else 0) (fun i j=>((natT V i j:Nat):Int)))/\lt+1<=wx.heap.size/\Below w3.heap.size w3 wx)
 case atStart=>exact ⟨0,_,rfl,by omega,by omega,HTB,hbase7,K7.out⟩
 case round =>
  clear HTB K7 hbase7
  obtain ⟨i,F,rfl,hi,hig,HTB,hbase,hBx⟩:=hrel
  have hi0:(0:Int)<=(i:Int):=by omega
  have K7:=hid hBx
  obtain ⟨w8,hw8⟩:∃ X,X=wr:=⟨_,rfl⟩
  subst hw8
  clear hBx
  by_cases hin:i<n
  ·have hin':(i:Int)<(n:Int):=by omega
   obtain ⟨pb,po,RA,rc,hTe,_,x0,hc1,hc2,hrow,hrng⟩:=HC.out.rows i hin
   subst hTe
   replace x0:=cellS (onS HB3.out K7.out) x0
   have HROW:=hid hrow
   clear hrow hrng
   go_wp2_with fail
   clear x0
   refine (zaA RA N' rc (fun j=>((natT V i j:Nat):Int)) w8 (HROW.out.on (onS HB3.out K7.out)) hc1 (by omega)).mono ?_
   rintro e w9 ⟨SA,sc,rfl,hO,kb⟩
   have hn:=HTB.out.fresh (by omega) hbase kb hin (y:=fun j=>((natT V i j:Nat):Int)) hO
   have r0:=(HTB.out.on kb).row.cell hin
   have z0:=(HTB.out.on kb).row.frozen i
   have kb2:=(onS K7.out kb).setCell (p:=⟨lt,i,none⟩) (by have:=HLT5.out; show _<=lt; omega) (.slice SA N' sc)
   have hsz:lt+1<=(w9.setCell ⟨lt,i,none⟩ (.slice SA N' sc)).heap.size:=by rw [World.size_setCell]; exact Nat.le_trans hbase kb.size
   obtain ⟨w10,hw10⟩:∃ X,X=w9.setCell ⟨lt,i,none⟩ (.slice SA N' sc):=⟨_,rfl⟩
   rw [<-hw10] at hn kb2 hsz
   have HN:=hid (hn.congr (n':=fun v=>if v<i+1 then N' else 0) (x':=fun i j=>((natT V i j:Nat):Int)) (fun v hv=>by
    by_cases e:v=i
    ·rw [if_pos e,if_pos (by omega)]
    ·have h1:(v<i)↔(v<i+1):=by omega
     simp only [if_neg e,h1]) fun v hv k hk=>by
    by_cases e:v=i
    ·rw [if_pos e,e]
    ·rw [if_neg e])
   have K9:=hid kb2
   have HW10:=hid hw10
   clear hn kb kb2 hO hw10
   go_upto_region 10 with fail
   rw [<-HW10.out];clear r0 z0 HW10
   go_wp2
   go_roundg (gk - 1)
   case measure=>omega
   case rel=>exact ⟨i+1,_,by go_num,by omega,by omega,HN,hsz,K9.out⟩
  ·have hin':¬ (i:Int)<(n:Int):=by omega
   obtain rfl:i=n:=by omega
   have HTA:Hid (IntTab w8 lt (lt+1) i F (fun _=>N') (fun u j=>((natT V u j:Nat):Int))):=hid (HTB.out.congr (fun v hv=>if_pos hv) fun v _ k _=>rfl)
   clear HTB hin hi hig hi0
   obtain ⟨n,hn⟩:∃ n,n=i:=⟨_,rfl⟩
   subst hn
   obtain ⟨pv,hE⟩:=HC.out.rref
   have HSF:=hid hE.spanF
   have hL:=fieldLaws HC.out.fld
   have hneg:∀ x,x<P' ^ M'->negF P' M' x<P' ^ M'/\addF P' M' x (negF P' M' x)=0:=fun x _=>⟨zbp (by have:=HC.out.fld.1.1; omega),za4 (by have:=HC.out.fld.1.1; omega)⟩
   have HL:=hid hL
   have HNG:=hid hneg
   have HSP:Hid (SameSp (P' ^ M') (addF P' M') (mulF P' M' fun i=>(f i).toNat) N' n n (natT V) (natT V)):=hid fun _=>Iff.rfl
   clear hE hL hneg
   go_upto_region 12 with fail
   clear hin'
   go_loopg [10] (n*N'+1) (fun gg cv wx=>∃ (ch:Bool) (R:Nat->Nat->Nat),cv=.bool ch/\Hid ((ch=true/\mesL R N' n<gg)∨(ch=false/\∀ i j,i<j->j<n->lE (R i) N'≠lE (R j) N'))/\Hid (SpanF (P' ^ M') n N' pv R)/\Hid (SameSp (P' ^ M') (addF P' M') (mulF P' M' fun i=>(f i).toNat) N' n n (natT V) R)/\Hid (IntTab wx lt (lt+1) n F (fun _=>N') (fun u j=>((R u j:Nat):Int)))/\lt+1<=wx.heap.size/\Below w3.heap.size w3 wx)
   case atStart=>exact ⟨true,natT V,rfl,.inl ⟨rfl,by have:=zhW (R:=natT V) (N:=N') n; omega⟩,HSF,HSP,HTA,hbase,K7.out⟩
   case round =>
    clear HSF HSP HTA K7 hbase
    obtain ⟨ch,R,rfl,HCH,HSF,HSP,HTB,hbase,hBx⟩:=hrel
    have K7:=hid hBx
    obtain ⟨w9,hw9⟩:∃ X,X=wr:=⟨_,rfl⟩
    subst hw9
    clear hBx
    cases ch with
    | false =>
     have HD:Hid (∀ i j,i<j->j<n->lE (R i) N'≠lE (R j) N'):=hid (HCH.out.elim (fun h=>(nomatch h.1)) fun h=>h.2)
     go_wp2
     go_ret2
     exact ⟨onS HB3.out K7.out,0,HU.out,.inr ⟨rfl,P',M',N',rfl,rfl,rfl,lt,F,pv,R,rfl,hb0w,HTB.out,HSF.out,HSP.out,HD.out⟩⟩
    | true =>
     have hm0:mesL R N' n<gk:=HCH.out.elim (fun h=>h.2) fun h=>(nomatch h.1)
     obtain ⟨m0,hm0d⟩:∃ m,m=mesL R N' n:=⟨_,rfl⟩
     rw [<-hm0d] at hm0
     have HM0:Hid (mesL R N' n<=m0):=hid (by omega)
     clear HCH hm0d
     obtain ⟨gO,hgO⟩:∃ x,x=gk:=⟨_,rfl⟩
     subst hgO
     go_upto_region 15 with fail
     go_loopg [10,52] n (fun gg cv jv wx=>∃ (ch:Bool) (j:Nat) (R:Nat->Nat->Nat),cv=.bool ch/\jv=.int .i64 (j:Nat)/\j<=n/\n<=j+gg/\Hid ((ch=true/\mesL R N' n<m0)∨(ch=false/\mesL R N' n<=m0/\∀ i j',i<j'->j'<j->lE (R i) N'≠lE (R j') N'))/\Hid (SpanF (P' ^ M') n N' pv R)/\Hid (SameSp (P' ^ M') (addF P' M') (mulF P' M' fun i=>(f i).toNat) N' n n (natT V) R)/\Hid (IntTab wx lt (lt+1) n F (fun _=>N') (fun u j=>((R u j:Nat):Int)))/\lt+1<=wx.heap.size/\Below w3.heap.size w3 wx)
     case atStart=>exact ⟨false,0,R,rfl,rfl,by omega,by omega,.inr ⟨rfl,HM0.out,fun _ _ _ h=>absurd h (by omega)⟩,HSF,HSP,HTB,hbase,K7.out⟩
     case round =>
      clear HSF HSP HTB K7 hbase HM0
      obtain ⟨ch,j,R,rfl,rfl,hj,hjg,HCH,HSF,HSP,HTB,hbase,hBx⟩:=hrel
      have hj0:(0:Int)<=(j:Int):=by omega
      have K7:=hid hBx
      obtain ⟨w10,hw10⟩:∃ X,X=wr:=⟨_,rfl⟩
      subst hw10
      clear hBx
      by_cases hjn:j<n
      ·have hjn':(j:Int)<(n:Int):=by omega
       have hpos:=HSF.out.pos hjn
       obtain ⟨rb,ro,rd,hF,_,_,_,_⟩:=HTB.out.at (v:=j) hjn (k:=pv j) (HSF.out.pvlt j hjn)
       have c0:=HTB.out.row.cell hjn
       rw [hF] at c0
       have hown:=HTB.out.own j hjn
       rw [hF] at hown
       have HRW:Hid (IntsR w10 w10.heap.size (some ⟨rb,ro,none⟩) N' (fun k=>((R j k:Nat):Int))):=hid (hown.rd rfl)
       clear hown
       go_wp2_with fail
       clear c0
       refine (zdA (some ⟨rb,ro,none⟩) N' rd (R j) w10 HRW.out (by omega)).mono ?_
       rintro e w11 ⟨rfl,kb⟩
       obtain ⟨t,ht⟩:∃ t:Nat,lE (R j) N'=(t:Nat):=⟨(lE (R j) N').toNat,by omega⟩
       have htN:t<N':=(zjm N' t ht).1
       have hfj:=HSF.out.first hjn
       rw [ht,hfj]
       have HTT:=hid ht
       have HTB2:=hid (HTB.out.on kb)
       replace K7:=hid (onS K7.out kb)
       have hbase2:lt+1<=w11.heap.size:=Nat.le_trans hbase kb.size
       have HFJ:=hid hF
       clear kb HTB HRW ht hfj hF hpos hbase
       obtain ⟨gP,hgP⟩:∃ x,x=gk:=⟨_,rfl⟩
       subst hgP
       go_upto_region 19 with fail
       have HCH2:Hid ((ch=true/\mesL R N' n<m0)∨(ch=false/\mesL R N' n<=m0/\(∀ i j',i<j'->j'<j->lE (R i) N'≠lE (R j') N')/\∀ i,i<0->lE (R i) N'≠(t:Int))):=hid (by
        rcases HCH.out with h | ⟨h1,h2,h3⟩
        ·exact .inl h
        ·exact .inr ⟨h1,h2,h3,fun _ h=>absurd h (by omega)⟩)
       clear HCH
       go_loopg [10,64] j (fun gg cv iv wx=>∃ (ch:Bool) (i:Nat) (R:Nat->Nat->Nat),cv=.bool ch/\iv=.int .i64 (i:Nat)/\i<=j/\j<=i+gg/\Hid ((ch=true/\mesL R N' n<m0)∨(ch=false/\mesL R N' n<=m0/\(∀ i j',i<j'->j'<j->lE (R i) N'≠lE (R j') N')/\∀ i',i'<i->lE (R i') N'≠(t:Int)))/\Hid (lE (R j) N'=(t:Int))/\Hid (SpanF (P' ^ M') n N' pv R)/\Hid (SameSp (P' ^ M') (addF P' M') (mulF P' M' fun i=>(f i).toNat) N' n n (natT V) R)/\Hid (IntTab wx lt (lt+1) n F (fun _=>N') (fun u j=>((R u j:Nat):Int)))/\lt+1<=wx.heap.size/\Below w3.heap.size w3 wx)
       case atStart=>exact ⟨ch,0,R,rfl,rfl,by omega,by omega,HCH2,HTT,HSF,HSP,HTB2,hbase2,K7.out⟩
       case round =>
        clear HSF HSP HTB2 K7 hbase2 HCH2 HTT
        obtain ⟨ch,i,R,rfl,rfl,hi,hig,HCH,HTT,HSF,HSP,HTB,hbase,hBx⟩:=hrel
        have hi0:(0:Int)<=(i:Int):=by omega
        have K7:=hid hBx
        obtain ⟨w12,hw12⟩:∃ X,X=wr:=⟨_,rfl⟩
        subst hw12
        clear hBx
        by_cases hij:i<j
        ·have hij':(i:Int)<(j:Int):=by omega
         have hin:i<n:=by omega
         have hin':(i:Int)<(n:Int):=by omega
         obtain ⟨ib,io,id,hFi,hiblt,_,_,_⟩:=HTB.out.at (v:=i) hin (k:=pv i) (HSF.out.pvlt i hin)
         have c0:=HTB.out.row.cell hin
         rw [hFi] at c0
         have hown:=HTB.out.own i hin
         rw [hFi] at hown
         have HRW:Hid (IntsR w12 w12.heap.size (some ⟨ib,io,none⟩) N' (fun k=>((R i k:Nat):Int))):=hid (hown.rd rfl)
         clear hown
         go_wp2_with fail
         clear c0
         refine (zdA (some ⟨ib,io,none⟩) N' id (R i) w12 HRW.out (by omega)).mono ?_
         rintro e w13 ⟨rfl,kb⟩
         have hfi:=HSF.out.first hin
         rw [hfi]
         have hpos:=HSF.out.pos hin
         obtain ⟨li,hli⟩:∃ l,l=lE (R i) N':=⟨_,rfl⟩
         rw [<-hli]
         have HTB2:=hid (HTB.out.on kb)
         replace K7:=hid (onS K7.out kb)
         have hbase2:lt+1<=w13.heap.size:=Nat.le_trans hbase kb.size
         have HFI:=hid hFi
         clear kb HTB HRW hfi hFi hpos hbase
         by_cases hlt':li=(t:Int)
         rotate_left
         ·have hne:(li != (t:Int))=true:=by simpa using hlt'
          have HCH2:Hid ((ch=true/\mesL R N' n<m0)∨(ch=false/\mesL R N' n<=m0/\(∀ i j',i<j'->j'<j->lE (R i) N'≠lE (R j') N')/\∀ i',i'<i+1->lE (R i') N'≠(t:Int))):=hid (by
           rcases HCH.out with h | ⟨h1,h2,h3,h4⟩
           ·exact .inl h
           ·exact .inr ⟨h1,h2,h3,fun i' h=>by
             by_cases e:i'=i
             ·rw [e,<-hli]; exact hlt'
             ·exact h4 i' (by omega)⟩)
          clear hli hlt' HCH
          go_wp2
          go_roundg (gk - 1)
          case measure=>omega
          case rel=>exact ⟨ch,i+1,R,rfl,by go_num,by omega,by omega,HCH2,HTT,HSF,HSP,HTB2,hbase2,K7.out⟩
         ·have hne:(li != (t:Int))=false:=by simpa using hlt'
          have HLI:Hid (lE (R i) N'=(t:Int)):=hid (hli.symm.trans hlt')
          subst hlt'
          have hmx:Hid (mesL R N' n<=m0):=hid (by
           rcases HCH.out with ⟨_,h⟩ | ⟨_,h,_⟩
           ·omega
           ·exact h)
          clear hli HCH
          have x0:=(HTB2.out.row).cell hin
          rw [HFI.out] at x0
          have y0:=(HTB2.out.row).cell hjn
          rw [HFJ.out] at y0
          have hoi:=HTB2.out.own i hin
          rw [HFI.out] at hoi
          have hoj:=HTB2.out.own j hjn
          rw [HFJ.out] at hoj
          have x1:=(show IntsR w13 w13.heap.size (some ⟨ib,io,none⟩) N' (fun k=>((R i k:Nat):Int)) from hoi.rd rfl).here htN
          have y1:=(show IntsR w13 w13.heap.size (some ⟨rb,ro,none⟩) N' (fun k=>((R j k:Nat):Int)) from hoj.rd rfl).here htN
          clear hoi hoj
          obtain ⟨xv,hxv⟩:∃ x,x=R i t:=⟨_,rfl⟩
          obtain ⟨yv,hyv⟩:∃ x,x=R j t:=⟨_,rfl⟩
          have hxq:xv<P' ^ M':=by rw [hxv]; exact HSF.out.lt i hin t htN
          have hyq:yv<P' ^ M':=by rw [hyv]; exact HSF.out.lt j hjn t htN
          have hy0:yv≠0:=by rw [hyv]; exact (zjm N' t HTT.out).2
          rw [<-hxv] at x1;rw [<-hyv] at y1
          have HXV:=hid hxv
          have HYV:=hid hyv
          clear hxv hyv
          have ht0:(0:Int)<=(t:Int):=by omega
          have htN':(t:Int)<(N':Int):=by omega
          go_upto_region 23 with fail
          refine wp_region_held_drew (S:=fun X=>X.cell? ⟨lt,i,none⟩=some (.slice (some ⟨ib,io,none⟩) N' id)/\X.cell? ⟨lt,j,none⟩=some (.slice (some ⟨rb,ro,none⟩) N' rd)/\X.cell? ⟨ib,io+t,none⟩=some (.int .i64 (xv:Nat))/\X.cell? ⟨rb,ro+t,none⟩=some (.int .i64 (yv:Nat))) (by kernel_rfl) ⟨cellS (Below.refl _ _).drew x0,cellS (Below.refl _ _).drew y0,cellS (Below.refl _ _).drew x1,cellS (Below.refl _ _).drew y1⟩ (fun hHeld=>?_)
          obtain ⟨w14,hw⟩:∃ W,W=World.drew w13:=⟨_,rfl⟩
          have kb:Below w13.heap.size w13 w14:=by rw [hw]; exact (Below.refl _ _).drew
          rw [<-hw] at hHeld ⊢;clear hw
          have HX:Hid (∀ X,Below w14.heap.size w14 X->X.cell? ⟨lt,i,none⟩=some (.slice (some ⟨ib,io,none⟩) N' id)/\X.cell? ⟨lt,j,none⟩=some (.slice (some ⟨rb,ro,none⟩) N' rd)/\X.cell? ⟨ib,io+t,none⟩=some (.int .i64 (xv:Nat))/\X.cell? ⟨rb,ro+t,none⟩=some (.int .i64 (yv:Nat))):=hid fun X hx=>⟨cellS hx (cellS kb x0),cellS hx (cellS kb y0),cellS hx (cellS kb x1),cellS hx (cellS kb y1)⟩
          have HTB3:=hid (HTB2.out.on kb)
          replace K7:=hid (onS K7.out kb)
          have hbase3:lt+1<=w14.heap.size:=Nat.le_trans hbase2 kb.size
          clear kb x0 y0 x1 y1 HTB2 hbase2
          refine tkq 0 (h:=tkq 1 (h:=tkq 2 (h:=tkq 3 (h:=tkq 4 (h:=tkq 5 (h:=tkq 6 (h:=tkq 7 (h:=tkq 8 (h:=tkq 9 (h:=tkq 10 (h:=tkq 11 (h:=tkq 12 (h:=tkq 13 (h:=tkq 14 (h:=?_)))))))))))))))
          clear hHeld
          refine rdq 15 (h:=fun K hK=>?_)
          go_simp
          go_wp2_with fail
          refine (zhy xv yv (HG.out.at K7.out K7.out.size) hxq hyq hy0).mono ?_
          rintro e w15 ⟨kb,av,rfl,haq,hav⟩
          refine bkq hK (HX.out _ kb) (h:=fun hHeld=>?_)
          clear hK K
          refine tkq 16 (h:=tkq 17 (h:=tkq 18 (h:=tkq 19 (h:=tkq 20 (h:=?_)))))
          refine wpAnyH_done (by kernel_rfl) ?_ _
          clear hHeld;replace HTB3:=hid (HTB3.out.on kb)
          have x0:=(HX.out _ kb).1
          replace K7:=hid (onS K7.out kb);replace hbase3:=Nat.le_trans hbase3 kb.size
          have HAV:Hid (mulF P' M' (fun i=>(f i).toNat) av (R j t)=R i t):=hid (by rw [<-HXV.out,<-HYV.out]; exact hav)
          clear HX kb hav HXV HYV hxq hyq hy0 ht0 htN' hne
          obtain ⟨gQ,hgQ⟩:∃ x,x=gk:=⟨_,rfl⟩
          subst hgQ
          have hHI:Hid (i<n):=hid hin
          have hHJ:Hid (j<n):=hid hjn
          obtain ⟨R1,hR1⟩:∃ R1:Nat->Nat->Nat,R1=fun u kk=>if u=i then addF P' M' (R i kk) (negF P' M' (mulF P' M' (fun i=>(f i).toNat) av (R j kk))) else R u kk:=⟨_,rfl⟩
          have HR1I:Hid (∀ kk,R1 i kk=addF P' M' (R i kk) (negF P' M' (mulF P' M' (fun i=>(f i).toNat) av (R j kk)))):=hid fun kk=>by rw [hR1]; exact if_pos rfl
          have HR1N:Hid (∀ u,u≠i->R1 u=R u):=hid fun u hu=>by rw [hR1]; funext kk; exact if_neg hu
          clear hR1
          have HT4:Hid (IntTab w15 lt (lt+1) n F (fun _=>N') (fun u kk=>(((if u=i/\kk<0 then R1 i kk else R u kk):Nat):Int))):=hid (HTB3.out.congr (fun _ _=>rfl) fun v _ kk _=>by rw [if_neg (fun h=>absurd h.2 (by omega))])
          go_upto_region 25 with fail
          clear x0 HTB3
          go_loopg [102] N' (fun gg kv wx=>∃ kk:Nat,kv=.int .i64 (kk:Nat)/\kk<=N'/\N'<=kk+gg/\Hid (IntTab wx lt (lt+1) n F (fun _=>N') (fun u x=>(((if u=i/\x<kk then R1 i x else R u x):Nat):Int)))/\lt+1<=wx.heap.size/\Below w3.heap.size w3 wx)
          case atStart=>exact ⟨0,rfl,by omega,by omega,HT4,hbase3,K7.out⟩
          case round =>
           clear HT4 K7 hbase3
           obtain ⟨kk,rfl,hk,hkg,HTB,hbase,hBx⟩:=hrel
           have hk0:(0:Int)<=(kk:Int):=by omega
           have K7:=hid hBx
           obtain ⟨w16,hw16⟩:∃ X,X=wr:=⟨_,rfl⟩
           subst hw16
           clear hBx
           by_cases hkN:kk<N'
           ·have hkN':(kk:Int)<(N':Int):=by omega
            have x0:=HTB.out.row.cell hHI.out
            rw [HFI.out] at x0
            have y0:=HTB.out.row.cell hHJ.out
            rw [HFJ.out] at y0
            have hoi:=HTB.out.own i hHI.out
            rw [HFI.out] at hoi
            have hoj:=HTB.out.own j hHJ.out
            rw [HFJ.out] at hoj
            have x1:=(show IntsR w16 w16.heap.size (some ⟨ib,io,none⟩) N' (fun x=>(((if i=i/\x<kk then R1 i x else R i x):Nat):Int)) from hoi.rd rfl).here hkN
            have y1:=(show IntsR w16 w16.heap.size (some ⟨rb,ro,none⟩) N' (fun x=>(((if j=i/\x<kk then R1 i x else R j x):Nat):Int)) from hoj.rd rfl).here hkN
            rw [if_neg (fun h=>absurd h.2 (by omega))] at x1
            rw [if_neg (fun h=>absurd h.1 (by omega))] at y1
            have hibb:lt+1<=ib:=(hoi.lt ib rfl).1
            have HZF:Hid (∀ X,Below w16.heap.size w16 X->X.frozen? ⟨ib,io+kk,none⟩=false):=hid fun X hx=>(hoi.on hx).frozen _
            have hne:ib≠rb:=fun e=>by
             rcases HTB.out.apart i j hHI.out hHJ.out (by omega) with h1 | h1
             ·rw [HFI.out] at h1; cases h1
             ·rw [HFI.out,HFJ.out,e] at h1; exact h1 rfl
            have HNE:Hid (lt≠ib/\rb≠ib):=hid ⟨by omega,fun e=>hne e.symm⟩
            have HIBG:Hid (w3.heap.size<=ib):=hid (by have:=HLT5.out; omega)
            clear hoi hoj hne hibb
            obtain ⟨xv,hxv⟩:∃ x,x=R i kk:=⟨_,rfl⟩
            obtain ⟨yv,hyv⟩:∃ x,x=R j kk:=⟨_,rfl⟩
            have hxq:xv<P' ^ M':=by rw [hxv]; exact HSF.out.lt i hHI.out kk hkN
            have hyq:yv<P' ^ M':=by rw [hyv]; exact HSF.out.lt j hHJ.out kk hkN
            have hzv:=HR1I.out kk
            rw [<-hxv] at x1 hzv;rw [<-hyv] at y1 hzv
            obtain ⟨mv,hmv⟩:∃ x,x=mulF P' M' (fun i=>(f i).toNat) av yv:=⟨_,rfl⟩
            have hmq:mv<P' ^ M':=by rw [hmv]; exact HL.out.mulLt _ _
            rw [<-hmv] at hzv
            obtain ⟨zv,hzvd⟩:∃ x,x=addF P' M' xv (negF P' M' mv):=⟨_,rfl⟩
            rw [<-hzvd] at hzv
            have HIX:=hid (zak hxq)
            have HIY:=hid (zak hyq)
            have HIA:=hid (zak haq)
            have HIM:=hid (zak hmq)
            have HMV:=hid hmv
            have HZV:=hid hzvd
            have HZ1:=hid hzv
            clear hxv hyv hmv hzvd hzv hxq hyq hmq
            have HSS:Hid (∀ X,Below w16.heap.size w16 X->(X.cell? ⟨lt,i,none⟩=some (.slice (some ⟨ib,io,none⟩) N' id)/\X.cell? ⟨lt,j,none⟩=some (.slice (some ⟨rb,ro,none⟩) N' rd)/\X.cell? ⟨rb,ro+kk,none⟩=some (.int .i64 (yv:Nat)))):=hid fun X hx=>⟨cellS hx x0,cellS hx y0,cellS hx y1⟩
            have HX1:Hid (∀ X,Below w16.heap.size w16 X->X.cell? ⟨ib,io+kk,none⟩=some (.int .i64 (xv:Nat))):=hid fun X hx=>cellS hx x1
            clear x0 y0 x1 y1
            go_upto_region 27 with fail
            refine wp_region_held_drew (S:=fun X=>X.cell? ⟨lt,i,none⟩=some (.slice (some ⟨ib,io,none⟩) N' id)/\X.cell? ⟨lt,j,none⟩=some (.slice (some ⟨rb,ro,none⟩) N' rd)/\X.cell? ⟨rb,ro+kk,none⟩=some (.int .i64 (yv:Nat))) (by kernel_rfl) (HSS.out _ (Below.refl _ _).drew) (fun hHeld=>?_)
            obtain ⟨w17,hw⟩:∃ W,W=World.drew w16:=⟨_,rfl⟩
            have kb:Below w16.heap.size w16 w17:=by rw [hw]; exact (Below.refl _ _).drew
            rw [<-hw] at hHeld ⊢;clear hw
            have K8:=hid kb
            clear kb
            refine tkq 0 (h:=tkq 1 (h:=tkq 2 (h:=tkq 3 (h:=tkq 4 (h:=tkq 5 (h:=tkq 6 (h:=tkq 7 (h:=tkq 8 (h:=tkq 9 (h:=tkq 10 (h:=tkq 11 (h:=tkq 13 (h:=tkq 14 (h:=tkq 15 (h:=tkq 16 (h:=tkq 17 (h:=tkq 18 (h:=tkq 19 (h:=tkq 20 (h:=tkq 21 (h:=?_)))))))))))))))))))))
            clear hHeld
            refine rdq2 12 22 (h:=fun K hK=>?_) (h2:=fun K hK=>?_)
            focus
             have u0:=HX1.out _ K8.out
             go_simp
             clear u0
             refine bkq hK (HSS.out _ K8.out) (h:=fun hHeld=>?_)
             clear hK K hHeld
             refine rdq 22 (h:=fun K hK=>?_)
             go_simp
             go_wp2_with fail
             refine (zaM (av:Int) (yv:Int) (HG.out.at (onS K7.out K8.out) (onS K7.out K8.out).size)).mono ?_
             rintro e w18 ⟨rfl,kb⟩
             rw [HIA.out,HIY.out,<-HMV.out]
             have K9:=hid (onS K8.out kb)
             clear kb
             refine bkq hK (HSS.out _ K9.out) (h:=fun hHeld=>?_)
             clear hK K hHeld K8
            rotate_left
            focus
             go_simp
             go_wp2_with fail
             refine (zaM (av:Int) (yv:Int) (HG.out.at (onS K7.out K8.out) (onS K7.out K8.out).size)).mono ?_
             rintro e w18 ⟨rfl,kb⟩
             rw [HIA.out,HIY.out,<-HMV.out]
             have K9:=hid (onS K8.out kb)
             clear kb
             refine bkq hK (HSS.out _ K9.out) (h:=fun hHeld=>?_)
             clear hK K hHeld
             refine rdq 12 (h:=fun K hK=>?_)
             have u0:=HX1.out _ K9.out
             go_simp
             clear u0
             refine bkq hK (HSS.out _ K9.out) (h:=fun hHeld=>?_)
             clear hK K hHeld K8
            all_goals
             refine rdq 23 (h:=fun K hK=>?_)
             go_simp
             go_wp2_with fail
             refine (zeO (xv:Int) (mv:Int) (HG.out.at (onS K7.out K9.out) (onS K7.out K9.out).size)).mono ?_
             rintro e w19 ⟨rfl,kb⟩
             rw [HIX.out,HIM.out,<-HZV.out]
             have K10:=hid (onS K9.out kb)
             clear kb K9
             refine bkq hK (HSS.out _ K10.out) (h:=fun hHeld=>?_)
             clear hK K
             refine tkq 24 (h:=?_)
             clear hHeld
             refine rdq 25 (h:=fun K hK=>?_)
             have u0:=HX1.out _ K10.out
             have zf:=HZF.out _ K10.out
             go_simp
             clear u0 zf
             have hn:=((HTB.out.on K10.out).set (v:=i) (k:=kk) (by omega) hHI.out hkN HFI.out (y:=((zv:Nat):Int))).congr (x':=fun u x=>(((if u=i/\x<kk+1 then R1 i x else R u x):Nat):Int)) (fun _ _=>rfl) fun v _ x _=>by
              by_cases e1:v=i/\x=kk
              ·rw [e1.1,e1.2,zje,if_pos ⟨rfl,by omega⟩,HZ1.out]
              ·rw [zgG e1]
               have h1:(v=i/\x<kk)↔(v=i/\x<kk+1):=by omega
               simp only [h1]
             have kb:=(onS K7.out K10.out).setCell (p:=⟨ib,io+kk,none⟩) HIBG.out (.int .i64 (zv:Nat))
             obtain ⟨a1,a2,a3⟩:=HSS.out _ K10.out
             obtain ⟨n1,n2⟩:=HNE.out
             replace a1:=zaa (p:=⟨ib,io+kk,none⟩) (u:=.int .i64 (zv:Nat)) a1 n1;replace a2:=zaa (p:=⟨ib,io+kk,none⟩) (u:=.int .i64 (zv:Nat)) a2 n1;replace a3:=zaa (p:=⟨ib,io+kk,none⟩) (u:=.int .i64 (zv:Nat)) a3 n2
             obtain ⟨w20,hw⟩:∃ W,W=w19.setCell ⟨ib,io+kk,none⟩ (.int .i64 (zv:Nat)):=⟨_,rfl⟩
             rw [<-hw] at hn kb a1 a2 a3 ⊢
             have hbase20:lt+1<=w20.heap.size:=by rw [hw]; exact Nat.le_trans hbase (by rw [World.size_setCell]; exact K10.out.size)
             have HN:=hid hn
             have K14:=hid kb
             clear hn kb hw n1 n2
             refine bkq hK ⟨a1,a2,a3⟩ (h:=fun hHeld=>?_)
             clear hK K a1 a2 a3
             refine wpAnyH_done (by kernel_rfl) ?_ _
             clear hHeld
             go_wp2
             go_roundg (gk - 1)
             case measure=>omega
             case rel=>exact ⟨kk+1,by go_num,by omega,by omega,HN,hbase20,K14.out⟩
           ·have hkN':¬ (kk:Int)<(N':Int):=by omega
            obtain rfl:kk=N':=by omega
            obtain ⟨s1,s2,s3⟩:=HSF.out.step HL.out HNG.out hij hHJ.out HLI.out HTT.out haq HAV.out (fun kk _=>HR1I.out kk) HR1N.out
            have HSF1:=hid s1
            have HSP1:Hid (SameSp (P' ^ M') (addF P' M') (mulF P' M' fun i=>(f i).toNat) kk n n (natT V) R1):=hid fun x=>(HSP.out x).trans (s2 x)
            have HMS:Hid (mesL R1 kk n<m0):=hid (Nat.lt_of_lt_of_le (zhX HR1N.out (by rw [HLI.out]; exact s3) n hHI.out) hmx.out)
            have HTT1:Hid (lE (R1 j) kk=(t:Int)):=hid (by rw [HR1N.out j (by omega)]; exact HTT.out)
            have HT5:Hid (IntTab w16 lt (lt+1) n F (fun _=>kk) (fun u x=>((R1 u x:Nat):Int))):=hid (HTB.out.congr (fun _ _=>rfl) fun v _ x hx=>by
             by_cases e:v=i
             ·rw [e,if_pos ⟨rfl,hx⟩]
             ·rw [if_neg (fun h=>e h.1),HR1N.out v e])
            clear s1 s2 s3
            go_wp2
            go_roundg (gQ - 1)
            case measure=>omega
            case rel=>exact ⟨true,i+1,R1,rfl,by go_num,by omega,by omega,.inl ⟨rfl,HMS.out⟩,HTT1,HSF1,HSP1,HT5,hbase,K7.out⟩
        ·have hij':¬ (i:Int)<(j:Int):=by omega
         obtain rfl:i=j:=by omega
         have HCH2:Hid ((ch=true/\mesL R N' n<m0)∨(ch=false/\mesL R N' n<=m0/\∀ i1 j',i1<j'->j'<i+1->lE (R i1) N'≠lE (R j') N')):=hid (by
          rcases HCH.out with h | ⟨h1,h2,h3,h4⟩
          ·exact .inl h
          ·exact .inr ⟨h1,h2,fun i1 j' h5 h6=>by
            by_cases e:j'=i
            ·rw [e,HTT.out]; exact h4 i1 (by omega)
            ·exact h3 i1 j' h5 (by omega)⟩)
         go_wp2
         go_roundg (gP - 1)
         case measure=>omega
         case rel=>exact ⟨ch,i+1,R,rfl,by go_num,by omega,by omega,HCH2,HSF,HSP,HTB,hbase,K7.out⟩
      ·have hjn':¬ (j:Int)<(n:Int):=by omega
       obtain rfl:j=n:=by omega
       have HCH2:Hid ((ch=true/\mesL R N' j<gO - 1)∨(ch=false/\∀ i j',i<j'->j'<j->lE (R i) N'≠lE (R j') N')):=hid (by
        rcases HCH.out with ⟨h,h2⟩ | ⟨h1,h2,h3⟩
        ·exact .inl ⟨h,by omega⟩
        ·exact .inr ⟨h1,h3⟩)
       go_wp2
       go_roundg (gO - 1)
       case measure=>omega
       case rel=>exact ⟨ch,R,rfl,HCH2,HSF,HSP,HTB,hbase,K7.out⟩
theorem ziD (q k:Nat) (w:World) (hq:2<=q) (hq2:q<=1048576) (hk:k<=1048576) :
  Calls Tryz.prog 148 #[.int .i64 (q:Nat),.int .i64 (k:Nat),.int .i64 0] w (ExpNPost q k 0 w):=by
 have hp:Hid (0<q ^ k):=hid (Nat.pow_pos (by omega))
 have c1:¬ ((q:Int)<0):=by omega
 have c2:¬ ((k:Int)<0):=by omega
 have c3:¬ ((0:Int)<0):=by omega
 have c4:((q:Int) == 0)=false:=by simp; omega
 have c5:((0:Int) == 0)=true:=by simp
 go_enter Tryz.func148, Tryz.ntmps148
 go_wp2
 go_ret2
 exact ⟨.inr ⟨hp.out,rfl⟩,Below.refl _ _⟩
theorem zd2 (q k most:Nat) (w:World) (hq:2<=q) (hq2:q<=1048576) (hk:k<=1048576) (hm2:most<=1048576) :
  Calls Tryz.prog 148 #[.int .i64 (q:Nat),.int .i64 (k:Nat),.int .i64 (most:Nat)] w (ExpNPost q k most w):=by
 by_cases h:most=0
 ·subst h
  exact ziD q k w hq hq2 hk
 ·exact zi9 q k most w hq hq2 hk (by omega) hm2
theorem zbh (D:Nat->Bool) (n:Nat):cntB D (n+1)=cntB D n+if D n then 1 else 0:=rfl
theorem ziE (q n N:Nat) (pv:Nat->Nat) (R:Nat->Nat->Nat) (T:Option Addr) (d:Nat) (w:World) (h:IntRows w T n (fun _=>N) (fun s j=>((R s j:Nat):Int))) (hS:SpanF q n N pv R) (hq:2<=q) (hq2:q<=256) (hn:n<=64) (hN:N<=64) :
  Calls Tryz.prog 75 #[.int .i64 (q:Nat),.int .i64 (N:Nat),.slice T n d] w fun e w'=>((SizeIn q n N pv R/\e=.returned (.int .i64 0))∨(¬ SizeIn q n N pv R/\e=.returned (.int .i64 8)))/\Below w.heap.size w w':=by
 have HR:=hid h
 have HS:=hid hS
 clear h hS
 obtain ⟨dA,hdA⟩:∃ dA:Nat->Nat,dA=fun i=>cntB (actA pv R N i) n:=⟨_,rfl⟩
 obtain ⟨dE,hdE⟩:∃ dE:Nat->Nat,dE=fun i=>cntB (actE pv R N i) n:=⟨_,rfl⟩
 have HDA:=hid hdA
 have HDE:=hid hdE
 have hin0:dA 0=0:=by rw [hdA]; exact zbS zes n
 have HSZ:Hid (SizeIn q n N pv R↔powS q dA (N+1)<=65536/\powS q dE N<=262144):=hid (by rw [hdA,hdE]; exact Iff.rfl)
 have HA0:=hid hin0
 clear hdA hdE hin0
 go_enter Tryz.func75, Tryz.ntmps75
 go_upto_region 3 with fail
 go_loopg [7,8,21] N (fun gg nv ev iv wx=>∃ i nd ed:Nat,iv=.int .i64 (i:Nat)/\nv=.int .i64 (nd:Nat)/\ev=.int .i64 (ed:Nat)/\i<=N/\N<=i+gg/\Hid (nd=powS q dA (i+1))/\Hid (ed=powS q dE i)/\nd<=65536/\ed<=262144/\Below w.heap.size w wx)
 case atStart=>exact ⟨0,1,0,rfl,rfl,rfl,by omega,by omega,hid (by show 1=0+q ^ dA 0; rw [HA0.out]; simp),hid rfl,by omega,by omega,Below.refl _ _⟩
 case round =>
  obtain ⟨i,nd,ed,rfl,rfl,rfl,hi,hig,HND,HED,hnd,hed,hBx⟩:=hrel
  have hi0:(0:Int)<=(i:Int):=by omega
  have HB:=hid hBx
  obtain ⟨w3,hw3⟩:∃ X,X=wr:=⟨_,rfl⟩
  subst hw3
  clear hBx
  by_cases hlt:i<N
  ·have hlt' : (i : Int) < (N : Int) := by omega
   obtain ⟨gO,hgO⟩:∃ x,x=gk:=⟨_,rfl⟩
   subst hgO
   go_upto_region 7 with fail
   go_loopg [10,11,26] n (fun gg av bv sv wx=>∃ s a b:Nat,sv=.int .i64 (s:Nat)/\av=.int .i64 (a:Nat)/\bv=.int .i64 (b:Nat)/\s<=n/\n<=s+gg/\Hid (a=cntB (actA pv R N (i+1)) s)/\Hid (b=cntB (actE pv R N i) s)/\a<=s/\b<=s/\Below w.heap.size w wx)
   case atStart=>exact ⟨0,0,0,rfl,rfl,rfl,by omega,by omega,hid rfl,hid rfl,by omega,by omega,HB.out⟩
   case round =>
    clear HB
    obtain ⟨s,a,b,rfl,rfl,rfl,hs,hsg,HA,HE,has,hbs,hBx⟩:=hrel
    have hs0:(0:Int)<=(s:Int):=by omega
    have HB:=hid hBx
    obtain ⟨w4,hw4⟩:∃ X,X=wr:=⟨_,rfl⟩
    subst hw4
    clear hBx
    by_cases hsn:s<n
    ·have hsn':(s:Int)<(n:Int):=by omega
     obtain ⟨b1,o1,RA,rc,hTe,hb1,x0,h1,h2,h3,h4⟩:=HR.out s hsn
     subst hTe
     replace x0:=cellS HB.out x0
     have HROW:=hid h3
     clear h3 h4 h1 h2 hb1
     go_wp2_with fail
     clear x0
     refine (zdA RA N rc (R s) w4 (HROW.out.on HB.out) (by omega)).mono ?_
     rintro e w5 ⟨rfl,kb⟩
     replace HB:=hid (onS HB.out kb);clear kb;rw [HS.out.first hsn]
     have hpos:=HS.out.pos hsn
     have hA1:actA pv R N (i+1) s=true↔(pv s<=i/\(i:Int)<lE (R s) N):=by rw [zaQ]; omega
     have hE1:actE pv R N i s=true↔(pv s<=i/\(i:Int)<=lE (R s) N):=zbu i s
     obtain ⟨p,hp⟩:∃ p,p=pv s:=⟨_,rfl⟩
     obtain ⟨l,hl⟩:∃ l,l=lE (R s) N:=⟨_,rfl⟩
     rw [<-hp,<-hl] at hpos hA1 hE1 ⊢;clear hp hl
     by_cases g1:p<=i
     ·have g1':(p:Int)<=(i:Int):=by omega
      have g1d:decide ((p:Int)<=(i:Int))=true:=by simp; omega
      by_cases g2:(i:Int)<l
      ·have g3:(i:Int)<=l:=by omega
       have g2d:decide ((i:Int)<l)=true:=by simp; omega
       have g3d:decide ((i:Int)<=l)=true:=by simp; omega
       have HA2:Hid (a+1=cntB (actA pv R N (i+1)) (s+1)):=hid (by rw [zbh,hA1.2 ⟨g1,g2⟩,<-HA.out]; rfl)
       have HE2:Hid (b+1=cntB (actE pv R N i) (s+1)):=hid (by rw [zbh,hE1.2 ⟨g1,g3⟩,<-HE.out]; rfl)
       clear hA1 hE1
       go_wp2
       go_roundg (gk - 1)
       case measure=>omega
       case rel=>exact ⟨s+1,a+1,b+1,by go_num,by go_num,by go_num,by omega,by omega,HA2,HE2,by omega,by omega,HB.out⟩
      ·have g2d:decide ((i:Int)<l)=false:=by simp; omega
       have hA0:actA pv R N (i+1) s=false:=by
        cases hb:actA pv R N (i+1) s with
        | false=>rfl
        | true=>exact absurd (hA1.1 hb).2 g2
       have HA2:Hid (a=cntB (actA pv R N (i+1)) (s+1)):=hid (by rw [zbh,hA0,<-HA.out]; rfl)
       by_cases g3:(i:Int)<=l
       ·have g3d:decide ((i:Int)<=l)=true:=by simp; omega
        have HE2:Hid (b+1=cntB (actE pv R N i) (s+1)):=hid (by rw [zbh,hE1.2 ⟨g1,g3⟩,<-HE.out]; rfl)
        clear hA1 hE1 hA0
        go_wp2
        go_roundg (gk - 1)
        case measure=>omega
        case rel=>exact ⟨s+1,a,b+1,by go_num,rfl,by go_num,by omega,by omega,HA2,HE2,by omega,by omega,HB.out⟩
       ·have g3d:decide ((i:Int)<=l)=false:=by simp; omega
        have hE0:actE pv R N i s=false:=by
         cases hb:actE pv R N i s with
         | false=>rfl
         | true=>exact absurd (hE1.1 hb).2 g3
        have HE2:Hid (b=cntB (actE pv R N i) (s+1)):=hid (by rw [zbh,hE0,<-HE.out]; rfl)
        clear hA1 hE1 hA0 hE0
        go_wp2
        go_roundg (gk - 1)
        case measure=>omega
        case rel=>exact ⟨s+1,a,b,by go_num,rfl,rfl,by omega,by omega,HA2,HE2,by omega,by omega,HB.out⟩
     ·have g1':¬ (p:Int)<=(i:Int):=by omega
      have g1d:decide ((p:Int)<=(i:Int))=false:=by simp; omega
      have hA0:actA pv R N (i+1) s=false:=by
       cases hb:actA pv R N (i+1) s with
       | false=>rfl
       | true=>exact absurd (hA1.1 hb).1 g1
      have HA2:Hid (a=cntB (actA pv R N (i+1)) (s+1)):=hid (by rw [zbh,hA0,<-HA.out]; rfl)
      have hE0:actE pv R N i s=false:=by
       cases hb:actE pv R N i s with
       | false=>rfl
       | true=>exact absurd (hE1.1 hb).1 g1
      have HE2:Hid (b=cntB (actE pv R N i) (s+1)):=hid (by rw [zbh,hE0,<-HE.out]; rfl)
      clear hA1 hE1 hA0 hE0
      go_wp2
      go_roundg (gk - 1)
      case measure=>omega
      case rel=>exact ⟨s+1,a,b,by go_num,rfl,rfl,by omega,by omega,HA2,HE2,by omega,by omega,HB.out⟩
    ·have hsn':¬ (s:Int)<(n:Int):=by omega
     obtain rfl:s=n:=by omega
     obtain ⟨mo,hmo⟩:∃ mo:Nat,mo=65536 - nd:=⟨_,rfl⟩
     have m1:wrap64 ((65536:Int) - (nd:Int))=(mo:Int):=by unfold wrap64; omega
     have m2:IntKind.i64.wrap ((65536:Int) - (nd:Int))=(mo:Int):=by rw [IntWalk.i64_in _ (by omega)]; omega
     obtain ⟨me,hme⟩:∃ me:Nat,me=262144 - ed:=⟨_,rfl⟩
     have m3:wrap64 ((262144:Int) - (ed:Int))=(me:Int):=by unfold wrap64; omega
     have m4:IntKind.i64.wrap ((262144:Int) - (ed:Int))=(me:Int):=by rw [IntWalk.i64_in _ (by omega)]; omega
     have HMO:=hid hmo
     have HME:=hid hme
     have hmo2:mo<=65536:=by omega
     have hme2:me<=262144:=by omega
     have HA2:Hid (a=dA (i+1)):=hid (by rw [HDA.out]; exact HA.out)
     have HE2:Hid (b=dE i):=hid (by rw [HDE.out]; exact HE.out)
     clear hmo hme HA HE
     go_wp2_with fail
     refine (zd2 q a mo w4 hq (by omega) (by omega) (by omega)).mono ?_
     rintro e w5 ⟨hx,kb⟩
     have hxf:∃ x1 e1:Int,e=.returned (.tuple #[.int .i64 x1,.int .i64 e1])/\((q ^ a<=mo/\x1=(q ^ a:Nat)/\e1=0)∨(mo<q ^ a/\e1=8)):=by
      rcases hx with ⟨h1,h2⟩ | ⟨h1,h2⟩
      ·exact ⟨_,_,h2,.inl ⟨h1,rfl,rfl⟩⟩
      ·exact ⟨_,_,h2,.inr ⟨h1,rfl⟩⟩
     obtain ⟨x1,e1,rfl,hx1⟩:=hxf
     have HX:=hid hx1
     replace HB:=hid (onS HB.out kb);clear hx hx1 kb
     go_wp2_with fail
     refine (zd2 q b me w5 hq (by omega) (by omega) (by omega)).mono ?_
     rintro e w6 ⟨hy,kb⟩
     have hyf:∃ y1 f1:Int,e=.returned (.tuple #[.int .i64 y1,.int .i64 f1])/\((q ^ b<=me/\y1=(q ^ b:Nat)/\f1=0)∨(me<q ^ b/\f1=8)):=by
      rcases hy with ⟨h1,h2⟩ | ⟨h1,h2⟩
      ·exact ⟨_,_,h2,.inl ⟨h1,rfl,rfl⟩⟩
      ·exact ⟨_,_,h2,.inr ⟨h1,rfl⟩⟩
     obtain ⟨y1,f1,rfl,hy1⟩:=hyf
     have HY:=hid hy1
     replace HB:=hid (onS HB.out kb);clear hy hy1 kb m1 m2 m3 m4
     have eA:powS q dA (i+2)=powS q dA (i+1)+q ^ dA (i+1):=rfl
     have eE:powS q dE (i+1)=powS q dE i+q ^ dE i:=rfl
     have mA:powS q dA (i+2)<=powS q dA (N+1):=by
      have:=zct (q:=q) (d:=dA) (i+2) (N+1 - (i+2))
      rwa [show i+2+(N+1 - (i+2))=N+1 by omega] at this
     have mE:powS q dE (i+1)<=powS q dE N:=by
      have:=zct (q:=q) (d:=dE) (i+1) (N - (i+1))
      rwa [show i+1+(N - (i+1))=N by omega] at this
     have b1:=HND.out
     have b2:=HED.out
     have b3:=HA2.out
     have b4:=HE2.out
     have b5:=HMO.out
     have b6:=HME.out
     rcases HX.out with ⟨x2,rfl,rfl⟩ | ⟨x2,rfl⟩
     ·have hz:((0:Int) != 0)=false:=by simp
      rcases HY.out with ⟨y2,rfl,rfl⟩ | ⟨y2,rfl⟩
      ·obtain ⟨qa,hqa⟩:∃ qa,qa=q ^ a:=⟨_,rfl⟩
       obtain ⟨qb,hqb⟩:∃ qb,qb=q ^ b:=⟨_,rfl⟩
       have HN2:Hid (nd+qa=powS q dA (i+1+1)):=hid (by rw [hqa,b3,b1,<-b3]; rw [show i+1+1=i+2 by omega,eA,b3])
       have HE3:Hid (ed+qb=powS q dE (i+1)):=hid (by rw [hqb,b4,b2]; exact eE.symm)
       rw [<-hqa] at x2;rw [<-hqb] at y2;rw [<-hqa,<-hqb];clear hqa hqb HX HY b1 b2 b3 b4 eA eE mA mE
       go_wp2
       go_roundg (gO - 1)
       case measure=>omega
       case rel=>exact ⟨i+1,nd+qa,ed+qb,by go_num,by go_num,by go_num,by omega,by omega,HN2,HE3,by omega,by omega,HB.out⟩
      ·have hz2:((8:Int) != 0)=true:=by simp
       have HNO:Hid (¬ SizeIn q s N pv R):=hid fun g=>by
        have:=(HSZ.out.1 g).2
        rw [b4] at y2
        omega
       clear HX HY b1 b2 b3 b4 eA eE mA mE
       go_wp2
       go_ret
       exact ⟨.inr ⟨HNO.out,rfl⟩,HB.out⟩
     ·have hz2:((8:Int) != 0)=true:=by simp
      have HNO:Hid (¬ SizeIn q s N pv R):=hid fun g=>by
       have:=(HSZ.out.1 g).1
       rw [b3] at x2
       omega
      clear HX HY b1 b2 b3 b4 eA eE mA mE
      go_wp2
      go_ret
      exact ⟨.inr ⟨HNO.out,rfl⟩,HB.out⟩
  ·have hlt':¬ (i:Int)<(N:Int):=by omega
   obtain rfl:i=N:=by omega
   have HOK:Hid (SizeIn q n i pv R):=hid (HSZ.out.2 ⟨by have:=HND.out; omega,by have:=HED.out; omega⟩)
   go_wp2
   go_ret
   exact ⟨.inl ⟨HOK.out,rfl⟩,HB.out⟩
def stepE (q:Nat) (add mul:Nat->Nat->Nat) (pv:Nat->Nat) (R:Nat->Nat->Nat) (N i t:Nat) (e:Int × Int × Int) (a:Nat):Int × Int × Int :=
 (if pv t<i then e.1*(q:Nat)+(a:Nat) else e.1,((add e.2.1.toNat (mul a (R t i)):Nat):Int),if (i:Int)<lE (R t) N then e.2.2*(q:Nat)+(a:Nat) else e.2.2)
def SecX (q:Nat) (add mul:Nat->Nat->Nat) (pv:Nat->Nat) (R:Nat->Nat->Nat) (N i t:Nat) (x:Nat->Int × Int × Int):Prop :=
 ∀ c:Nat->Nat,(∀ s,c s<q)->x (packB q (actE pv R N i) c t)=secE q add mul pv R N t i c
structure SecM (q:Nat) (add mul:Nat->Nat->Nat) (n N:Nat) (pv:Nat->Nat) (R:Nat->Nat->Nat) (i m:Nat) (y:Nat->Int × Int × Int):Prop where
 el:m=q ^ cntB (actE pv R N i) n
 out:∀ c:Nat->Nat,(∀ s,c s<q)->∃ j,j<m/\y j=secE q add mul pv R N n i c
 inn:∀ j,j<m->∃ c:Nat->Nat,(∀ s,c s<q)/\y j=secE q add mul pv R N n i c
 srt:∀ a b,a<b->b<m->ltE (y a) (y b)
section
variable {q n N:Nat} {add mul:Nat->Nat->Nat} {pv:Nat->Nat} {R:Nat->Nat->Nat} {i:Nat}
theorem zhA:SecX q add mul pv R N i 0 (fun _=>(0,0,0)):=fun _ _=>rfl
theorem zhB (hL:FieldLaws q add mul) (h:SpanF q n N pv R) (hi:i<N) {t:Nat} (ht:t<n) {x:Nat->Int × Int × Int} (hA:actE pv R N i t=false) (hx:SecX q add mul pv R N i t x):SecX q add mul pv R N i (t+1) x:=by
 have hR:R t i=0:=by
  by_cases g1:pv t<=i
  ·by_cases g2:(i:Int)<=lE (R t) N
   ·rw [(zbu i t).2 ⟨g1,g2⟩] at hA
    cases hA
   ·exact zb7 (n:=N) hi (by omega)
  ·exact h.low t ht i (by omega)
 have hn:¬ (pv t<=i/\(i:Int)<=lE (R t) N):=fun g=>by rw [(zbu i t).2 g] at hA; cases hA
 have h1:actA pv R N i t=false:=by
  cases hb:actA pv R N i t with
  | false=>rfl
  | true=>have:=(zaQ i t).1 hb; exact absurd ⟨by omega,this.2⟩ hn
 have h2:actA pv R N (i+1) t=false:=by
  cases hb:actA pv R N (i+1) t with
  | false=>rfl
  | true=>have:=(zaQ (i+1) t).1 hb; exact absurd ⟨by omega,by omega⟩ hn
 intro c hc
 have e0:packB q (actE pv R N i) c (t+1)=packB q (actE pv R N i) c t:=by
  show (if actE pv R N i t then packB q (actE pv R N i) c t*q+c t else packB q (actE pv R N i) c t)=_
  rw [hA]; rfl
 have e1:packB q (actA pv R N i) c (t+1)=packB q (actA pv R N i) c t:=by
  show (if actA pv R N i t then packB q (actA pv R N i) c t*q+c t else packB q (actA pv R N i) c t)=_
  rw [h1]; rfl
 have e2:packB q (actA pv R N (i+1)) c (t+1)=packB q (actA pv R N (i+1)) c t:=by
  show (if actA pv R N (i+1) t then packB q (actA pv R N (i+1)) c t*q+c t else packB q (actA pv R N (i+1)) c t)=_
  rw [h2]; rfl
 have e3:spE add mul R c (t+1) i=spE add mul R c t i:=by
  show add (spE add mul R c t i) (mul (c t) (R t i))=_
  rw [hR,hL.mulZero (hc t),hL.addComm,hL.zeroAdd _ (zbb hL _ _ _)]
 rw [e0,hx c hc]
 unfold secE
 rw [e1,e2,e3]
theorem zhC {t:Nat} {x:Nat->Int × Int × Int} (hA:actE pv R N i t=true) (hx:SecX q add mul pv R N i t x):SecX q add mul pv R N i (t+1) (fun y=>stepE q add mul pv R N i t (x (y / q)) (y % q)):=by
 obtain ⟨g1,g2⟩:=(zbu i t).1 hA
 intro c hc
 have hq:0<q:=by have:=hc 0; omega
 have e0:packB q (actE pv R N i) c (t+1)=packB q (actE pv R N i) c t*q+c t:=by
  show (if actE pv R N i t then packB q (actE pv R N i) c t*q+c t else packB q (actE pv R N i) c t)=_
  rw [hA]; rfl
 have d1:(packB q (actE pv R N i) c t*q+c t) / q=packB q (actE pv R N i) c t:=by
  rw [Nat.mul_comm,Nat.mul_add_div hq,Nat.div_eq_of_lt (hc t),Nat.add_zero]
 have d2:(packB q (actE pv R N i) c t*q+c t) % q=c t:=by
  rw [Nat.mul_add_mod_self_right,Nat.mod_eq_of_lt (hc t)]
 show stepE q add mul pv R N i t (x (packB q (actE pv R N i) c (t+1) / q)) (packB q (actE pv R N i) c (t+1) % q)=_
 rw [e0,d1,d2,hx c hc]
 unfold stepE secE
 have e1:packB q (actA pv R N i) c (t+1)=if pv t<i then packB q (actA pv R N i) c t*q+c t else packB q (actA pv R N i) c t:=by
  show (if actA pv R N i t then packB q (actA pv R N i) c t*q+c t else packB q (actA pv R N i) c t)=_
  by_cases g:pv t<i
  ·rw [(zaQ i t).2 ⟨g,g2⟩,if_pos g]; rfl
  ·have:actA pv R N i t=false:=by
    cases hb:actA pv R N i t with
    | false=>rfl
    | true=>exact absurd ((zaQ i t).1 hb).1 g
   rw [this,if_neg g]; rfl
 have e2:packB q (actA pv R N (i+1)) c (t+1)=if (i:Int)<lE (R t) N then packB q (actA pv R N (i+1)) c t*q+c t else packB q (actA pv R N (i+1)) c t:=by
  show (if actA pv R N (i+1) t then packB q (actA pv R N (i+1)) c t*q+c t else packB q (actA pv R N (i+1)) c t)=_
  by_cases g:(i:Int)<lE (R t) N
  ·rw [(zaQ (i+1) t).2 ⟨by omega,by omega⟩,if_pos g]; rfl
  ·have:actA pv R N (i+1) t=false:=by
    cases hb:actA pv R N (i+1) t with
    | false=>rfl
    | true=>have:=((zaQ (i+1) t).1 hb).2; omega
   rw [this,if_neg g]; rfl
 rw [e1,e2]
 refine Prod.ext ?_ (Prod.ext ?_ ?_)
 ·show (if pv t<i then _ else _)=_
  split <;> push_cast <;> rfl
 ·show ((add ((spE add mul R c t i:Nat):Int).toNat (mul (c t) (R t i)):Nat):Int)=((add (spE add mul R c t i) (mul (c t) (R t i)):Nat):Int)
  rw [Int.toNat_natCast]
 ·show (if (i:Int)<lE (R t) N then _ else _)=_
  split <;> push_cast <;> rfl
theorem zjf (hL:FieldLaws q add mul) {t:Nat} {x:Nat->Int × Int × Int} (hx:SecX q add mul pv R N i t x) {y:Nat} (hy:y<q ^ cntB (actE pv R N i) t) :
  0<=(x y).1/\(x y).1<((q ^ cntB (actA pv R N i) t:Nat):Int)/\0<=(x y).2.1/\(x y).2.1<(q:Int)/\0<=(x y).2.2/\(x y).2.2<((q ^ cntB (actA pv R N (i+1)) t:Nat):Int):=by
 obtain ⟨c,h1,_,h3⟩:=zaN (by have:=hL.two; omega) t y hy
 have l1:=zbH (D:=actA pv R N i) t fun s _=>h1 s
 have l2:=zbH (D:=actA pv R N (i+1)) t fun s _=>h1 s
 have l3:=zbb hL (V:=R) c t i
 rw [<-h3,hx c h1]
 unfold secE
 refine ⟨by show (0:Int)<=((_:Nat):Int); omega,by show (((_:Nat):Int))<((_:Nat):Int); omega,by show (0:Int)<=((_:Nat):Int); omega,by show (((_:Nat):Int))<((_:Nat):Int); omega,by show (0:Int)<=((_:Nat):Int); omega,by show (((_:Nat):Int))<((_:Nat):Int); omega⟩
theorem zgI {D E:Nat->Bool} (h:∀ s,D s=true->E s=true):∀ t,cntB D t<=cntB E t
 | 0=>Nat.le_refl _
 | t+1=>by
  have ih:=zgI h t
  show cntB D t+(if D t then 1 else 0)<=cntB E t+if E t then 1 else 0
  cases hD:D t with
  | false=>cases E t <;> simp <;> omega
  | true=>rw [h t hD]; simp; omega
theorem zgJ (D:Nat->Bool):∀ t d,cntB D t<=cntB D (t+d)
 | _,0=>Nat.le_refl _
 | t,d+1=>by
  have:=zgJ D t d
  show cntB D t<=cntB D (t+d)+if D (t+d) then 1 else 0
  omega
theorem zjg (hL:FieldLaws q add mul) (h:SpanF q n N pv R) (hi:i<N) {x y:Nat->Int × Int × Int} (hx:SecX q add mul pv R N i n x)
  (hp:((List.range (q ^ cntB (actE pv R N i) n)).map y).Perm ((List.range (q ^ cntB (actE pv R N i) n)).map x)) (hs:∀ a b,a<b->b<q ^ cntB (actE pv R N i) n->¬ ltE (y b) (y a)) :
  SecM q add mul n N pv R i (q ^ cntB (actE pv R N i) n) y:=by
 have hq:0<q:=by have:=hL.two; omega
 have hinn:∀ j,j<q ^ cntB (actE pv R N i) n->∃ c:Nat->Nat,(∀ s,c s<q)/\x j=secE q add mul pv R N n i c:=fun j hj=>by
  obtain ⟨c,h1,_,h3⟩:=zaN hq n j hj
  exact ⟨c,h1,by rw [<-h3,hx c h1]⟩
 have hxi:((((List.range (q ^ cntB (actE pv R N i) n)).map x)).map fun t=>(t.1,t.2.1)).Nodup:=by
  rw [List.map_map]
  refine zaF.2 fun a b hab hb e=>?_
  obtain ⟨c,h1,_,h3⟩:=zaN hq (D:=actE pv R N i) n a (by omega)
  obtain ⟨c',h1',_,h3'⟩:=zaN hq (D:=actE pv R N i) n b hb
  simp only [Function.comp,Prod.mk.injEq] at e
  rw [<-h3,<-h3',hx c h1,hx c' h1'] at e
  have:=ziC (q:=q) (ziB hL h hi h1 h1' e.1 e.2)
  omega
 have hyi:=((hp.map fun t=>(t.1,t.2.1)).nodup_iff).2 hxi
 rw [List.map_map] at hyi
 refine ⟨rfl,fun c hc=>?_,fun j hj=>?_,fun a b hab hb=>?_⟩
 ·have:=hp.mem_iff.2 (List.mem_map.2 ⟨packB q (actE pv R N i) c n,List.mem_range.2 (zbH n fun s _=>hc s),rfl⟩)
  obtain ⟨j,hj,e⟩:=List.mem_map.1 this
  exact ⟨j,List.mem_range.1 hj,by rw [e,hx c hc]⟩
 ·have:=hp.mem_iff.1 (List.mem_map.2 ⟨j,List.mem_range.2 hj,rfl⟩)
  obtain ⟨p,hp2,e⟩:=List.mem_map.1 this
  obtain ⟨c,h1,h2⟩:=hinn p (List.mem_range.1 hp2)
  exact ⟨c,h1,by rw [<-e,h2]⟩
 ·have h3:=zaF.1 hyi a b hab hb
  have h4:=hs a b hab hb
  simp only [Function.comp,ne_eq,Prod.mk.injEq] at h3
  unfold ltE at *
  omega
end
end Go.Proofs.YtgekjfpapmlndaaGreat
namespace Go.Proofs
open Go.Shelf
def Tryz.sortInts_ren:Go.Shelf.Ren:=⟨fun | 6 => 156 | 15 => 202 | 14 => 208 | 28 => 219 | 29 => 237 | 20 => 242 | 21 => 243 | 22 => 244 | 23 => 245 | 24 => 246 | 25 => 247 | 26 => 248 | 27 => 249 | 46 => 265 | 47 => 255 | 48 => 256 | 49 => 266 | 50 => 267 | 57 => 269 | n=>n,fun | 22 => 22 | 24 => 3 | 25 => 123 | 3 => 3 | 39 => 200 | 0 => 0 | 53 => 109 | 55 => 71 | 4 => 4 | 46 => 253 | 45 => 252 | 50 => 130 | 5 => 5 | 9 => 9 | 66 => 268 | 70 => 272 | 76 => 280 | 77 => 101 | n=>n,fun | n=>n⟩
theorem Tryz.sortInts:Go.Proofs.SlLaysF.n6 Tryz.prog Tryz.sortInts_ren:={
 mixed:=by kernel_rfl
 f6:=⟨Tryz.f156.name,by decide,Tryz.func156.trans (congrArg some (by kernel_rfl))⟩
 f14:=⟨Tryz.f208.name,by decide,Tryz.func208.trans (congrArg some (by kernel_rfl))⟩
 f15:=Tryz.func202.trans (congrArg some (by kernel_rfl))
 f20:=⟨Tryz.f242.name,by decide,Tryz.func242.trans (congrArg some (by kernel_rfl))⟩
 f21:=⟨Tryz.f243.name,by decide,Tryz.func243.trans (congrArg some (by kernel_rfl))⟩
 f22:=⟨Tryz.f244.name,by decide,Tryz.func244.trans (congrArg some (by kernel_rfl))⟩
 f23:=⟨Tryz.f245.name,by decide,Tryz.func245.trans (congrArg some (by kernel_rfl))⟩
 f24:=⟨Tryz.f246.name,by decide,Tryz.func246.trans (congrArg some (by kernel_rfl))⟩
 f25:=⟨Tryz.f247.name,by decide,Tryz.func247.trans (congrArg some (by kernel_rfl))⟩
 f26:=⟨Tryz.f248.name,by decide,Tryz.func248.trans (congrArg some (by kernel_rfl))⟩
 f27:=⟨Tryz.f249.name,by decide,Tryz.func249.trans (congrArg some (by kernel_rfl))⟩
 f28:=Tryz.func219.trans (congrArg some (by kernel_rfl))
 f29:=Tryz.func237.trans (congrArg some (by kernel_rfl))
 f46:=⟨Tryz.f265.name,by decide,Tryz.func265.trans (congrArg some (by kernel_rfl))⟩
 f47:=Tryz.func255.trans (congrArg some (by kernel_rfl))
 f48:=Tryz.func256.trans (congrArg some (by kernel_rfl))
 f49:=⟨Tryz.f266.name,by decide,Tryz.func266.trans (congrArg some (by kernel_rfl))⟩
 f50:=⟨Tryz.f267.name,by decide,Tryz.func267.trans (congrArg some (by kernel_rfl))⟩
 f57:=⟨Tryz.f269.name,by decide,Tryz.func269.trans (congrArg some (by kernel_rfl))⟩
 t0:=Tryz.underlying0
 a0:=Tryz.isAgg0
 z0:=Tryz.sizeOf0
 v0:=Tryz.zeroValue0
 t3:=Tryz.underlying3
 a3:=Tryz.isAgg3
 z3:=Tryz.sizeOf3
 v3:=Tryz.zeroValue3
 t4:=Tryz.underlying4
 a4:=Tryz.isAgg4
 z4:=Tryz.sizeOf4
 v4:=Tryz.zeroValue4
 t5:=Tryz.underlying5
 a5:=Tryz.isAgg5
 z5:=Tryz.sizeOf5
 v5:=Tryz.zeroValue5
 t9:=Tryz.underlying9
 a9:=Tryz.isAgg9
 z9:=Tryz.sizeOf9
 v9:=Tryz.zeroValue9
 t22:=Tryz.underlying22
 a22:=Tryz.isAgg22
 z22:=Tryz.sizeOf22
 v22:=Tryz.zeroValue22
 a24:=Tryz.isAgg3
 z24:=Tryz.sizeOf3
 t25:=Tryz.underlying123
 a25:=Tryz.isAgg123
 z25:=Tryz.sizeOf123
 v25:=Tryz.zeroValue123
 t39:=Tryz.underlying200
 a39:=Tryz.isAgg200
 z39:=Tryz.sizeOf200
 v39:=Tryz.zeroValue200
 t45:=Tryz.underlying252
 a45:=Tryz.isAgg252
 z45:=Tryz.sizeOf252
 v45:=Tryz.zeroValue252
 t46:=Tryz.underlying253
 a46:=Tryz.isAgg253
 z46:=Tryz.sizeOf253
 v46:=Tryz.zeroValue253
 t50:=Tryz.underlying130
 a50:=Tryz.isAgg130
 z50:=Tryz.sizeOf130
 v50:=Tryz.zeroValue130
 t53:=Tryz.underlying109
 a53:=Tryz.isAgg109
 z53:=Tryz.sizeOf109
 v53:=Tryz.zeroValue109
 t55:=Tryz.underlying71
 a55:=Tryz.isAgg71
 z55:=Tryz.sizeOf71
 v55:=Tryz.zeroValue71
 t66:=Tryz.underlying268
 a66:=Tryz.isAgg268
 z66:=Tryz.sizeOf268
 v66:=Tryz.zeroValue268
 t70:=Tryz.underlying272
 a70:=Tryz.isAgg272
 z70:=Tryz.sizeOf272
 v70:=Tryz.zeroValue272
 t76:=Tryz.underlying280
 a76:=Tryz.isAgg280
 z76:=Tryz.sizeOf280
 v76:=Tryz.zeroValue280
 t77:=Tryz.underlying101
 a77:=Tryz.isAgg101
 z77:=Tryz.sizeOf101
 v77:=Tryz.zeroValue101 }
def Tryz.sortEdges_ren:Go.Shelf.Ren:=⟨fun | 6 => 150 | 15 => 202 | 14 => 201 | 28 => 219 | 29 => 237 | 20 => 229 | 21 => 230 | 22 => 231 | 23 => 232 | 24 => 233 | 25 => 234 | 26 => 235 | 27 => 236 | 46 => 254 | 47 => 255 | 48 => 256 | 49 => 257 | 50 => 258 | 57 => 268 | n=>n,fun | 22 => 86 | 24 => 90 | 25 => 184 | 3 => 3 | 39 => 200 | 0 => 0 | 53 => 109 | 55 => 71 | 4 => 4 | 46 => 253 | 45 => 252 | 50 => 130 | 5 => 5 | 9 => 9 | 66 => 268 | 70 => 272 | 76 => 280 | 77 => 101 | n=>n,fun | n=>n⟩
theorem Tryz.sortEdges:Go.Proofs.SlLaysF0.n6 Tryz.prog Tryz.sortEdges_ren:={
 mixed:=by kernel_rfl
 f6:=⟨Tryz.f150.name,by decide,Tryz.func150.trans (congrArg some (by kernel_rfl))⟩
 f14:=⟨Tryz.f201.name,by decide,Tryz.func201.trans (congrArg some (by kernel_rfl))⟩
 f15:=Tryz.func202.trans (congrArg some (by kernel_rfl))
 f20:=⟨Tryz.f229.name,by decide,Tryz.func229.trans (congrArg some (by kernel_rfl))⟩
 f21:=⟨Tryz.f230.name,by decide,Tryz.func230.trans (congrArg some (by kernel_rfl))⟩
 f22:=⟨Tryz.f231.name,by decide,Tryz.func231.trans (congrArg some (by kernel_rfl))⟩
 f23:=⟨Tryz.f232.name,by decide,Tryz.func232.trans (congrArg some (by kernel_rfl))⟩
 f24:=⟨Tryz.f233.name,by decide,Tryz.func233.trans (congrArg some (by kernel_rfl))⟩
 f25:=⟨Tryz.f234.name,by decide,Tryz.func234.trans (congrArg some (by kernel_rfl))⟩
 f26:=⟨Tryz.f235.name,by decide,Tryz.func235.trans (congrArg some (by kernel_rfl))⟩
 f27:=⟨Tryz.f236.name,by decide,Tryz.func236.trans (congrArg some (by kernel_rfl))⟩
 f28:=Tryz.func219.trans (congrArg some (by kernel_rfl))
 f29:=Tryz.func237.trans (congrArg some (by kernel_rfl))
 f46:=⟨Tryz.f254.name,by decide,Tryz.func254.trans (congrArg some (by kernel_rfl))⟩
 f47:=Tryz.func255.trans (congrArg some (by kernel_rfl))
 f48:=Tryz.func256.trans (congrArg some (by kernel_rfl))
 f49:=⟨Tryz.f257.name,by decide,Tryz.func257.trans (congrArg some (by kernel_rfl))⟩
 f50:=⟨Tryz.f258.name,by decide,Tryz.func258.trans (congrArg some (by kernel_rfl))⟩
 f57:=⟨Tryz.f268.name,by decide,Tryz.func268.trans (congrArg some (by kernel_rfl))⟩
 t0:=Tryz.underlying0
 a0:=Tryz.isAgg0
 z0:=Tryz.sizeOf0
 v0:=Tryz.zeroValue0
 t3:=Tryz.underlying3
 a3:=Tryz.isAgg3
 z3:=Tryz.sizeOf3
 v3:=Tryz.zeroValue3
 t4:=Tryz.underlying4
 a4:=Tryz.isAgg4
 z4:=Tryz.sizeOf4
 v4:=Tryz.zeroValue4
 t5:=Tryz.underlying5
 a5:=Tryz.isAgg5
 z5:=Tryz.sizeOf5
 v5:=Tryz.zeroValue5
 t9:=Tryz.underlying9
 a9:=Tryz.isAgg9
 z9:=Tryz.sizeOf9
 v9:=Tryz.zeroValue9
 t22:=Tryz.underlying86
 a22:=Tryz.isAgg86
 z22:=Tryz.sizeOf86
 v22:=Tryz.zeroValue86
 t25:=Tryz.underlying184
 a25:=Tryz.isAgg184
 z25:=Tryz.sizeOf184
 v25:=Tryz.zeroValue184
 t39:=Tryz.underlying200
 a39:=Tryz.isAgg200
 z39:=Tryz.sizeOf200
 v39:=Tryz.zeroValue200
 t45:=Tryz.underlying252
 a45:=Tryz.isAgg252
 z45:=Tryz.sizeOf252
 v45:=Tryz.zeroValue252
 t46:=Tryz.underlying253
 a46:=Tryz.isAgg253
 z46:=Tryz.sizeOf253
 v46:=Tryz.zeroValue253
 t50:=Tryz.underlying130
 a50:=Tryz.isAgg130
 z50:=Tryz.sizeOf130
 v50:=Tryz.zeroValue130
 t53:=Tryz.underlying109
 a53:=Tryz.isAgg109
 z53:=Tryz.sizeOf109
 v53:=Tryz.zeroValue109
 t55:=Tryz.underlying71
 a55:=Tryz.isAgg71
 z55:=Tryz.sizeOf71
 v55:=Tryz.zeroValue71
 t66:=Tryz.underlying268
 a66:=Tryz.isAgg268
 z66:=Tryz.sizeOf268
 v66:=Tryz.zeroValue268
 t70:=Tryz.underlying272
 a70:=Tryz.isAgg272
 z70:=Tryz.sizeOf272
 v70:=Tryz.zeroValue272
 t76:=Tryz.underlying280
 a76:=Tryz.isAgg280
 z76:=Tryz.sizeOf280
 v76:=Tryz.zeroValue280
 t77:=Tryz.underlying101
 a77:=Tryz.isAgg101
 z77:=Tryz.sizeOf101
 v77:=Tryz.zeroValue101 }
def Tryz.cmpInt_ren:Go.Shelf.Ren:=⟨fun | 5 => 157 | 7 => 209 | n=>n,fun | 22 => 3 | 3 => 3 | 4 => 4 | n=>n,fun | n=>n⟩
theorem Tryz.cmpInt:Go.Proofs.SlLaysC2.n5 Tryz.prog Tryz.cmpInt_ren:={
 mixed:=by kernel_rfl
 f5:=⟨Tryz.f157.name,by decide,Tryz.func157.trans (congrArg some (by kernel_rfl))⟩
 f7:=⟨Tryz.f209.name,by decide,Tryz.func209.trans (congrArg some (by kernel_rfl))⟩
 t3:=Tryz.underlying3
 a3:=Tryz.isAgg3
 z3:=Tryz.sizeOf3
 v3:=Tryz.zeroValue3
 t4:=Tryz.underlying4
 a4:=Tryz.isAgg4
 z4:=Tryz.sizeOf4
 v4:=Tryz.zeroValue4
 t22:=Tryz.underlying3
 a22:=Tryz.isAgg3
 z22:=Tryz.sizeOf3
 v22:=Tryz.zeroValue3 }
end Go.Proofs
namespace Go.Proofs.YtgekjfpapmlndaaGreat
open Go.RowKit
def GG (w w':World):Prop:=∃ q os,w'=Go.Sort.grow (w.drewN q) os
theorem GG.refl (w:World):GG w w:=⟨0,#[],by rw [Go.Sort.grow_empty]; rfl⟩
theorem GG.trans {a b c:World} (h:GG a b) (k:GG b c):GG a c:=by
 obtain ⟨q,os,rfl⟩:=h
 obtain ⟨q',os',rfl⟩:=k
 refine ⟨q+q',os ++ os',?_⟩
 show Go.Sort.grow (Go.Sort.grow ((a.drewN q).drewN q') os) os'=_
 rw [Go.Sort.grow_grow,World.drewN_drewN]
theorem GG.alloc {a b:World} (h:GG a b) {o:Obj}:GG a (b.alloc o):=h.trans ⟨0,#[o],by rw [Go.Sort.alloc_eq_grow]; rfl⟩
theorem GG.drew {a b:World} (h:GG a b):GG a b.drew:=h.trans ⟨1,#[],by rw [Go.Sort.grow_empty]; rfl⟩
theorem GG.below {a b:World} (h:GG a b):Below a.heap.size a b:=by
 obtain ⟨q,os,rfl⟩:=h
 exact ⟨rfl,rfl,rfl,by simp [Go.Sort.grow,World.drewN],fun k hk=>Go.Sort.heap_grow_old (a.drewN q) os hk⟩
theorem zjh (a b:Int):Go.Lib.compareInt a b=cmpI a b:=rfl
theorem zji (a b:Int) (w:World):Calls Tryz.prog 157 #[.int .i64 a,.int .i64 b] w fun e w'=>e=.returned (.int .i64 (cmpI a b))/\Below w.heap.size w w'/\GG w w' :=
 (show Calls Tryz.prog 157 _ _ _ from AnyG.cmp_Compare_int Tryz.cmpInt a b w).mono fun _ _ ⟨he,hw⟩=>⟨by rw [he,zjh],by rw [hw]; exact Below.refl _ _,by rw [hw]; exact GG.refl _⟩
theorem ziF (A:Option Addr) (c:Nat) (f:Nat->Int) (w:World) (h:IntsR w w.heap.size A 2 f) :
  Calls Tryz.prog 203 #[.slice A 2 c] w fun e w'=>e=.returned (.int .i64 (orV (f 0) (f 1)))/\w'=w:=by
 obtain ⟨b,o,rfl,hb,x0⟩:=h.at (i:=0) (by omega)
 obtain ⟨_,_,e1,_,x1⟩:=h.at (i:=1) (by omega)
 injection e1 with e1; injection e1 with e1 e2; subst e1 e2
 obtain ⟨x,hx⟩:∃ x,x=f 0:=⟨_,rfl⟩
 obtain ⟨y,hy⟩:∃ x,x=f 1:=⟨_,rfl⟩
 rw [<-hx] at x0 ⊢;rw [<-hy] at x1 ⊢;clear hx hy h
 go_enter Tryz.func203, Tryz.ntmps203
 go_wp2
 go_loopg [5,8] 2 (fun gg ev iv wx=>∃ k:Nat,iv=.int .i64 (k:Nat)/\k<=2/\2<=k+gg/\(1<=k->x=0)/\(2<=k->y=0)/\wx=w)
 case atStart=>exact ⟨0,rfl,by omega,by omega,fun h=>absurd h (by omega),fun h=>absurd h (by omega),rfl⟩
 case round =>
  obtain ⟨k,rfl,hk,hkg,h1,h2,rfl⟩:=hrel
  have H1:=hid h1
  have H2:=hid h2
  clear h1 h2
  by_cases hk2:k=2
  ·have hlt:¬ (k:Int)<2:=by omega
   have hE:Hid (orV x y=0):=by
    show _=_
    unfold orV
    rw [if_pos (H1.out (by omega)),H2.out (by omega)]
   clear hk2
   go_wp2
   go_ret
   exact ⟨zas hE.out.symm,rfl⟩
  ·have hlt:(k:Int)<2:=by omega
   have hk0:(0:Int)<=(k:Int):=by omega
   by_cases hk1:k=0
   ·have xk:wr.cell? ⟨b,o+k,none⟩=some (.int .i64 x):=by rw [hk1]; exact x0
    by_cases hx:x=0
    ·have hxb:(x != 0)=false:=by simp [hx]
     have hxb2:(x == 0)=true:=by simp [hx]
     have HX:=hid hx
     have HK:=hid hk1
     clear hx x0 x1 hk1 hk2
     go_wp2
     go_roundg (gk - 1)
     case measure=>omega
     case rel=>exact ⟨k+1,by go_num,by omega,by omega,fun _=>HX.out,fun h=>absurd h (by have:=HK.out; omega),rfl⟩
    ·have hxb:(x != 0)=true:=by simp [hx]
     have hxb2:(x == 0)=false:=by simp [hx]
     have hE:Hid (orV x y=x):=if_neg hx
     clear hx x0 x1 hk1 hk2
     go_wp2
     go_ret
     exact ⟨zas hE.out.symm,rfl⟩
   ·have xk:wr.cell? ⟨b,o+k,none⟩=some (.int .i64 y):=by rw [show k=1 by omega]; exact x1
    have hx:x=0:=H1.out (by omega)
    by_cases hy:y=0
    ·have hxb:(y != 0)=false:=by simp [hy]
     have hxb2:(y == 0)=true:=by simp [hy]
     have HX:=hid hx
     have HY:=hid hy
     clear hx hy x0 x1 hk1 hk2
     go_wp2
     go_roundg (gk - 1)
     case measure=>omega
     case rel=>exact ⟨k+1,by go_num,by omega,by omega,fun _=>HX.out,fun _=>HY.out,rfl⟩
    ·have hxb:(y != 0)=true:=by simp [hy]
     have hxb2:(y == 0)=false:=by simp [hy]
     have hE:Hid (orV x y=y):=if_pos hx
     clear hx hy x0 x1 hk1 hk2
     go_wp2
     go_ret
     exact ⟨zas hE.out.symm,rfl⟩
theorem zhD (A:Option Addr) (c:Nat) (f:Nat->Int) (w:World) (h:IntsR w w.heap.size A 2 f) :
  Calls Tryz.prog 203 #[.slice A 2 c] w fun e w'=>e=.returned (.int .i64 (orV (f 0) (f 1)))/\Below w.heap.size w w'/\GG w w' :=
 (ziF A c f w h).mono fun _ _ ⟨he,hw⟩=>⟨he,by rw [hw]; exact Below.refl _ _,by rw [hw]; exact GG.refl _⟩
theorem zh0 (f l t f' l' t':Int) (w:World) :
  Calls Tryz.prog 151 #[.agg #[.int .i64 f,.int .i64 l,.int .i64 t],.agg #[.int .i64 f',.int .i64 l',.int .i64 t']] w fun e w'=>e=.returned (.int .i64 (lessV f l f' l'))/\Below w.heap.size w w'/\GG w w':=by
 go_enter Tryz.func151, Tryz.ntmps151
 go_upto_region 1 with fail
 obtain ⟨B1,hB1⟩:∃ o,o=(Obj.cells #[.int .i64 f,.int .i64 l,.int .i64 t] 90):=⟨_,rfl⟩
 obtain ⟨B2,hB2⟩:∃ o,o=(Obj.cells #[.int .i64 f',.int .i64 l',.int .i64 t'] 90):=⟨_,rfl⟩
 rw [<-hB1,<-hB2]
 have hb1:Below (w.heap.size+1) (w.alloc B1) ((w.alloc B1).alloc B2):=(Below.refl _ _).alloc (by simp) _
 have hW:=zaO hb1
 have hG:GG w ((w.alloc B1).alloc B2):=(GG.refl w).alloc.alloc
 have p0:((w.alloc B1).alloc B2).cell? ⟨w.heap.size,0,none⟩=some (.int .i64 f):=by subst hB1; exact tbox hb1 rfl
 have p1:((w.alloc B1).alloc B2).cell? ⟨w.heap.size,1,none⟩=some (.int .i64 l):=by subst hB1; exact tbox hb1 rfl
 have p2:((w.alloc B1).alloc B2).cell? ⟨w.heap.size+1,0,none⟩=some (.int .i64 f'):=by subst hB2; simp
 have p3:((w.alloc B1).alloc B2).cell? ⟨w.heap.size+1,1,none⟩=some (.int .i64 l'):=by subst hB2; simp
 obtain ⟨w1,hw1⟩:∃ W,W=(w.alloc B1).alloc B2:=⟨_,rfl⟩
 rw [<-hw1] at hW hG p0 p1 p2 p3 ⊢;clear hb1 hw1 hB1 hB2
 refine wp_region_held_drew (S:=fun w'=>w'.cell? ⟨w.heap.size,0,none⟩=some (.int .i64 f)/\w'.cell? ⟨w.heap.size,1,none⟩=some (.int .i64 l)/\w'.cell? ⟨w.heap.size+1,0,none⟩=some (.int .i64 f')/\w'.cell? ⟨w.heap.size+1,1,none⟩=some (.int .i64 l')) (by kernel_rfl) ⟨cellS (Below.refl _ _).drew p0,cellS (Below.refl _ _).drew p1,cellS (Below.refl _ _).drew p2,cellS (Below.refl _ _).drew p3⟩ (fun hHeld=>?_)
 obtain ⟨w2,hw⟩:∃ W,W=World.drew w1:=⟨_,rfl⟩
 have kb:Below w1.heap.size w1 w2:=by rw [hw]; exact (Below.refl _ _).drew
 have kg:GG w1 w2:=by rw [hw]; exact (GG.refl _).drew
 rw [<-hw] at hHeld ⊢;clear hw;replace hW:=onS hW kb;replace p0:=cellS kb p0;replace p1:=cellS kb p1;replace p2:=cellS kb p2;replace p3:=cellS kb p3;clear kb;replace hG:=hG.trans kg;clear kg
 refine tkq 0 (h:=tkq 1 (h:=tkq 2 (h:=tkq 3 (h:=tkq 5 (h:=tkq 6 (h:=tkq 7 (h:=tkq 8 (h:=?_))))))))
 refine rdq 4 (h:=fun K hK=>?_)
 go_simp
 go_wp2_with fail
 refine (zji f f' w2).mono ?_
 rintro e w3 ⟨rfl,kb,kg⟩
 replace hW:=onS hW kb;replace p0:=cellS kb p0;replace p1:=cellS kb p1;replace p2:=cellS kb p2;replace p3:=cellS kb p3;clear kb;replace hG:=hG.trans kg;clear kg
 refine bkq hK ⟨p0,p1,p2,p3⟩ (h:=fun hHeld=>?_)
 clear hK K
 refine rdq 9 (h:=fun K hK=>?_)
 go_simp
 go_wp2_with fail
 refine (zji l l' w3).mono ?_
 rintro e w4 ⟨rfl,kb,kg⟩
 replace hW:=onS hW kb;replace p0:=cellS kb p0;replace p1:=cellS kb p1;replace p2:=cellS kb p2;replace p3:=cellS kb p3;clear kb;replace hG:=hG.trans kg;clear kg
 refine bkq hK ⟨p0,p1,p2,p3⟩ (h:=fun hHeld=>?_)
 clear hK K
 refine rdq 10 (h:=fun K hK=>?_)
 go_simp
 obtain ⟨w5,hw⟩:∃ W,W=World.alloc w4 (Obj.cells #[.int .i64 (cmpI f f'),.int .i64 (cmpI l l')] 3):=⟨_,rfl⟩
 have kb:Below w4.heap.size w4 w5:=by rw [hw]; exact (Below.refl _ _).alloc (Nat.le_refl _) _
 have kg:GG w4 w5:=by rw [hw]; exact (GG.refl _).alloc
 have hi:IntsR w5 w5.heap.size (some ⟨w4.heap.size,0,none⟩) 2 (fun i=>if i=0 then cmpI f f' else cmpI l l'):=by
  rw [hw]
  intro i hi
  refine ⟨_,0,rfl,by simp,fun j hj=>?_⟩
  obtain rfl:j=0:=by omega
  match i,hi with
  | 0,_=>simp
  | 1,_=>simp
 rw [<-hw];clear hw
 obtain ⟨nb,hnb⟩:∃ b,b=w4.heap.size:=⟨_,rfl⟩
 rw [<-hnb] at hi ⊢;clear hnb;replace hW:=onS hW kb;replace p0:=cellS kb p0;replace p1:=cellS kb p1;replace p2:=cellS kb p2;replace p3:=cellS kb p3;clear kb;replace hG:=hG.trans kg;clear kg
 refine bkq hK ⟨p0,p1,p2,p3⟩ (h:=fun hHeld=>?_)
 clear hK K
 refine rdq 11 (h:=fun K hK=>?_)
 go_simp
 go_wp2_with fail
 refine ((show Calls _ _ _ _ (fun e w'=>e=.returned (.int .i64 (lessV f l f' l'))/\Below w5.heap.size w5 w'/\GG w5 w') from zhD (some ⟨nb,0,none⟩) 2 _ w5 hi)).mono ?_
 rintro e w6 ⟨rfl,kb,kg⟩
 replace hW:=onS hW kb;replace p0:=cellS kb p0;replace p1:=cellS kb p1;replace p2:=cellS kb p2;replace p3:=cellS kb p3;replace hi:=hi.on kb;clear kb;replace hG:=hG.trans kg;clear kg
 refine bkq hK ⟨p0,p1,p2,p3⟩ (h:=fun hHeld=>?_)
 clear hK K
 refine tkq 12 (h:=?_)
 refine wpAnyH_done (by kernel_rfl) ?_ _
 clear hHeld
 go_wp2_with fail
 go_ret
 exact ⟨rfl,hW,hG⟩
end Go.Proofs.YtgekjfpapmlndaaGreat