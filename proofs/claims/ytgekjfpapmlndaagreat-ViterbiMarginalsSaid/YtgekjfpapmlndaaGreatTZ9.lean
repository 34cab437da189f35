/- Merged texts of a claim: Shape, Less, Counting, NumRows, Valued, Forward, Repeat, Proper, TrelProper, Paths, WordsMath, Rank, Edge, FewT, From, Accepts47, RenMath, MinPl, PowS. -/
import Derived.Test.YtgekjfpapmlndaaGreatTZ8
import Derived.Laws.CopyOwn
namespace Go.Proofs.YtgekjfpapmlndaaGreat
set_option maxRecDepth 100000
set_option maxHeartbeats 32000000
open KA KB KC KD KE KF
open Go.RowKit
theorem tbox {w wr:World} {cs:Array Value} {X:TypeId} (h:Below (w.heap.size+1) (w.alloc (.cells cs X)) wr) {i:Nat} {v:Value} (hi:cs[i]?=some v):wr.cell? ⟨w.heap.size,i,none⟩=some v:=by
 rw [h.cell (by simp),World.cell?_alloc_at _ _ _ _ rfl]
 exact hi
theorem zaC {w wr:World} {o:Obj} (h:Below (w.heap.size+1) (w.alloc o) wr):Below w.heap.size w wr:=((Below.refl _ _).alloc (Nat.le_refl _) _).trans (h.mono (by omega))
theorem za5 {w wr:World} {o:Obj} (h:Below (w.heap.size+1) (w.alloc o) wr):w.heap.size<wr.heap.size:=by have:=h.size; simp at this; omega
theorem zaF {w wr w':World} {o:Obj} (h:Below (w.heap.size+1) (w.alloc o) wr) (hb:Below wr.heap.size wr w'):Below (w.heap.size+1) (w.alloc o) w':=h.trans (hb.mono (za5 h))
section
variable (T:Trel)
theorem Trel.shapeE_w (hs:¬ (64<T.n∨T.nw≠T.n+1)) {k:Nat} (hk:k<T.nw) (h:T.W k<1):T.shapeE=6:=by
 unfold Trel.shapeE
 rw [if_neg hs,if_pos fun h1=>by have:=h1 k hk; omega]
variable (hs:¬ (64<T.n∨T.nw≠T.n+1)) (h1:∀ i,i<T.nw->1<=T.W i)
include hs h1
theorem Trel.shapeE_big {k:Nat} (hk:k<=T.nw) (h:65536<T.sumW k):T.shapeE=8:=by
 have h2:=Trel.sumW_mono h1 k (T.nw - k) (by omega)
 rw [show k+(T.nw - k)=T.nw by omega] at h2
 unfold Trel.shapeE
 rw [if_neg hs,if_neg (by simpa using h1),if_pos (by omega)]
variable (h2:T.sumW T.nw<=65536)
include h2
theorem Trel.shapeE_bigE {k:Nat} (hk:k<=T.n) (h:262144<T.sumE k):T.shapeE=8:=by
 have h3:=Trel.sumE_mono (T:=T) k (T.n - k)
 rw [show k+(T.n - k)=T.n by omega] at h3
 unfold Trel.shapeE
 rw [if_neg hs,if_neg (by simpa using h1),if_neg (by omega),if_pos (by omega)]
variable (h3:T.sumE T.n<=262144)
include h3
theorem Trel.shapeE_in {i j:Nat} (hi:i<T.n) (hj:j<T.el i) (h:¬ T.inside i j):T.shapeE=6:=by
 unfold Trel.shapeE
 rw [if_neg hs,if_neg (by simpa using h1),if_neg (by omega),if_neg (by omega),if_pos fun h4=>h (h4 i hi j hj)]
theorem Trel.shapeE_ok (h:∀ i,i<T.n->∀ j,j<T.el i->T.inside i j):T.shapeE=0:=by
 unfold Trel.shapeE
 rw [if_neg hs,if_neg (by simpa using h1),if_neg (by omega),if_neg (by omega),if_neg fun h4=>h4 h]
end
theorem zdE (T:Trel) (A B:Option Addr) (c d:Nat) (w:World) (h:T.Reads w A B) :
  Calls Tryz.prog 161 #[.agg #[.slice A T.nw c,.slice B T.n d]] w fun e w'=>e=.returned (.int .i64 T.shapeE)/\Below w.heap.size w w':=by
 obtain ⟨RB,M⟩:=exx ((Obj.cells #[.slice A T.nw c,.slice B T.n d] 53))
 have a4:Below (w.heap.size+1) (w.alloc RB) (w.alloc RB):=Below.refl _ _
 have HS:Hid (∀ w',Below (w.heap.size+1) (w.alloc RB) w'->(w'.cell? ⟨w.heap.size,0,none⟩=some (.slice A T.nw c)/\w'.cell? ⟨w.heap.size,1,none⟩=some (.slice B T.n d))/\Below w.heap.size w w'):=fun w' hB=>by
  have ai:=zaC hB
  subst M
  exact ⟨⟨tbox hB rfl,tbox hB rfl⟩,ai⟩
 obtain ⟨⟨p0,p1⟩,hW⟩:=HS.out _ a4
 have an:=h.2.2.2
 by_cases hs:64<T.n∨T.nw≠T.n+1
 ·have hE:Hid (T.shapeE=3):=by show _=_; unfold Trel.shapeE; rw [if_pos hs]
  go_enter Tryz.func161, Tryz.ntmps161
  by_cases aj:64<T.n
  ·have N:(T.n:Int) > 64:=by omega
   clear hs
   go_wp2_with fail
   rw [<-M]
   go_wp2
   go_ret
   exact ⟨zao hE.out.symm,hW⟩
  have N:¬ (T.n:Int) > 64:=by omega
  have ae:((T.nw:Int) != (T.n:Int)+1)=true:=by simp; omega
  clear hs
  go_wp2_with fail
  rw [<-M]
  go_wp2
  go_ret
  exact ⟨zao hE.out.symm,hW⟩
 have aj:T.n<=64:=by omega
 have Z:T.nw=T.n+1:=by omega
 have O:=hid hs
 have V:=hid Z
 have N:¬ (T.n:Int) > 64:=by omega
 have ae:((T.nw:Int) != (T.n:Int)+1)=false:=by simp; omega
 have ad:((T.nw:Int) == (T.n:Int)+1)=true:=by simp; omega
 clear hs Z
 go_enter Tryz.func161, Tryz.ntmps161
 go_wp2_with fail
 rw [<-M]
 have HR:=hid h
 clear h M
 go_wp2
 go_loopg [4,32] T.nw (fun gg xv iv wx=>∃ k:Nat,iv=.int .i64 (k:Nat)/\k<=T.nw/\T.nw<=k+gg/\(∀ i,i<k->1<=T.W i)/\Below (w.heap.size+1) (w.alloc RB) wx)
 case atStart=>exact ⟨0,rfl,by omega,by omega,fun i hi=>absurd hi (by omega),a4⟩
 obtain ⟨k,rfl,hk,F,l,hB⟩:=hrel
 have G:(0:Int)<=(k:Int):=by omega
 have HB:=hid hB
 have z:=za5 hB
 clear hW p0 p1 hB
 obtain ⟨⟨p0,p1⟩,hW⟩:=HS.out _ HB.out
 have s:=hid l
 clear l
 by_cases hlt:k<T.nw
 ·have a:(k:Int)<(T.nw:Int):=by omega
  obtain ⟨b,o,rfl,hb,x0,ac,ab⟩:=(HR.out.on hW).width hlt
  by_cases h1:T.W k<1
  ·have hE:=hid (T.shapeE_w O.out hlt h1)
   go_wp2
   go_ret
   exact ⟨zao hE.out.symm,hW⟩
  have HA:Hid (∀ i,i<k+1->1<=T.W i):=fun i hi=>by
   by_cases e:i=k
   ·subst e; omega
   ·exact s.out i (by omega)
  go_wp2
  go_roundg (gk - 1)
  case measure=>omega
  case rel=>exact ⟨k+1,by go_num,by omega,by omega,HA.out,HB.out⟩
 have a:¬ (k:Int)<(T.nw:Int):=by omega
 have HA:Hid (∀ i,i<T.nw->1<=T.W i):=fun i hi=>s.out i (by omega)
 have p:(k:Int)=(T.nw:Int):=by omega
 go_wp2
 go_loopg [5,8,42] T.nw (fun gg sv xv iv wx=>∃ k:Nat,iv=.int .i64 (k:Nat)/\k<=T.nw/\T.nw<=k+gg/\sv=.int .i64 (T.sumW k)/\T.sumW k<=65536/\Below (w.heap.size+1) (w.alloc RB) wx)
 case atStart=>exact ⟨0,rfl,by omega,by omega,rfl,by simp [Trel.sumW],HB.out⟩
 clear hW p0 p1 hlt a p z HB s hk G F
 obtain ⟨k2,rfl,hk,F,rfl,D,hB⟩:=hrel
 have G:(0:Int)<=(k2:Int):=by omega
 have HB:=hid hB
 have z:=za5 hB
 clear hB
 obtain ⟨⟨p0,p1⟩,hW⟩:=HS.out _ HB.out
 have Q:=Trel.sumW_mono (m:=T.nw) HA.out 0 k2 (by omega)
 simp only [Trel.sumW,Nat.zero_add] at Q
 have r:Hid (T.sumW (k2+1)=T.sumW k2+T.W k2):=rfl
 obtain ⟨sm,C⟩:=exx (T.sumW k2)
 rw [<-C] at Q D r;rw [<-C];clear C
 by_cases hlt:k2<T.nw
 ·have a:(k2:Int)<(T.nw:Int):=by omega
  obtain ⟨b,o,rfl,hb,x0,ac,ab⟩:=(HR.out.on hW).width hlt
  by_cases h1:T.W k2 > 65536 - sm
  ·have hE:=hid (T.shapeE_big O.out HA.out (k:=k2+1) (by omega) (by rw [r.out]; omega))
   go_wp2
   go_ret
   exact ⟨zao hE.out.symm,hW⟩
  go_wp2
  go_roundg (gk - 1)
  case measure=>omega
  case rel=>exact ⟨k2+1,by go_num,by omega,by omega,by rw [r.out],by rw [r.out]; omega,HB.out⟩
 have a:¬ (k2:Int)<(T.nw:Int):=by omega
 have p:k2=T.nw:=by omega
 have U:Hid (T.sumW T.nw<=65536):=by
  show _<=_
  rw [<-p]
  have:=r.out
  have e:T.sumW (k2+1)=T.sumW k2+T.W k2:=rfl
  omega
 clear p
 go_wp2
 go_loopg [6,10,57] T.n (fun gg sv xv iv wx=>∃ k:Nat,iv=.int .i64 (k:Nat)/\k<=T.n/\T.n<=k+gg/\sv=.int .i64 (T.sumE k:Nat)/\T.sumE k<=262144/\Below (w.heap.size+1) (w.alloc RB) wx)
 case atStart=>exact ⟨0,rfl,by omega,by omega,rfl,by simp [Trel.sumE],HB.out⟩
 clear hW p0 p1 hlt a z HB hk G F Q D r
 obtain ⟨k3,rfl,hk,F,rfl,D,hB⟩:=hrel
 have G:(0:Int)<=(k3:Int):=by omega
 have HB:=hid hB
 have z:=za5 hB
 clear hB
 obtain ⟨⟨p0,p1⟩,hW⟩:=HS.out _ HB.out
 have r:Hid (T.sumE (k3+1)=T.sumE k3+T.el k3):=rfl
 obtain ⟨sm,C⟩:=exx (T.sumE k3)
 have a5:=hid C
 rw [<-C] at D r;rw [<-C];clear C
 by_cases hlt:k3<T.n
 ·have a:(k3:Int)<(T.n:Int):=by omega
  obtain ⟨b,o,E,ec,rfl,hb,x0,a3,R,L,K⟩:=(HR.out.on hW).sec hlt
  unfold maxLen at R
  have J:=HR.out.2.2.2.2.2 k3 hlt
  obtain ⟨el,a2⟩:=exx (T.el k3)
  rw [<-a2] at x0 a3 r J;clear L K a2
  by_cases h1:sm+el > 262144
  ·have hE:=hid (T.shapeE_bigE O.out HA.out U.out (k:=k3+1) (by omega) (by rw [r.out]; omega))
   have ak:(sm:Int)+(el:Int) > 262144:=by omega
   go_wp2
   go_ret
   exact ⟨zao hE.out.symm,hW⟩
  have ak:¬ (sm:Int)+(el:Int) > 262144:=by omega
  go_wp2
  go_roundg (gk - 1)
  case measure=>omega
  case rel=>exact ⟨k3+1,by go_num,by omega,by omega,by rw [r.out]; go_num,by rw [r.out]; omega,HB.out⟩
 have a:¬ (k3:Int)<(T.n:Int):=by omega
 have p:k3=T.n:=by omega
 have a6:Hid (T.sumE T.n<=262144):=by
  show _<=_
  rw [<-p,<-a5.out]
  exact D
 clear p
 go_wp2
 go_loopg [11,12,71] T.n (fun gg xv yv iv wx=>∃ k:Nat,iv=.int .i64 (k:Nat)/\k<=T.n/\T.n<=k+gg/\(∀ i,i<k->∀ j,j<T.el i->T.inside i j)/\Below (w.heap.size+1) (w.alloc RB) wx)
 case atStart=>exact ⟨0,rfl,by omega,by omega,fun i hi=>absurd hi (by omega),HB.out⟩
 clear hW p0 p1 hlt a z HB hk G F D r a5
 obtain ⟨gK,ah⟩:=exx gk
 subst ah
 obtain ⟨k4,rfl,hk,F,l,hB⟩:=hrel
 have G:(0:Int)<=(k4:Int):=by omega
 have HB:=hid hB
 have z:=za5 hB
 clear hB
 obtain ⟨⟨p0,p1⟩,hW⟩:=HS.out _ HB.out
 have s:=hid l
 clear l
 by_cases hlt:k4<T.n
 rotate_left
 ·have a:¬ (k4:Int)<(T.n:Int):=by omega
  have hE:=hid (T.shapeE_ok O.out HA.out U.out a6.out fun i hi=>s.out i (by omega))
  go_wp2
  go_ret
  exact ⟨zao hE.out.symm,hW⟩
 have a:(k4:Int)<(T.n:Int):=by omega
 obtain ⟨b,o,E,ec,rfl,hb,x0,a3,R,L,K⟩:=(HR.out.on hW).sec hlt
 unfold maxLen at R
 have al:=hid x0
 go_wp2
 go_loopg [78] (T.el k4) (fun gg jv wx=>∃ j:Nat,jv=.int .i64 (j:Nat)/\j<=T.el k4/\T.el k4<=j+gg/\(∀ i,i<j->T.inside k4 i)/\Below (w.heap.size+1) (w.alloc RB) wx/\Below wr.heap.size wr wx)
 case atStart=>exact ⟨0,rfl,by omega,by omega,fun i hi=>absurd hi (by omega),HB.out,Below.refl _ _⟩
 clear hW p0 p1 z x0
 obtain ⟨j,rfl,hj,ap,l,hB,S⟩:=hrel
 have aq:(0:Int)<=(j:Int):=by omega
 have x0:=cellS S al.out
 have P:=hid S
 have X:=hid hB
 have z:=za5 hB
 clear hB S
 obtain ⟨⟨p0,p1⟩,hW⟩:=HS.out _ X.out
 have g:=hid l
 clear l
 by_cases hltj:j<T.el k4
 rotate_left
 ·have I:¬ (j:Int)<(T.el k4:Int):=by omega
  have HN:Hid (∀ i,i<k4+1->∀ j,j<T.el i->T.inside i j):=fun i hi=>by
   by_cases e:i=k4
   ·subst e; exact fun q hq=>g.out q (by omega)
   ·exact s.out i (by omega)
  clear L K
  go_wp2
  go_roundg (gK - 1)
  case measure=>omega
  case rel=>exact ⟨k4+1,by go_num,by omega,by omega,HN.out,X.out⟩
 have I:(j:Int)<(T.el k4:Int):=by omega
 obtain ⟨eb,eo,rfl,ar,e0,e1,e2⟩:=zba ((Rd.below L P.out (Nat.le_refl _)).mono P.out.size) hltj
 obtain ⟨wb,wo,hA,am,y0,aa,a9⟩:=(HR.out.on hW).width (i:=k4) (by have:=V.out; omega)
 obtain ⟨_,_,H,_,y1,a8,a7⟩:=(HR.out.on hW).width (i:=k4+1) (by have:=V.out; omega)
 rw [hA] at H
 injection H with H; injection H with H hA3; subst H hA3
 subst hA
 have ao:k4+1<T.nw:=by have:=V.out; omega
 have ag:(k4:Int)+1<(T.nw:Int):=by omega
 have af:(k4:Int)<(T.nw:Int):=by omega
 obtain ⟨⟨i1,i2⟩,_,⟨i3,i4⟩⟩:=K j hltj
 have x:Hid (T.inside k4 j↔0<=T.fr k4 j/\T.fr k4 j<T.W k4/\0<=T.to k4 j/\T.to k4 j<T.W (k4+1)):=Iff.rfl
 have y:Hid (¬ T.inside k4 j->T.shapeE=6):=fun hb=>T.shapeE_in O.out HA.out U.out a6.out hlt hltj hb
 obtain ⟨fr,a1⟩:=exx (T.fr k4 j)
 obtain ⟨tq,Y⟩:=exx (T.to k4 j)
 obtain ⟨lb,a0⟩:=exx (T.lb k4 j)
 obtain ⟨u,hu⟩:=exx (T.W k4)
 obtain ⟨v,hv⟩:=exx (T.W (k4+1))
 rw [<-a1] at e0 x i1 i2;rw [<-a0] at e1;rw [<-Y] at e2 x i3 i4;rw [<-hu] at y0 x aa a9;rw [<-hv] at y1 x a8 a7;clear a1 Y a0 hu hv L K
 by_cases h1:fr<0
 ·clear g
  have b1:decide (fr<0)=true:=by simp; omega
  go_wp2
  go_quiet (fail)
  go_wp2
  go_ret
  exact ⟨zao (y.out fun hi=>by have:=x.out.1 hi; omega).symm,zad (hW.alloc (by omega) _) _⟩
 have b1:decide (fr<0)=false:=by simp; omega
 by_cases h2:fr ≥ u
 ·clear g
  have b2:decide (fr ≥ u)=true:=by simp; omega
  have b3:decide (u<=fr)=true:=by simp; omega
  go_wp2
  go_quiet (fail)
  go_wp2
  go_ret
  exact ⟨zao (y.out fun hi=>by have:=x.out.1 hi; omega).symm,zad (hW.alloc (by omega) _) _⟩
 have b2:decide (fr ≥ u)=false:=by simp; omega
 have b3:decide (u<=fr)=false:=by simp; omega
 by_cases h3:tq<0
 ·clear g
  have b4:decide (tq<0)=true:=by simp; omega
  go_wp2
  go_quiet (fail)
  go_wp2
  go_ret
  exact ⟨zao (y.out fun hi=>by have:=x.out.1 hi; omega).symm,zad (hW.alloc (by omega) _) _⟩
 have b4:decide (tq<0)=false:=by simp; omega
 by_cases h4:tq ≥ v
 ·clear g
  have b5:decide (tq ≥ v)=true:=by simp; omega
  have b6:decide (v<=tq)=true:=by simp; omega
  go_wp2
  go_quiet (fail)
  go_wp2
  go_ret
  exact ⟨zao (y.out fun hi=>by have:=x.out.1 hi; omega).symm,zad (hW.alloc (by omega) _) _⟩
 have b5:decide (tq ≥ v)=false:=by simp; omega
 have b6:decide (v<=tq)=false:=by simp; omega
 have HN:Hid (∀ i,i<j+1->T.inside k4 i):=fun i hi=>by
  by_cases e:i=j
  ·subst e; exact x.out.2 (by omega)
  ·exact g.out i (by omega)
 go_wp2
 go_quiet (fail)
 go_wp2
 go_roundg (gk - 1)
 case measure=>omega
 case rel=>exact ⟨j+1,by go_num,by omega,by omega,HN.out,zad (X.out.alloc (by omega) _) _,zad (P.out.alloc P.out.size _) _⟩
def cmpI (a b:Int):Int:=if a<b then -1 else if b<a then 1 else 0
theorem zg8 (a b:Int) (w:World):Calls Tryz.prog 157 #[.int .i64 a,.int .i64 b] w fun e w'=>e=.returned (.int .i64 (cmpI a b))/\Below w.heap.size w w':=by
 have g:(a != a)=false:=by simp
 have c:(b != b)=false:=by simp
 by_cases h1:a<b
 ·have hE:Hid (cmpI a b = -1):=if_pos h1
  go_enter Tryz.func157, Tryz.ntmps157
  go_wp2
  go_ret
  exact ⟨zao hE.out.symm,Below.refl _ _⟩
 by_cases h2:b<a
 ·have hE:Hid (cmpI a b=1):=by show _=_; unfold cmpI; rw [if_neg h1,if_pos h2]
  have d:a > b:=h2
  go_enter Tryz.func157, Tryz.ntmps157
  go_wp2
  go_ret
  exact ⟨zao hE.out.symm,Below.refl _ _⟩
 have hE:Hid (cmpI a b=0):=by show _=_; unfold cmpI; rw [if_neg h1,if_neg h2]
 have d:¬ a > b:=h2
 go_enter Tryz.func157, Tryz.ntmps157
 go_wp2
 go_ret
 exact ⟨zao hE.out.symm,Below.refl _ _⟩
def orV (x y:Int):Int:=if x=0 then y else x
theorem zgD (A:Option Addr) (c:Nat) (f:Nat->Int) (w:World) (h:IntsR w w.heap.size A 2 f) :
  Calls Tryz.prog 203 #[.slice A 2 c] w fun e w'=>e=.returned (.int .i64 (orV (f 0) (f 1)))/\Below w.heap.size w w':=by
 obtain ⟨b,o,rfl,hb,x0⟩:=h.at (i:=0) (by omega)
 obtain ⟨_,_,e1,_,x1⟩:=h.at (i:=1) (by omega)
 injection e1 with e1; injection e1 with e1 e2; subst e1 e2
 obtain ⟨x,hx⟩:=exx (f 0)
 obtain ⟨y,hy⟩:=exx (f 1)
 rw [<-hx] at x0 ⊢;rw [<-hy] at x1 ⊢;clear hx hy h
 go_enter Tryz.func203, Tryz.ntmps203
 go_wp2
 go_loopg [5,8] 2 (fun gg ev iv wx=>∃ k:Nat,iv=.int .i64 (k:Nat)/\k<=2/\2<=k+gg/\(1<=k->x=0)/\(2<=k->y=0)/\Below w.heap.size w wx)
 case atStart=>exact ⟨0,rfl,by omega,by omega,fun h=>absurd h (by omega),fun h=>absurd h (by omega),Below.refl _ _⟩
 obtain ⟨k,rfl,hk,j,h1,h2,hB⟩:=hrel
 replace x0:=cellS hB x0;replace x1:=cellS hB x1
 have H1:=hid h1
 have H2:=hid h2
 clear h1 h2
 by_cases hk2:k=2
 ·have g:¬ (k:Int)<2:=by omega
  have hE:Hid (orV x y=0):=by
   show _=_
   unfold orV
   rw [if_pos (H1.out (by omega)),H2.out (by omega)]
  clear hk2
  go_wp2
  go_ret
  exact ⟨zao hE.out.symm,hB⟩
 have g:(k:Int)<2:=by omega
 have l:(0:Int)<=(k:Int):=by omega
 by_cases hk1:k=0
 ·have xk:wr.cell? ⟨b,o+k,none⟩=some (.int .i64 x):=by rw [hk1]; exact x0
  by_cases hx:x=0
  ·have d:(x != 0)=false:=by simp [hx]
   have a:(x == 0)=true:=by simp [hx]
   have HX:=hid hx
   have HK:=hid hk1
   clear hx x0 x1 hk1 hk2
   go_wp2
   go_roundg (gk - 1)
   case measure=>omega
   case rel=>exact ⟨k+1,by go_num,by omega,by omega,fun _=>HX.out,fun h=>absurd h (by have:=HK.out; omega),hB⟩
  have d:(x != 0)=true:=by simp [hx]
  have a:(x == 0)=false:=by simp [hx]
  have hE:Hid (orV x y=x):=if_neg hx
  clear hx x0 x1 hk1 hk2
  go_wp2
  go_ret
  exact ⟨zao hE.out.symm,hB⟩
 have xk:wr.cell? ⟨b,o+k,none⟩=some (.int .i64 y):=by rw [show k=1 by omega]; exact x1
 have hx:x=0:=H1.out (by omega)
 by_cases hy:y=0
 ·have d:(y != 0)=false:=by simp [hy]
  have a:(y == 0)=true:=by simp [hy]
  have HX:=hid hx
  have HY:=hid hy
  clear hx hy x0 x1 hk1 hk2
  go_wp2
  go_roundg (gk - 1)
  case measure=>omega
  case rel=>exact ⟨k+1,by go_num,by omega,by omega,fun _=>HX.out,fun _=>HY.out,hB⟩
 have d:(y != 0)=true:=by simp [hy]
 have a:(y == 0)=false:=by simp [hy]
 have hE:Hid (orV x y=y):=if_pos hx
 clear hx hy x0 x1 hk1 hk2
 go_wp2
 go_ret
 exact ⟨zao hE.out.symm,hB⟩
def lessV (f l f' l':Int):Int:=orV (cmpI f f') (cmpI l l')
theorem zbM {f l f' l':Int}:lessV f l f' l'<0↔f<f'∨f=f'/\l<l':=by
 unfold lessV orV cmpI
 split <;> split <;> (try split) <;> (try split) <;> omega
theorem zhC (f l t f' l' t':Int) (w:World) :
  Calls Tryz.prog 151 #[.agg #[.int .i64 f,.int .i64 l,.int .i64 t],.agg #[.int .i64 f',.int .i64 l',.int .i64 t']] w fun e w'=>e=.returned (.int .i64 (lessV f l f' l'))/\Below w.heap.size w w':=by
 go_enter Tryz.func151, Tryz.ntmps151
 go_upto_region 1 with fail
 obtain ⟨B1,c⟩:=exx ((Obj.cells #[.int .i64 f,.int .i64 l,.int .i64 t] 90))
 obtain ⟨B2,b⟩:=exx ((Obj.cells #[.int .i64 f',.int .i64 l',.int .i64 t'] 90))
 rw [<-c,<-b]
 have a:Below (w.heap.size+1) (w.alloc B1) ((w.alloc B1).alloc B2):=(Below.refl _ _).alloc (by simp) _
 have hW:=zaC a
 have p0:((w.alloc B1).alloc B2).cell? ⟨w.heap.size,0,none⟩=some (.int .i64 f):=by subst c; exact tbox a rfl
 have p1:((w.alloc B1).alloc B2).cell? ⟨w.heap.size,1,none⟩=some (.int .i64 l):=by subst c; exact tbox a rfl
 have p2:((w.alloc B1).alloc B2).cell? ⟨w.heap.size+1,0,none⟩=some (.int .i64 f'):=by subst b; simp
 have p3:((w.alloc B1).alloc B2).cell? ⟨w.heap.size+1,1,none⟩=some (.int .i64 l'):=by subst b; simp
 obtain ⟨w1,d⟩:∃ W,W=(w.alloc B1).alloc B2:=⟨_,rfl⟩
 rw [<-d] at hW p0 p1 p2 p3 ⊢;clear a d c b
 refine wp_region_held_drew (S:=fun w'=>w'.cell? ⟨w.heap.size,0,none⟩=some (.int .i64 f)/\w'.cell? ⟨w.heap.size,1,none⟩=some (.int .i64 l)/\w'.cell? ⟨w.heap.size+1,0,none⟩=some (.int .i64 f')/\w'.cell? ⟨w.heap.size+1,1,none⟩=some (.int .i64 l')) (by kernel_rfl) ⟨cellS (Below.refl _ _).drew p0,cellS (Below.refl _ _).drew p1,cellS (Below.refl _ _).drew p2,cellS (Below.refl _ _).drew p3⟩ (fun hHeld=>?_)
 obtain ⟨w2,hw,kb⟩:=dwx w1
 rw [<-hw] at hHeld ⊢;clear hw;replace hW:=onS hW kb;replace p0:=cellS kb p0;replace p1:=cellS kb p1;replace p2:=cellS kb p2;replace p3:=cellS kb p3;clear kb
 refine tkq 0 (h:=tkq 1 (h:=tkq 2 (h:=tkq 3 (h:=tkq 5 (h:=tkq 6 (h:=tkq 7 (h:=tkq 8 (h:=?_))))))))
 refine rdq 4 (h:=fun K hK=>?_)
 go_simp
 go_wp2_with fail
 refine (zg8 f f' w2).mono ?_
 rintro e w3 ⟨rfl,kb⟩
 replace hW:=onS hW kb;replace p0:=cellS kb p0;replace p1:=cellS kb p1;replace p2:=cellS kb p2;replace p3:=cellS kb p3;clear kb
 refine bkq hK ⟨p0,p1,p2,p3⟩ (h:=fun hHeld=>?_)
 clear hK K
 refine rdq 9 (h:=fun K hK=>?_)
 go_simp
 go_wp2_with fail
 refine (zg8 l l' w3).mono ?_
 rintro e w4 ⟨rfl,kb⟩
 replace hW:=onS hW kb;replace p0:=cellS kb p0;replace p1:=cellS kb p1;replace p2:=cellS kb p2;replace p3:=cellS kb p3;clear kb
 refine bkq hK ⟨p0,p1,p2,p3⟩ (h:=fun hHeld=>?_)
 clear hK K
 refine rdq 10 (h:=fun K hK=>?_)
 go_simp
 obtain ⟨w5,hw⟩:=exx (World.alloc w4 (Obj.cells #[.int .i64 (cmpI f f'),.int .i64 (cmpI l l')] 3))
 have kb:=alx hw
 have hi:IntsR w5 w5.heap.size (some ⟨w4.heap.size,0,none⟩) 2 (fun i=>if i=0 then cmpI f f' else cmpI l l'):=by
  rw [hw]
  intro i hi
  refine ⟨_,0,rfl,by simp,fun j hj=>?_⟩
  obtain rfl:j=0:=by omega
  match i,hi with
  | 0,_=>simp
  | 1,_=>simp
 rw [<-hw];clear hw
 obtain ⟨nb,g⟩:=exx w4.heap.size
 rw [<-g] at hi ⊢;clear g;replace hW:=onS hW kb;replace p0:=cellS kb p0;replace p1:=cellS kb p1;replace p2:=cellS kb p2;replace p3:=cellS kb p3;clear kb
 refine bkq hK ⟨p0,p1,p2,p3⟩ (h:=fun hHeld=>?_)
 clear hK K
 refine rdq 11 (h:=fun K hK=>?_)
 go_simp
 go_wp2_with fail
 refine ((show Calls _ _ _ _ (fun e w'=>e=.returned (.int .i64 (lessV f l f' l'))/\Below w5.heap.size w5 w') from zgD (some ⟨nb,0,none⟩) 2 _ w5 hi)).mono ?_
 rintro e w6 ⟨rfl,kb⟩
 replace hW:=onS hW kb;replace p0:=cellS kb p0;replace p1:=cellS kb p1;replace p2:=cellS kb p2;replace p3:=cellS kb p3;replace hi:=hi.on kb;clear kb
 refine bkq hK ⟨p0,p1,p2,p3⟩ (h:=fun hHeld=>?_)
 clear hK K
 refine tkq 12 (h:=?_)
 refine wpAnyH_done (by kernel_rfl) ?_ _
 clear hHeld
 go_wp2_with fail
 go_ret
 exact ⟨rfl,hW⟩
theorem zct (A:Option Addr) (n c:Nat) (f:Nat->Bool) (v:Bool) (w:World) (h:Rd w w.heap.size A n 1 (fun i _=>.bool (f i))) (hn:n<=1048576) :
  Calls Tryz.prog 162 #[.slice A n c,.bool v] w fun e w'=>(∃ r:Bool,e=.returned (.bool r)/\(r=true↔∃ i,i<n/\f i=v))/\Below w.heap.size w w':=by
 have j:Calls Tryz.prog 212 #[.slice A n c,.bool v] w fun e w'=>(∃ r:Int,e=.returned (.int .i64 r)/\(0<=r↔∃ i,i<n/\f i=v))/\Below w.heap.size w w':=by
  go_enter Tryz.func212, Tryz.ntmps212
  go_wp2
  go_loopg [5,8] n (fun gg ev iv wx=>∃ k:Nat,iv=.int .i64 (k:Nat)/\k<=n/\n<=k+gg/\(∀ i,i<k->f i≠v)/\Below w.heap.size w wx)
  case atStart=>exact ⟨0,rfl,by omega,by omega,fun i hi=>absurd hi (by omega),Below.refl _ _⟩
  obtain ⟨k,rfl,hk,u,a,hB⟩:=hrel
  have p:(0:Int)<=(k:Int):=by omega
  have d:=hid a
  clear a
  by_cases hlt:k<n
  rotate_left
  ·have g:¬ (k:Int)<(n:Int):=by omega
   have l:Hid (¬ ∃ i,i<n/\f i=v):=fun ⟨i,hi,e⟩=>d.out i (by omega) e
   go_wp2
   go_ret
   exact ⟨⟨_,rfl,fun h=>absurd h (by omega),fun h=>absurd h l.out⟩,hB⟩
  have g:(k:Int)<(n:Int):=by omega
  obtain ⟨b,o,rfl,hb,x0⟩:=Rd.at1 ((Rd.below h hB (Nat.le_refl _)).mono hB.size) hlt
  obtain ⟨y,hy⟩:=exx (f k)
  rw [<-hy] at x0
  have HY:=hid hy
  clear hy
  by_cases he:v=y
  ·have s:(v == y)=true:=by simp [he]
   have q:Hid (∃ i,i<n/\f i=v):=⟨k,hlt,by rw [he,HY.out]⟩
   clear he
   go_wp2
   go_ret
   exact ⟨⟨_,rfl,fun _=>q.out,fun _=>p⟩,hB⟩
  have s:(v == y)=false:=by simp [he]
  have m:Hid (∀ i,i<k+1->f i≠v):=fun i hi=>by
   by_cases e:i=k
   ·subst e; rw [<-HY.out]; exact fun h=>he h.symm
   ·exact d.out i (by omega)
  clear he
  go_wp2
  go_roundg (gk - 1)
  case measure=>omega
  case rel=>exact ⟨k+1,by go_num,by omega,by omega,m.out,hB⟩
 go_enter Tryz.func162, Tryz.ntmps162
 go_wp2_with fail
 refine j.mono ?_
 rintro e w1 ⟨⟨r,rfl,hr⟩,hB⟩
 have HR:=hid hr
 clear hr
 by_cases h0:0<=r
 ·have t:decide (r ≥ 0)=true:=by simpa using h0
  have hE:=hid (HR.out.1 h0)
  go_wp2
  go_ret
  exact ⟨⟨_,rfl,by simpa using hE.out⟩,hB⟩
 have t:decide (r ≥ 0)=false:=by simp; omega
 have hE:Hid (¬ ∃ i,i<n/\f i=v):=fun h=>h0 (HR.out.2 h)
 go_wp2
 go_ret
 refine ⟨⟨_,rfl,?_⟩,hB⟩
 simp only [Bool.false_eq_true,false_iff]
 exact hE.out
theorem zac {w w':World} {g k:Nat} {v:Value} {row:Option Nat} (h:w.cell? ⟨g,k,none⟩=some v) (hg:w.grownBy w' row) (hne:row≠some g):w'.cell? ⟨g,k,none⟩=some v:=by
 have hl:=World.block_lt_of_cell? _ _ h
 have hb:=hg.block g hl (fun e=>hne e.symm)
 rw [<-h]
 simp only [World.cell?,hb]
theorem zdc {w wr:World} {o1 o2:Obj} (h:Below (w.heap.size+2) ((w.alloc o1).alloc o2) wr):Below w.heap.size w wr:=(((Below.refl w.heap.size w).alloc (Nat.le_refl _) o1).alloc (by simp) o2).trans (h.mono (by omega))
theorem zhD {w wr:World} {o1 o2:Obj} (h:Below (w.heap.size+2) ((w.alloc o1).alloc o2) wr):w.heap.size+2<=wr.heap.size:=by have:=h.size; simp at this; omega
theorem zgE {w wr w':World} {o1 o2:Obj} (h:Below (w.heap.size+2) ((w.alloc o1).alloc o2) wr) (hb:Below wr.heap.size wr w'):Below (w.heap.size+2) ((w.alloc o1).alloc o2) w':=h.trans (hb.mono (zhD h))
theorem zak {b:Nat} {w W Y:World} (h:Below b w W) (hl:b<=W.heap.size) (kb:Below W.heap.size W Y):Below b w Y:=h.trans (kb.mono hl)
theorem zfO (n:Nat) (h:n<4294967296):bits .and .u64 (n:Int) 4294967295=(n:Int):=by
 have h1:(BitVec.ofInt 64 4294967295).toNat=2 ^ 32 - 1:=by decide
 have a:(BitVec.ofInt 64 (n:Int) &&& BitVec.ofInt 64 4294967295).toNat=((n:Int) % ((2 ^ 64:Nat):Int)).toNat % 2 ^ 32:=by
  rw [BitVec.toNat_and,BitVec.toNat_ofInt,h1,Nat.and_two_pow_sub_one_eq_mod]
 show IntKind.u64.wrap ((BitVec.ofInt 64 (n:Int) &&& BitVec.ofInt 64 4294967295).toNat:Nat)=(n:Int)
 rw [a,IntKind.wrap_u64]
 omega
theorem zgF (n:Nat) (h:n<4294967296) (w:World):Calls Tryz.prog 221 #[.int .u64 1,.int .u64 (n:Nat)] w fun e w'=>e=.returned (.tuple #[.int .u64 0,.int .u64 (n:Nat)])/\w'=w:=by
 have h1:bits .and .u64 1 4294967295=1:=zfO 1 (by omega)
 have h0:bits .and .u64 0 4294967295=0:=zfO 0 (by omega)
 have hn:=zfO n h
 have hd:(n:Int) / 4294967296=0:=by omega
 have hw:IntKind.u64.wrap (n:Int)=(n:Int):=IntWalk.u64_in _ (by omega)
 go_enter Tryz.func221, Tryz.ntmps221
 go_wp2
 go_ret2
 exact ⟨rfl,rfl⟩
theorem zig (n:Nat) (h:n<4294967296) (w:World):Calls Tryz.prog 179 #[.int .u64 1,.int .u64 (n:Nat)] w fun e w'=>e=.returned (.tuple #[.int .u64 0,.int .u64 (n:Nat)])/\w'=w:=by
 have hw:IntKind.u64.wrap (n:Int)=(n:Int):=IntWalk.u64_in _ (by omega)
 go_enter Tryz.func179, Tryz.ntmps179
 go_wp2_with fail
 refine (zgF n h w).mono ?_
 rintro e w1 ⟨rfl,rfl⟩
 go_wp2
 go_ret2
 exact ⟨rfl,rfl⟩
def filled (U Z:Value) (k n:Nat):List Value:=List.replicate k U ++ List.replicate (n - k) Z
theorem zb5 (U Z:Value) {k n:Nat} (h:k<=n):(filled U Z k n).length=n:=by simp [filled]; omega
theorem zdF {U Z:Value} {k n j:Nat} (hj:j<k):(filled U Z k n)[j]?=some U:=by
 unfold filled
 rw [List.getElem?_append_left (by simpa using hj)]
 simp [hj]
theorem zb6 (U Z:Value) (k m n:Nat):splice (filled U Z k n) k (List.replicate m U)=filled U Z (k+m) n:=by
 unfold splice filled
 rw [List.take_append_of_le_length (by simp),List.take_of_length_le (by simp),List.length_replicate,List.drop_append,List.drop_of_length_le (by simp),List.nil_append,List.length_replicate,List.drop_replicate,show k+m - k=m by omega,show n - k - m=n - (k+m) by omega,<-List.append_assoc,List.replicate_append_replicate]
theorem zcu (U Z:Value) (n:Nat):(madeCells #[Z] n).toList=filled U Z 0 n:=by
 apply List.ext_getElem?
 intro i
 simp only [filled,List.replicate_zero,List.nil_append,Nat.sub_zero,List.getElem?_replicate,Array.getElem?_toList]
 by_cases h:i<n
 ·rw [if_pos h]
  simp [madeCells,h]
  have:i % 1=0:=Nat.mod_one i
  simp [this]
 rw [if_neg h]
 simp [madeCells]
 omega
def hitB (f:Nat->Int):Nat->Int->Bool
 | 0,_=>false
 | j+1,v=>hitB f j v || decide (f j=v)
theorem za7 {f:Nat->Int} {v:Int}:∀ {j:Nat},hitB f j v=true↔∃ i,i<j/\f i=v:=by
 intro j
 induction j with
 | zero=>simp [hitB]
 | succ j ih =>
  simp only [hitB,Bool.or_eq_true,decide_eq_true_eq,ih]
  constructor
  ·rintro (⟨i,hi,e⟩ | e)
   ·exact ⟨i,by omega,e⟩
   ·exact ⟨j,by omega,e⟩
  ·rintro ⟨i,hi,e⟩
   by_cases h:i=j
   ·subst h; exact .inr e
   ·exact .inl ⟨i,by omega,e⟩
def Trel.after (T:Trel) (i j:Nat):Prop:=T.fr i (j - 1)<T.fr i j∨T.fr i (j - 1)=T.fr i j/\T.lb i (j - 1)<T.lb i j
instance (T:Trel) (i j:Nat):Decidable (T.after i j):=by unfold Trel.after; exact inferInstance
def Trel.edgeOk (T:Trel) (i j:Nat):Prop:=0<=T.lb i j/\T.lb i j<256/\(0<j->T.after i j)
instance (T:Trel) (i j:Nat):Decidable (T.edgeOk i j):=by unfold Trel.edgeOk; exact inferInstance
def Trel.secOk (T:Trel) (i:Nat):Prop :=
 (∀ j,j<T.el i->T.edgeOk i j)/\(∀ v,v<(T.W i).toNat->hitB (T.fr i) (T.el i) (v:Nat)=true)/\(∀ v,v<(T.W (i+1)).toNat->hitB (T.to i) (T.el i) (v:Nat)=true)
instance (T:Trel) (i:Nat):Decidable (T.secOk i):=by unfold Trel.secOk; exact inferInstance
def Trel.properE (T:Trel):Int :=
 if T.shapeE≠0 then T.shapeE else if T.W 0≠1∨T.W T.n≠1 then 5 else if ∀ i,i<T.n->T.secOk i then 0 else 5
structure Trel.Proper (T:Trel):Prop where
 shape:T.Shape
 w0:T.W 0=1
 wn:T.W T.n=1
 sec:∀ i,i<T.n->T.secOk i
theorem Trel.proper_of {T:Trel} (h:T.properE=0):T.Proper:=by
 unfold Trel.properE at h
 by_cases h1:T.shapeE=0
 ·rw [if_neg (by simpa using h1)] at h
  by_cases h2:T.W 0≠1∨T.W T.n≠1
  ·rw [if_pos h2] at h; omega
  rw [if_neg h2] at h
  by_cases h3:∀ i,i<T.n->T.secOk i
  ·exact ⟨Trel.shape_of h1,by omega,by omega,h3⟩
  ·rw [if_neg h3] at h; omega
 ·rw [if_pos h1] at h; exact absurd h h1
theorem Trel.properE_shape {T:Trel} (h:T.shapeE≠0):T.properE=T.shapeE:=by unfold Trel.properE; rw [if_pos h]
theorem Trel.properE_end {T:Trel} (h:T.shapeE=0) (h2:T.W 0≠1∨T.W T.n≠1):T.properE=5:=by unfold Trel.properE; rw [if_neg (by simpa using h),if_pos h2]
theorem Trel.properE_sec {T:Trel} (h:T.shapeE=0) {i:Nat} (hi:i<T.n) (h2:¬ T.secOk i):T.properE=5:=by
 unfold Trel.properE
 rw [if_neg (by simpa using h)]
 split
 ·rfl
 ·rw [if_neg fun h3=>h2 (h3 i hi)]
theorem Trel.properE_ok {T:Trel} (h:T.shapeE=0) (h0:T.W 0=1) (hn:T.W T.n=1) (h2:∀ i,i<T.n->T.secOk i):T.properE=0:=by
 unfold Trel.properE
 rw [if_neg (by simpa using h),if_neg (by omega),if_pos h2]
theorem zaJ {w:World} {p q:Addr} {u v:Value} (h:w.cell? q=some v) (hne:q.block≠p.block):(w.setCell p u).cell? q=some v :=
 (World.cell?_setCell_other w p q u (fun e=>hne (by rw [e]))).trans h
theorem zdG (T:Trel) (A B:Option Addr) (c d:Nat) (w:World) (h:T.Reads w A B) :
  Calls Tryz.prog 95 #[.agg #[.slice A T.nw c,.slice B T.n d]] w fun e w'=>e=.returned (.int .i64 T.properE)/\Below w.heap.size w w':=by
 obtain ⟨RB,av⟩:=exx ((Obj.cells #[.slice A T.nw c,.slice B T.n d] 53))
 have ay:Below (w.heap.size+1) (w.alloc RB) (w.alloc RB):=Below.refl _ _
 have HS:Hid (∀ w',Below (w.heap.size+1) (w.alloc RB) w'->(w'.cell? ⟨w.heap.size,0,none⟩=some (.slice A T.nw c)/\w'.cell? ⟨w.heap.size,1,none⟩=some (.slice B T.n d))/\Below w.heap.size w w'):=fun w' hB=>by
  have cm:=zaC hB
  subst av
  exact ⟨⟨tbox hB rfl,tbox hB rfl⟩,cm⟩
 obtain ⟨⟨p0,p1⟩,hW⟩:=HS.out _ ay
 go_enter Tryz.func95, Tryz.ntmps95
 go_wp2_with fail
 rw [<-av]
 refine (zdE T A B c d _ (h.on hW)).mono ?_
 rintro e w1 ⟨rfl,hb⟩
 have ax:=zaF ay hb
 clear hW p0 p1 hb ay av
 obtain ⟨⟨p0,p1⟩,hW⟩:=HS.out _ ax
 by_cases hs:T.shapeE=0
 rotate_left
 ·have hE:=hid (Trel.properE_shape hs)
  have hn:(T.shapeE != 0)=true:=by simpa using hs
  obtain ⟨x,hx⟩:=exx T.shapeE
  rw [<-hx] at hE hn ⊢;clear hs hx
  go_wp2
  go_ret
  exact ⟨zao hE.out.symm,hW⟩
 have M:=hid (Trel.shape_of hs)
 have a6:=hid hs
 rw [hs]
 have HR:=hid h
 have bj:T.nw=T.n+1:=M.out.nw
 have d7:=hid bj
 have d6:T.n<=64:=M.out.n64
 have cb:T.n<T.nw:=by omega
 have bi:(T.n:Int)<(T.nw:Int):=by omega
 have ca:0<T.nw:=by omega
 have bh:(0:Int)<(T.nw:Int):=by omega
 have cq:=hid ax
 clear hs bj h ax
 obtain ⟨b,o,hA,hb,x0,_,_⟩:=(HR.out.on hW).width (i:=0) (by omega)
 obtain ⟨_,_,a5,_,x1,_,_⟩:=(HR.out.on hW).width (i:=T.n) (by omega)
 subst hA
 injection a5 with e1
 injection e1 with e1 e2
 subst e1 e2
 obtain ⟨u0,ae⟩:=exx (T.W 0)
 obtain ⟨u1,ad⟩:=exx (T.W T.n)
 rw [Nat.add_zero,<-ae] at x0;rw [<-ad] at x1
 have bt:=hid ae
 have bs:=hid ad
 clear ae ad
 by_cases h0:u0=1
 rotate_left
 ·have c0:(u0 != 1)=true:=by simp [h0]
  have hE:=hid (T.properE_end a6.out (.inl (by rw [<-bt.out]; exact h0)))
  go_wp2
  go_ret
  exact ⟨zao hE.out.symm,hW⟩
 have c0:(u0 != 1)=false:=by simp [h0]
 by_cases h1:u1=1
 rotate_left
 ·have c1:(u1 != 1)=true:=by simp [h1]
  have hE:=hid (T.properE_end a6.out (.inr (by rw [<-bs.out]; exact h1)))
  go_wp2
  go_ret
  exact ⟨zao hE.out.symm,hW⟩
 have c1:(u1 != 1)=false:=by simp [h1]
 have co:Hid (T.W 0=1):=bt.out.symm.trans h0
 have cn:Hid (T.W T.n=1):=bs.out.symm.trans h1
 clear h0 h1
 go_wp2
 go_loopg [35] T.n (fun gg iv wx=>∃ k:Nat,iv=.int .i64 (k:Nat)/\k<=T.n/\T.n<=k+gg/\(∀ i,i<k->T.secOk i)/\Below (w.heap.size+1) (w.alloc RB) wx)
 case atStart=>exact ⟨0,rfl,by omega,by omega,fun i hi=>absurd hi (by omega),cq.out⟩
 clear hW p0 p1 x0 x1
 obtain ⟨gK,cg⟩:=exx gk
 subst cg
 obtain ⟨k,rfl,hk,cv,y,hB⟩:=hrel
 obtain ⟨wk,ab⟩:=exx wr
 subst ab
 have cx:(0:Int)<=(k:Int):=by omega
 have HB:=hid hB
 have cs:=za5 hB
 clear hB
 obtain ⟨⟨p0,p1⟩,hW⟩:=HS.out _ HB.out
 have a0:=hid y
 clear y
 by_cases hlt:k<T.n
 rotate_left
 ·have am:¬ (k:Int)<(T.n:Int):=by omega
  have hE:=hid (T.properE_ok a6.out co.out cn.out fun i hi=>a0.out i (by omega))
  go_wp2
  go_ret
  exact ⟨zao hE.out.symm,hW⟩
 have am:(k:Int)<(T.n:Int):=by omega
 have cw:k+1<T.nw:=by omega
 have ce:(k:Int)+1<(T.nw:Int):=by omega
 have cd:(k:Int)<(T.nw:Int):=by omega
 obtain ⟨wa,wo,hA,_,y0,c6,c5⟩:=(HR.out.on hW).width (i:=k) (by omega)
 obtain ⟨_,_,a5,_,y1,c4,c3⟩:=(HR.out.on hW).width (i:=k+1) (by omega)
 rw [hA] at a5
 injection hA with e1
 injection e1 with e1 e2
 subst e1 e2
 injection a5 with e1
 injection e1 with e1 e2
 subst e1 e2
 obtain ⟨eb,eo,E,ec,rfl,d4,x0,d5,ck,bq,bp⟩:=(HR.out.on hW).sec hlt
 unfold maxLen at ck
 have ab:=M.out.wid (i:=k) (by omega)
 have aa:=M.out.wid (i:=k+1) (by omega)
 have d3:=M.out.elb hlt
 obtain ⟨n1,ak⟩:∃ n:Nat,(n:Int)=T.W k:=⟨(T.W k).toNat,by omega⟩
 obtain ⟨n2,aj⟩:∃ n:Nat,(n:Int)=T.W (k+1):=⟨(T.W (k+1)).toNat,by omega⟩
 rw [<-ak] at y0 ab;rw [<-aj] at y1 aa
 have b7:=hid ak
 have b6:=hid aj
 have bv:=hid bq
 have d8:=hid bp
 have br:=hid x0
 have bk:=fun W=>zaf (P:=Tryz.prog) 185 4 _ 1 Tryz.underlying185 Tryz.infoBool rfl (n1:Int) (by omega) (by omega) (by omega) W
 have R:=fun W=>zaf (P:=Tryz.prog) 185 4 _ 1 Tryz.underlying185 Tryz.infoBool rfl (n2:Int) (by omega) (by omega) (by omega) W
 simp only [Int.toNat_natCast] at bk R
 clear ak aj bq bp c6 c5 c4 c3
 go_upto_region 12 with fail
 have m:=zab (World.rowIs_made wk (.bool false) n1 4) ((Below.refl _ _).alloc (Nat.le_refl _) (Obj.cells (madeCells #[Value.bool false] n2) 4))
 have l:=World.rowIs_made (wk.alloc (Obj.cells (madeCells #[Value.bool false] n1) 4)) (.bool false) n2 4
 have aq:=(((Below.refl wk.heap.size wk).alloc (Nat.le_refl _) (Obj.cells (madeCells #[Value.bool false] n1) 4)).alloc (by simp) (Obj.cells (madeCells #[Value.bool false] n2) 4))
 simp only [World.size_alloc] at l ⊢
 obtain ⟨wm,bd⟩:∃ W,W=(wk.alloc (Obj.cells (madeCells #[Value.bool false] n1) 4)).alloc (Obj.cells (madeCells #[Value.bool false] n2) 4):=⟨_,rfl⟩
 rw [<-bd] at m l aq ⊢
 obtain ⟨b1,au⟩:=exx wk.heap.size
 obtain ⟨b2,ar⟩:=exx (wk.heap.size+1)
 rw [<-au] at m;rw [<-ar] at l;rw [<-ar,<-au]
 have ai:b1≠b2:=by omega
 have bc:wk.heap.size<=b1:=by omega
 have bb:wk.heap.size<=b2:=by omega
 have F:Hid (wm.rowIs b1 4 n1 (fun v=>.bool (hitB (T.fr k) 0 (v:Nat)))):=m.congr fun _ _=>rfl
 have D:Hid (wm.rowIs b2 4 n2 (fun v=>.bool (hitB (T.to k) 0 (v:Nat)))):=l.congr fun _ _=>rfl
 have a8:=hid aq
 have L:Hid (¬ T.secOk k->T.properE=5):=fun hb=>T.properE_sec a6.out hlt hb
 clear m l aq bd au ar bk R p0 p1 x0 hW
 obtain ⟨⟨p0,p1⟩,hW⟩:=HS.out _ (zaF HB.out a8.out)
 have x0:=cellS a8.out br.out
 go_wp2
 go_loopg [55] (T.el k) (fun gg jv wx=>∃ j:Nat,jv=.int .i64 (j:Nat)/\j<=T.el k/\T.el k<=j+gg/\(∀ i,i<j->T.edgeOk k i)/\wx.rowIs b1 4 n1 (fun v=>.bool (hitB (T.fr k) j (v:Nat)))/\wx.rowIs b2 4 n2 (fun v=>.bool (hitB (T.to k) j (v:Nat)))/\Below wk.heap.size wk wx)
 case atStart=>exact ⟨0,rfl,by omega,by omega,fun i hi=>absurd hi (by omega),F.out,D.out,a8.out⟩
 clear hW p0 p1 x0 F D a8 y0 y1 hb
 obtain ⟨wj,c8⟩:=exx wr
 subst c8
 obtain ⟨j,rfl,hj,cy,y,m,l,G⟩:=hrel
 have cz:(0:Int)<=(j:Int):=by omega
 have z:=hid y
 obtain ⟨⟨p0,p1⟩,hW⟩:=HS.out _ (zaF HB.out G)
 have x0:=cellS G br.out
 have a7:=hid G
 have O:=m.lt
 have c7:=za5 (zaF HB.out G)
 have a9:wk.heap.size<=wj.heap.size:=G.size
 have cj:eb<wj.heap.size:=by omega
 have ac:=l.lt
 have b4:=hid m
 have b3:=hid l
 clear y
 by_cases hltj:j<T.el k
 rotate_left
 ·have V:¬ (j:Int)<(T.el k:Int):=by omega
  have bl:j=T.el k:=by omega
  have Z:Hid (∀ i,i<T.el k->T.edgeOk k i):=by rw [<-bl]; exact z
  rw [bl] at m l;clear b4 b3 z
  go_wp2_with fail
  refine (zct _ n1 n1 (fun v=>hitB (T.fr k) (T.el k) (v:Nat)) false wj (zbd m) (by omega)).mono ?_
  rintro e w2 ⟨⟨r1,rfl,a3⟩,kb⟩
  replace hW:=onS hW kb;replace l:=zab l kb
  have J:=onS a7.out kb
  clear kb m
  cases r1
  rotate_left
  ·have hE:=hid (L.out fun hs=>by
    obtain ⟨i,hi,e⟩:=a3.1 rfl
    have:=hs.2.1 i (by have:=b7.out; omega)
    rw [e] at this
    cases this)
   clear a3
   go_wp2
   go_ret
   exact ⟨zao hE.out.symm,hW⟩
  have cr:Hid (∀ i,i<n1->hitB (T.fr k) (T.el k) (i:Nat)=true):=fun i hi=>by
   cases hv:hitB (T.fr k) (T.el k) (i:Nat)
   ·exact absurd (a3.2 ⟨i,hi,hv⟩) (by simp)
   ·rfl
  clear a3
  go_wp2_with fail
  refine (zct _ n2 n2 (fun v=>hitB (T.to k) (T.el k) (v:Nat)) false w2 (zbd l) (by omega)).mono ?_
  rintro e w3 ⟨⟨r2,rfl,a2⟩,kb⟩
  replace hW:=onS hW kb;replace J:=onS J kb;clear kb l
  cases r2
  ·have HN:Hid (∀ i,i<k+1->T.secOk i):=fun i hi=>by
    by_cases e:i=k
    ·subst e
     refine ⟨Z.out,fun v hv=>cr.out v (by have:=b7.out; omega),fun v hv=>?_⟩
     cases hv2:hitB (T.to i) (T.el i) (v:Nat)
     ·exact absurd (a2.2 ⟨v,by have:=b6.out; omega,hv2⟩) (by simp)
     ·rfl
    ·exact a0.out i (by omega)
   have b9:=hid (zaF HB.out J)
   clear a2
   go_wp2
   go_roundg (gK - 1)
   case measure=>omega
   case rel=>exact ⟨k+1,by go_num,by omega,by omega,HN.out,b9.out⟩
  have hE:=hid (L.out fun hs=>by
   obtain ⟨i,hi,e⟩:=a2.1 rfl
   have:=hs.2.2 i (by have:=b6.out; omega)
   rw [e] at this
   cases this)
  clear a2
  go_wp2
  go_ret
  exact ⟨zao hE.out.symm,hW⟩
 have V:(j:Int)<(T.el k:Int):=by omega
 obtain ⟨fb,fo,rfl,d1,e0,e1,e2⟩:=zba ((Rd.below bv.out G (Nat.le_refl _)).mono G.size) hltj
 obtain ⟨i1,i2,i3,i4⟩:=M.out.ins k hlt j hltj
 rw [<-b7.out] at i2;rw [<-b6.out] at i4
 have N:Hid (T.edgeOk k j↔0<=T.lb k j/\T.lb k j<256/\(0<j->T.after k j)):=Iff.rfl
 have b5:Hid (¬ T.edgeOk k j->T.properE=5):=fun hn=>L.out fun hs=>hn (hs.1 j hltj)
 obtain ⟨fn,ao⟩:∃ n:Nat,(n:Int)=T.fr k j:=⟨(T.fr k j).toNat,by omega⟩
 obtain ⟨tn,af⟩:∃ n:Nat,(n:Int)=T.to k j:=⟨(T.to k j).toNat,by omega⟩
 obtain ⟨lb,an⟩:=exx (T.lb k j)
 have ap:fn<n1:=by omega
 have ag:tn<n2:=by omega
 have ci:(fn:Int)<(n1:Int):=by omega
 have c9:(tn:Int)<(n2:Int):=by omega
 have d2:(0:Int)<=(fn:Int):=by omega
 have ct:(0:Int)<=(tn:Int):=by omega
 have Y:Hid (T.edgeOk k j->∀ i,i<j+1->T.edgeOk k i):=fun ho i hi=>by
  by_cases e:i=j
  ·subst e; exact ho
  ·exact z.out i (by omega)
 have u0:=m.cell (i:=fn) ap
 have u1:=l.cell (i:=tn) ag
 have z0:=m.frozen fn
 have z1:=l.frozen tn
 obtain ⟨v0,bg⟩:=exx (hitB (T.fr k) j (fn:Nat))
 obtain ⟨v1,bf⟩:=exx (hitB (T.to k) j (tn:Nat))
 have Q:b2≠b1:=fun e=>ai e.symm
 rw [<-bg] at u0;rw [<-bf] at u1;rw [<-ao] at e0;rw [<-af] at e2;rw [<-an] at e1 N
 have b8:=hid ao
 have bu:=hid af
 have cp:=hid an
 clear bg bf ao af an m l G i1 i2 i3 i4
 have a4:=(a7.out.alloc a9 (Obj.cells #[.int .i64 (fn:Int),.int .i64 lb,.int .i64 (tn:Int)] 90))
 have bx:Hid (∀ v,v<n1->(if v=fn then Value.bool true else .bool (hitB (T.fr k) j (v:Nat)))=.bool (hitB (T.fr k) (j+1) (v:Nat))):=fun v hv=>by
  show _=Value.bool (hitB (T.fr k) j (v:Nat) || decide (T.fr k j=(v:Nat)))
  by_cases e:v=fn
  ·subst e; rw [if_pos rfl,<-b8.out]; simp
  ·rw [if_neg e,decide_eq_false (by have:=b8.out; omega)]; simp
 have bw:Hid (∀ v,v<n2->(if v=tn then Value.bool true else .bool (hitB (T.to k) j (v:Nat)))=.bool (hitB (T.to k) (j+1) (v:Nat))):=fun v hv=>by
  show _=Value.bool (hitB (T.to k) j (v:Nat) || decide (T.to k j=(v:Nat)))
  by_cases e:v=tn
  ·subst e; rw [if_pos rfl,<-bu.out]; simp
  ·rw [if_neg e,decide_eq_false (by have:=bu.out; omega)]; simp
 go_upto_region 15 with fail
 obtain ⟨OB,aw⟩:=exx ((Obj.cells #[.int .i64 (fn:Int),.int .i64 lb,.int .i64 (tn:Int)] 90))
 have hq:∀ i v,(#[Value.int .i64 (fn:Int),.int .i64 lb,.int .i64 (tn:Int)]:Array Value)[i]?=some v->(wj.alloc OB).cell? ⟨wj.heap.size,i,none⟩=some v:=fun i v hv=>by subst aw; exact tbox (Below.refl _ _) hv
 have q0:=hq 0 _ rfl
 have q1:=hq 1 _ rfl
 have q2:=hq 2 _ rfl
 have r:=aly wj OB
 rw [<-aw] at a4 ⊢
 obtain ⟨w50,H⟩:=exx (wj.alloc OB)
 rw [<-H] at a4 q0 q1 q2 r ⊢
 have m:=zab b4.out r
 have l:=zab b3.out r
 have q:=a4
 have be:wj.heap.size<w50.heap.size:=by rw [H]; simp
 have C:Below w.heap.size w w50:=onS hW r
 have c2:b1<wj.heap.size:=O
 have bz:b2<wj.heap.size:=ac
 clear hq H aw a4 p0 p1 x0 b4 b3 u0 u1 z0 z1
 by_cases l1:lb<0
 ·have q3:decide (lb<0)=true:=by simpa using l1
  have hE:=hid (b5.out fun ho=>by have:=(N.out.1 ho).1; omega)
  go_quiet (fail)
  go_wp2
  go_ret
  exact ⟨zao hE.out.symm,zad C _⟩
 have q3:decide (lb<0)=false:=by simpa using l1
 by_cases l2:lb ≥ 256
 ·have q4:decide (lb ≥ 256)=true:=by simpa using l2
  have q5:decide (256<=lb)=true:=by simpa using l2
  have hE:=hid (b5.out fun ho=>by have:=(N.out.1 ho).2.1; omega)
  go_quiet (fail)
  go_wp2
  go_ret
  exact ⟨zao hE.out.symm,zad C _⟩
 have q4:decide (lb ≥ 256)=false:=by simpa using l2
 have q5:decide (256<=lb)=false:=by simpa using l2
 by_cases jz:j=0
 ·have hg:decide ((j:Int) > 0)=false:=by simp; omega
  have ch:decide (0<(j:Int))=false:=by simp; omega
  have d0:decide (0<j)=false:=by simp; omega
  have ah:=hid (N.out.2 ⟨by omega,by omega,fun h=>absurd h (by omega)⟩)
  clear jz e0 e1 e2
  go_quiet (fail)
  go_upto_region 17 with fail
  replace r:=zad (Below.refl w50.heap.size w50) nq;replace q0:=cellS r q0;replace q2:=cellS r q2;replace m:=zab m r;replace l:=zab l r;replace q:=onS q r
  obtain ⟨w60,s⟩:=exx (w50.drewN nq)
  rw [<-s] at q0 q2 m l q ⊢;clear s r C q1
  refine wp_region_held_drew (S:=fun w'=>w'.cell? ⟨wj.heap.size,0,none⟩=some (.int .i64 fn)/\w'.cell? ⟨wj.heap.size,2,none⟩=some (.int .i64 tn)) (by kernel_rfl) ⟨cellS (Below.refl _ _).drew q0,cellS (Below.refl _ _).drew q2⟩ (fun hHeld=>?_)
  obtain ⟨w61,hw,kb⟩:=dwx w60
  rw [<-hw] at hHeld ⊢;clear hw;replace m:=zab m kb;replace l:=zab l kb;replace q0:=cellS kb q0;replace q2:=cellS kb q2;replace q:=onS q kb;clear kb
  refine tkq 0 (h:=tkq 1 (h:=tkq 2 (h:=tkq 3 (h:=tkq 4 (h:=tkq 5 (h:=tkq 6 (h:=?_)))))))
  refine rdq 7 (h:=fun K hK=>?_)
  have I:=m.lt
  have u0:=m.cell (i:=fn) ap
  have z0:=m.frozen fn
  skip
  go_simp
  replace q0:=zaJ (p:=⟨b1,fn,none⟩) (u:=.bool true) q0 (by show wj.heap.size≠b1; omega)
  replace q2:=zaJ (p:=⟨b1,fn,none⟩) (u:=.bool true) q2 (by show wj.heap.size≠b1; omega)
  replace q:=q.setCell (p:=⟨b1,fn,none⟩) bc (.bool true)
  replace l:=l.setOther (a:=⟨b1,fn,none⟩) (by simpa using Q) (.bool true)
  replace m:=m.set fn (.bool true)
  obtain ⟨w62,hw⟩:=exx (World.setCell w61 ⟨b1,fn,none⟩ (.bool true))
  rw [<-hw] at q0 q2 q m l ⊢;clear hw u0 z0 I
  refine bkq hK ⟨q0,q2⟩ (h:=fun hHeld=>?_)
  clear hK K
  refine tkq 8 (h:=?_)
  refine rdq 9 (h:=fun K hK=>?_)
  have I:=l.lt
  have u0:=l.cell (i:=tn) ag
  have z0:=l.frozen tn
  skip
  go_simp
  replace q0:=zaJ (p:=⟨b2,tn,none⟩) (u:=.bool true) q0 (by show wj.heap.size≠b2; omega)
  replace q2:=zaJ (p:=⟨b2,tn,none⟩) (u:=.bool true) q2 (by show wj.heap.size≠b2; omega)
  replace q:=q.setCell (p:=⟨b2,tn,none⟩) bb (.bool true)
  replace m:=m.setOther (a:=⟨b2,tn,none⟩) (by simpa using ai) (.bool true)
  replace l:=l.set tn (.bool true)
  obtain ⟨w63,hw⟩:=exx (World.setCell w62 ⟨b2,tn,none⟩ (.bool true))
  rw [<-hw] at q0 q2 q m l ⊢;clear hw u0 z0 I
  refine bkq hK ⟨q0,q2⟩ (h:=fun hHeld=>?_)
  clear hK K
  refine wpAnyH_done (by kernel_rfl) ?_ _
  clear hHeld
  have F:=m.congr (g:=fun v=>.bool (hitB (T.fr k) (j+1) (v:Nat))) (bx.out)
  have D:=l.congr (g:=fun v=>.bool (hitB (T.to k) (j+1) (v:Nat))) (bw.out)
  have b0:=hid F
  have az:=hid D
  have ba:=hid q
  clear F D m l q
  go_wp2
  go_roundg (gk - 1)
  case measure=>omega
  case rel=>exact ⟨j+1,by go_num,by omega,by omega,Y.out ah.out,b0.out,az.out,ba.out⟩
 obtain ⟨jp,rfl⟩:∃ jp,j=jp+1:=⟨j - 1,by omega⟩
 obtain ⟨_,_,X,_,g0,g1,g2⟩:=zba ((Rd.below bv.out a7.out (Nat.le_refl _)).mono a7.out.size) (j:=jp) (by omega)
 injection X with X; injection X with X hE3; subst X hE3
 have a1:Hid (T.after k (jp+1)↔T.fr k jp<T.fr k (jp+1)∨T.fr k jp=T.fr k (jp+1)/\T.lb k jp<T.lb k (jp+1)):=Iff.rfl
 rw [<-b8.out,<-cp.out] at a1
 have cu:jp<T.el k:=by omega
 have cc:(jp:Int)<(T.el k:Int):=by omega
 have cf:(0:Int)<=(jp:Int):=by omega
 obtain ⟨gf,bo⟩:=exx (T.fr k jp)
 obtain ⟨gl,bn⟩:=exx (T.lb k jp)
 obtain ⟨gt,bm⟩:=exx (T.to k jp)
 rw [<-bo] at g0 a1;rw [<-bn] at g1 a1;rw [<-bm] at g2;replace g0:=cellS r g0;replace g1:=cellS r g1;replace g2:=cellS r g2;clear bo bn bm jz e0 e1 e2 r C
 have hg:decide ((jp:Int)+1 > 0)=true:=decide_eq_true (by omega)
 have ch:decide (0<(jp:Int)+1)=true:=decide_eq_true (by omega)
 have O:IntKind.i64.wrap (jp:Int)=(jp:Int):=IntWalk.i64_in _ (by omega)
 have al:Hid (lessV gf gl fn lb<0↔gf<fn∨gf=fn/\gl<lb):=zbM
 refine wp_region_held_drew (S:=fun w'=>w'.cell? ⟨wj.heap.size,0,none⟩=some (.int .i64 fn)/\w'.cell? ⟨wj.heap.size,1,none⟩=some (.int .i64 lb)/\w'.cell? ⟨wj.heap.size,2,none⟩=some (.int .i64 tn)/\w'.cell? ⟨fb,fo+jp*3,none⟩=some (.int .i64 gf)/\w'.cell? ⟨fb,fo+jp*3+1,none⟩=some (.int .i64 gl)/\w'.cell? ⟨fb,fo+jp*3+2,none⟩=some (.int .i64 gt)) (by kernel_rfl) ⟨cellS (Below.refl _ _).drew q0,cellS (Below.refl _ _).drew q1,cellS (Below.refl _ _).drew q2,cellS (Below.refl _ _).drew g0,cellS (Below.refl _ _).drew g1,cellS (Below.refl _ _).drew g2⟩ (fun hHeld=>?_)
 obtain ⟨w51,hw,kb⟩:=dwx w50
 rw [<-hw] at hHeld ⊢;clear hw;replace m:=zab m kb;replace l:=zab l kb;replace q0:=cellS kb q0;replace q1:=cellS kb q1;replace q2:=cellS kb q2;replace g0:=cellS kb g0;replace g1:=cellS kb g1;replace g2:=cellS kb g2;replace q:=onS q kb;clear kb
 refine tkq 0 (h:=tkq 1 (h:=tkq 2 (h:=tkq 3 (h:=tkq 4 (h:=tkq 5 (h:=tkq 6 (h:=tkq 7 (h:=tkq 8 (h:=tkq 9 (h:=tkq 10 (h:=tkq 11 (h:=tkq 12 (h:=tkq 13 (h:=tkq 14 (h:=tkq 15 (h:=tkq 16 (h:=tkq 17 (h:=?_))))))))))))))))))
 refine rdq 18 (h:=fun K hK=>?_)
 go_simp
 go_wp2_with fail
 refine (zhC gf gl gt fn lb tn w51).mono ?_
 rintro e w52 ⟨rfl,kb⟩
 replace m:=zab m kb;replace l:=zab l kb;replace q0:=cellS kb q0;replace q1:=cellS kb q1;replace q2:=cellS kb q2;replace g0:=cellS kb g0;replace g1:=cellS kb g1;replace g2:=cellS kb g2;replace q:=onS q kb;clear kb
 refine bkq hK ⟨q0,q1,q2,g0,g1,g2⟩ (h:=fun hHeld=>?_)
 clear hK K
 refine tkq 19 (h:=tkq 20 (h:=tkq 21 (h:=?_)))
 refine wpAnyH_done (by kernel_rfl) ?_ _
 clear hHeld
 obtain ⟨lv,U⟩:=exx (lessV gf gl fn lb)
 rw [<-U] at al ⊢;clear U
 by_cases hl0:lv ≥ 0
 ·have q6:decide (lv ≥ 0)=true:=by simpa using hl0
  have q7:decide (0<=lv)=true:=by simpa using hl0
  have hE:=hid (b5.out fun ho=>by have:=al.out.2 (a1.out.1 ((N.out.1 ho).2.2 (by omega))); omega)
  have cl:=zaC (zaF HB.out q)
  go_wp2
  go_ret
  exact ⟨zao hE.out.symm,cl⟩
 have q6:decide (lv ≥ 0)=false:=by simpa using hl0
 have q7:decide (0<=lv)=false:=by simpa using hl0
 have ah:=hid (N.out.2 ⟨by omega,by omega,fun h=>a1.out.2 (al.out.1 (by omega))⟩)
 clear g0 g1 g2 q1
 go_upto_region 17 with fail
 obtain ⟨w60,s⟩:=exx w52
 rw [<-s] at q0 q2 m l q ⊢;clear s
 refine wp_region_held_drew (S:=fun w'=>w'.cell? ⟨wj.heap.size,0,none⟩=some (.int .i64 fn)/\w'.cell? ⟨wj.heap.size,2,none⟩=some (.int .i64 tn)) (by kernel_rfl) ⟨cellS (Below.refl _ _).drew q0,cellS (Below.refl _ _).drew q2⟩ (fun hHeld=>?_)
 obtain ⟨w61,hw,kb⟩:=dwx w60
 rw [<-hw] at hHeld ⊢;clear hw;replace m:=zab m kb;replace l:=zab l kb;replace q0:=cellS kb q0;replace q2:=cellS kb q2;replace q:=onS q kb;clear kb
 refine tkq 0 (h:=tkq 1 (h:=tkq 2 (h:=tkq 3 (h:=tkq 4 (h:=tkq 5 (h:=tkq 6 (h:=?_)))))))
 refine rdq 7 (h:=fun K hK=>?_)
 have I:=m.lt
 have u0:=m.cell (i:=fn) ap
 have z0:=m.frozen fn
 skip
 go_simp
 replace q0:=zaJ (p:=⟨b1,fn,none⟩) (u:=.bool true) q0 (by show wj.heap.size≠b1; omega)
 replace q2:=zaJ (p:=⟨b1,fn,none⟩) (u:=.bool true) q2 (by show wj.heap.size≠b1; omega)
 replace q:=q.setCell (p:=⟨b1,fn,none⟩) bc (.bool true)
 replace l:=l.setOther (a:=⟨b1,fn,none⟩) (by simpa using Q) (.bool true)
 replace m:=m.set fn (.bool true)
 obtain ⟨w62,hw⟩:=exx (World.setCell w61 ⟨b1,fn,none⟩ (.bool true))
 rw [<-hw] at q0 q2 q m l ⊢;clear hw u0 z0 I
 refine bkq hK ⟨q0,q2⟩ (h:=fun hHeld=>?_)
 clear hK K
 refine tkq 8 (h:=?_)
 refine rdq 9 (h:=fun K hK=>?_)
 have I:=l.lt
 have u0:=l.cell (i:=tn) ag
 have z0:=l.frozen tn
 skip
 go_simp
 replace q0:=zaJ (p:=⟨b2,tn,none⟩) (u:=.bool true) q0 (by show wj.heap.size≠b2; omega)
 replace q2:=zaJ (p:=⟨b2,tn,none⟩) (u:=.bool true) q2 (by show wj.heap.size≠b2; omega)
 replace q:=q.setCell (p:=⟨b2,tn,none⟩) bb (.bool true)
 replace m:=m.setOther (a:=⟨b2,tn,none⟩) (by simpa using ai) (.bool true)
 replace l:=l.set tn (.bool true)
 obtain ⟨w63,hw⟩:=exx (World.setCell w62 ⟨b2,tn,none⟩ (.bool true))
 rw [<-hw] at q0 q2 q m l ⊢;clear hw u0 z0 I
 refine bkq hK ⟨q0,q2⟩ (h:=fun hHeld=>?_)
 clear hK K
 refine wpAnyH_done (by kernel_rfl) ?_ _
 clear hHeld
 have F:=m.congr (g:=fun v=>.bool (hitB (T.fr k) (jp+1+1) (v:Nat))) (bx.out)
 have D:=l.congr (g:=fun v=>.bool (hitB (T.to k) (jp+1+1) (v:Nat))) (bw.out)
 have b0:=hid F
 have az:=hid D
 have ba:=hid q
 clear F D m l q
 go_wp2
 go_roundg (gk - 1)
 case measure=>omega
 case rel=>exact ⟨jp+1+1,by go_num,by omega,by omega,Y.out ah.out,b0.out,az.out,ba.out⟩
def Trel.outs (T:Trel) (i:Nat) (v:Int) (m:Nat):List Nat:=(List.range m).filter fun j=>T.fr i j == v
theorem Trel.outs_mem {T:Trel} {i m j:Nat} {v:Int}:j ∈ T.outs i v m↔j<m/\T.fr i j=v:=by
 simp [Trel.outs]
theorem Trel.outs_pos {T:Trel} (h:T.Proper) {i:Nat} (hi:i<T.n) {v:Int} (h0:0<=v) (h1:v<T.W i):∃ j,j ∈ T.outs i v (T.el i):=by
 have h2:=(h.sec i hi).2.1 v.toNat (by omega)
 obtain ⟨j,hj,e⟩:=za7.1 h2
 exact ⟨j,Trel.outs_mem.2 ⟨hj,by omega⟩⟩
def rankOf (k:Nat->Nat) (n v:Nat):Nat:=(List.range n).countP fun u=>decide (k u<k v)
theorem zeA {p q:Nat->Bool} {l:List Nat} (h:∀ x,x ∈ l->p x=true->q x=true) {y:Nat} (hy:y ∈ l) (hq:q y=true) (hp:p y=false):l.countP p<l.countP q:=by
 induction l with
 | nil=>cases hy
 | cons a l ih =>
  have b:∀ l:List Nat,(∀ x,x ∈ l->p x=true->q x=true)->l.countP p<=l.countP q:=fun l h=>List.countP_mono_left h
  rw [List.countP_cons,List.countP_cons]
  rcases List.mem_cons.1 hy with rfl | hm
  ·rw [hp,hq]
   have:=b l fun x hx=>h x (by simp [hx])
   simp
   omega
  ·have h1:=ih (fun x hx=>h x (by simp [hx])) hm
   have h2:(if p a=true then 1 else 0)<=if q a=true then 1 else 0:=by
    by_cases e:p a=true
    ·rw [if_pos e,if_pos (h a (by simp) e)]
     exact Nat.le_refl _
    ·rw [if_neg e]
     exact Nat.zero_le _
   omega
theorem zeB {k:Nat->Nat} {n u v:Nat} (hu:u<n) (h:k u<k v):rankOf k n u<rankOf k n v:=by
 unfold rankOf
 exact zeA (fun x _ hx=>by simp at hx ⊢; omega) (List.mem_range.2 hu) (by simpa using h) (by simp)
theorem zeb {k:Nat->Nat} {n v:Nat} (hv:v<n):rankOf k n v<n:=by
 have h:=zeA (p:=fun u=>decide (k u<k v)) (q:=fun _=>true) (l:=List.range n) (fun _ _ _=>rfl) (List.mem_range.2 hv) rfl (by simp)
 unfold rankOf
 simpa using h
theorem zfP {k:Nat->Nat} {n u v:Nat} (hk:∀ a b,a<n->b<n->k a=k b->a=b) (hu:u<n) (hv:v<n) (h:rankOf k n u=rankOf k n v):u=v:=by
 rcases Nat.lt_trichotomy (k u) (k v) with h1 | h1 | h1
 ·have:=zeB hu h1; omega
 ·exact hk u v hu hv h1
 ·have:=zeB hv h1; omega
theorem zcv {k:Nat->Nat} {n:Nat} {l:List Nat} (hp:l.Perm (List.range n)) (hs:∀ p q,p<q->q<l.length->k (l.getD p 0)<k (l.getD q 0)) {p:Nat} (h:p<l.length):rankOf k n (l.getD p 0)=p:=by
 unfold rankOf
 rw [<-hp.countP_eq]
 have b : ∀ (m : List Nat) (c : Nat), (∀ i, i < m.length → (decide (k (m.getD i 0) < k (l.getD p 0)) = true ↔ i < c)) → c ≤ m.length → m.countP (fun u => decide (k u < k (l.getD p 0))) = c := by
  intro m
  induction m with
  | nil=>intro c _ hc; simp at hc; simp [hc]
  | cons a m ih =>
   intro c h1 hc
   rw [List.countP_cons]
   have h0:=h1 0 (by simp)
   by_cases e:c=0
   ·subst e
    have ha:decide (k a<k (l.getD p 0))=false:=by
     cases hd:decide (k a<k (l.getD p 0)) with
     | false=>rfl
     | true=>exact absurd (h0.1 (by simpa using hd)) (by omega)
    rw [ih 0 (fun i hi=>by
     have:=h1 (i+1) (by simp; omega)
     constructor
     ·intro h2
      have:=this.1 (by simpa using h2)
      omega
     ·intro h2; omega) (by omega),ha]
    simp
   ·have ha:decide (k a<k (l.getD p 0))=true:=by simpa using h0.2 (by omega)
    rw [ih (c - 1) (fun i hi=>by
     have:=h1 (i+1) (by simp; omega)
     constructor
     ·intro h2
      have:=this.1 (by simpa using h2)
      omega
     ·intro h2
      have:=this.2 (by omega)
      simpa using this) (by simp at hc; omega),ha]
    simp
    omega
 refine b l p (fun i hi=>?_) (by omega)
 rw [decide_eq_true_iff]
 constructor
 ·intro h1
  rcases Nat.lt_trichotomy i p with h2 | h2 | h2
  ·exact h2
  ·subst h2; omega
  ·have:=hs p i h2 hi; omega
 ·intro h1
  exact hs i p h1 h
def ltE (x y:Int × Int × Int):Prop:=x.1<y.1∨x.1=y.1/\x.2.1<y.2.1
def edgeCell (x:Nat->Int × Int × Int) (i j:Nat):Value:=if j=0 then .int .i64 (x i).1 else if j=1 then .int .i64 (x i).2.1 else .int .i64 (x i).2.2
theorem zcw (x:Nat->Int × Int × Int) (i j:Nat):(edgeCell x i j).oneCell'=true:=by
 unfold edgeCell
 split
 ·rfl
 ·split <;> rfl
theorem Tryz.infoEdge:(Tryz.prog.info? 90).map (fun i=>(i.zero,i.size,i.bytes))=some (some (.agg #[.int .i64 0,.int .i64 0,.int .i64 0]),3,24):=by kernel_rfl
theorem Tryz.infoEdges:(Tryz.prog.info? 86).map (fun i=>(i.zero,i.size,i.bytes))=some (some (.slice none 0 0),1,24):=by kernel_rfl
theorem zam {w:World} {base b n n' s:Nat} {t e:TypeId} {F:Nat->Value} {v:Value} {f:Nat->Nat->Value} (h:w.rowIs b t n F) (h':Own w base e s v n' f) (hne:t≠e):v.ownBlock≠some b:=by
 rcases h' with ⟨rfl,_⟩ | ⟨g',o',cap',cur',rfl,_,a,_⟩
 ·simp [Value.ownBlock]
 intro e1
 simp [Value.ownBlock] at e1
 subst e1
 obtain ⟨cs,h1,_⟩:=h
 rw [a] at h1
 injection h1 with h1
 injection h1 with _ h1
 exact hne h1.symm
theorem zbb {w:World} {ops:Array Oper} {rest:List Oper} {o:Oper} {a:Act} {Q:Exit->Act->World->Prop} (hgd:o.guard=none) (sl x:Operand)
  (ho:o.op=.call { callee:=.builtin .append,args:=#[sl,x],argTypes:=#[22, 22] })
  {base:Nat} {v:Value} {k:Nat} {f:Nat->Int} (h:Own w base 3 1 v k (fun i _=>.int .i64 (f i))) (hv:a.eval sl=v) {ad:Addr} {c:Nat} (hx:a.eval x=.slice (some ad) 1 c)
  (hcell:w.cell? (ad.add 0)=some (.int .i64 (f k))) (hbase:base<=w.heap.size) (hN:k<=1048576)
  (K:∀ v' w',Own w' base 3 1 v' (k+1) (fun i _=>.int .i64 (f i))->w.grownBy w' v.ownBlock->(v'.ownBlock=v.ownBlock∨v'.ownBlock=some w.heap.size)->wpList Tryz.prog ops Q rest (a.put o.dst v') w'):wpList Tryz.prog ops Q (o :: rest) a w:=by
 obtain ⟨i0,qi0,qz0,qz1,qz2⟩:=info_parts Tryz.infoInt
 refine zag w hgd sl x _ ho base 3 i0 _ 1 8 Tryz.underlying22 qi0 qz0 qz1 qz2 rfl (by omega) v k _ hv h ad c hx (fun j hj=>by
   obtain rfl:j=0:=by omega
   exact hcell) (fun _ _=>rfl) (by unfold maxLen; omega) (by omega) hbase ?_
 intro v' w3 hown3 hg3 hat3
 exact K v' w3 hown3 hg3 hat3
theorem zbZ {w:World} {ops:Array Oper} {rest:List Oper} {o:Oper} {a:Act} {Q:Exit->Act->World->Prop} (hgd:o.guard=none) (sl x:Operand)
  (ho:o.op=.call { callee:=.builtin .append,args:=#[sl,x],argTypes:=#[86, 86] })
  {base:Nat} {v:Value} {k:Nat} {f:Nat->Int × Int × Int} (h:Own w base 90 3 v k (edgeCell f)) (hv:a.eval sl=v) {ad:Addr} {c:Nat} (hx:a.eval x=.slice (some ad) 1 c)
  (hcell:∀ j,j<3->w.cell? (ad.add j)=some (edgeCell f k j)) (hbase:base<=w.heap.size) (hN:k<=1048576)
  (K:∀ v' w',Own w' base 90 3 v' (k+1) (edgeCell f)->w.grownBy w' v.ownBlock->(v'.ownBlock=v.ownBlock∨v'.ownBlock=some w.heap.size)->wpList Tryz.prog ops Q rest (a.put o.dst v') w'):wpList Tryz.prog ops Q (o :: rest) a w:=by
 obtain ⟨i0,qi0,qz0,qz1,qz2⟩:=info_parts Tryz.infoEdge
 exact zag w hgd sl x _ ho base 90 i0 _ 3 24 Tryz.underlying86 qi0 qz0 qz1 qz2 rfl (by omega) v k _ hv h ad c hx hcell (fun _ _=>zcw _ _ _) (by unfold maxLen; omega) (by omega) hbase K
theorem zcx {w:World} {ops:Array Oper} {o:Oper} {a:Act} {K:Act->World->Prop} {Q:Exit->Act->World->Prop} {E:Prop} (hgd:o.guard=none) (sl x:Operand)
  (ho:o.op=.call { callee:=.builtin .append,args:=#[sl,x],argTypes:=#[86, 86] })
  {base:Nat} {v:Value} {k:Nat} {f:Nat->Int × Int × Int} (h:Own w base 90 3 v k (edgeCell f)) (hv:a.eval sl=v) {ad:Addr} {c:Nat} (hx:a.eval x=.slice (some ad) 1 c)
  (hcell:∀ j,j<3->w.cell? (ad.add j)=some (edgeCell f k j)) (hbase:base<=w.heap.size) (hN:k<=1048576)
  (K':∀ v' w',Own w' base 90 3 v' (k+1) (edgeCell f)->w.grownBy w' v.ownBlock->(v'.ownBlock=v.ownBlock∨v'.ownBlock=some w.heap.size)->K (a.put o.dst v') w') :
  if Region.wanted o (yielded ops a.tmps)=true then Oper.wp Tryz.prog o a w K Q else E:=by
 obtain ⟨i0,qi0,qz0,qz1,qz2⟩:=info_parts Tryz.infoEdge
 exact zbz w hgd sl x _ ho base 90 i0 _ 3 24 Tryz.underlying86 qi0 qz0 qz1 qz2 rfl (by omega) v k _ hv h ad c hx hcell (fun _ _=>zcw _ _ _) (by unfold maxLen; omega) (by omega) hbase K'
def ETab (w:World) (base:Nat) (v:Value) (n:Nat) (el:Nat->Nat) (y:Nat->Nat->Int × Int × Int):Prop :=
 ∃ R:Nat->Value,Own w base 86 1 v n (fun i _=>R i)/\∀ i,i<n->Own w base 90 3 (R i) (el i) (edgeCell (y i))
section
variable {w w':World} {base n:Nat} {v:Value} {el:Nat->Nat} {y:Nat->Nat->Int × Int × Int}
theorem ETab.nil (w:World) (base:Nat) (el:Nat->Nat) (y:Nat->Nat->Int × Int × Int):ETab w base (.slice none 0 0) 0 el y:=⟨fun _=>undef,Own.nil _ _ _ _ _,fun i hi=>absurd hi (by omega)⟩
theorem ETab.on (h:ETab w base v n el y) (hb:Below w.heap.size w w'):ETab w' base v n el y:=by
 obtain ⟨R,h1,h2⟩:=h
 exact ⟨R,h1.on hb,fun i hi=>(h2 i hi).on hb⟩
theorem ETab.shape (h:ETab w base v n el y):∃ A c,v=.slice A n c:=h.choose_spec.1.shape
theorem ETab.setCell (h:ETab w base v n el y) {t:TypeId} {m:Nat} {F:Nat->Value} {b i:Nat} (hr:w.rowIs b t m F) (h1:t ≠ 86) (h2:t ≠ 90) (u:Value):ETab (w.setCell ⟨b,i,none⟩ u) base v n el y:=by
 obtain ⟨R,k1,k2⟩:=h
 exact ⟨R,k1.setCell (zam hr k1 h1) u,fun i hi=>(k2 i hi).setCell (zam hr (k2 i hi) h2) u⟩
theorem ETab.congr {el':Nat->Nat} {y':Nat->Nat->Int × Int × Int} (h:ETab w base v n el y) (h1:∀ i,i<n->el i=el' i) (h2:∀ i,i<n->∀ j,j<el i->y i j=y' i j):ETab w base v n el' y':=by
 obtain ⟨R,k1,k2⟩:=h
 refine ⟨R,k1,fun i hi=>?_⟩
 rw [<-h1 i hi]
 exact (k2 i hi).congr fun j hj q _=>by unfold edgeCell; rw [h2 i hi j hj]
theorem zb9 {ops:Array Oper} {rest:List Oper} {o:Oper} {a:Act} {Q:Exit->Act->World->Prop} (hgd:o.guard=none) (sl x:Operand)
  (ho:o.op=.call { callee:=.builtin .append,args:=#[sl,x],argTypes:=#[51, 51] })
  (h:ETab w base v n el y) (hv:a.eval sl=v) {ad:Addr} {c:Nat} {r:Value} (hx:a.eval x=.slice (some ad) 1 c)
  (hcell:w.cell? (ad.add 0)=some r) (h1:r.oneCell'=true) (hrow:Own w base 90 3 r (el n) (edgeCell (y n))) (hbase:base<=w.heap.size) (hN:n<=1048576)
  (K:∀ v' w',ETab w' base v' (n+1) el y->w.grownBy w' v.ownBlock->wpList Tryz.prog ops Q rest (a.put o.dst v') w'):wpList Tryz.prog ops Q (o :: rest) a w:=by
 obtain ⟨R,hA,hB⟩:=h
 obtain ⟨i0,qi0,qz0,qz1,qz2⟩:=info_parts Tryz.infoEdges
 have ne:(86 : Nat) ≠ 90 := by decide
 have b:Own w base 86 1 v n (fun i _=>if i=n then r else R i):=hA.congr fun i hi _ _=>by rw [if_neg (by omega)]
 refine zag w hgd sl x _ ho base 86 i0 _ 1 24 Tryz.underlying51 qi0 qz0 qz1 qz2 rfl (by omega) v n _ hv b ad c hx (fun j hj=>by
   obtain rfl:j=0:=by omega
   rw [if_pos rfl]
   exact hcell) (fun _ _=>by rw [if_pos rfl]; exact h1) (by unfold maxLen; omega) (by omega) hbase ?_
 intro v' w3 hown3 hg3 _
 refine K v' w3 ⟨fun i=>if i=n then r else R i,hown3,fun i hi=>?_⟩ hg3
 show Own w3 base _ 3 (if i=n then r else R i) _ _
 by_cases e:i=n
 ·subst e
  rw [if_pos rfl]
  exact hrow.kept hg3 (zbn hA hrow ne)
 ·rw [if_neg e]
  exact (hB i (by omega)).kept hg3 (zbn hA (hB i (by omega)) ne)
theorem ETab.reads {T:Trel} {wv:Value} (h:ETab w base v T.n T.el fun i j=>(T.fr i j,T.lb i j,T.to i j)) (hA:Own w base 3 1 wv T.nw (fun k _=>.int .i64 (T.W k)))
  (hW:∀ i,i<T.nw->InI64 (T.W i)) (hy:∀ i,i<T.n->∀ j,j<T.el i->InI64 (T.fr i j)/\InI64 (T.lb i j)/\InI64 (T.to i j)) (hnw:T.nw<=140737488351232) (hn:T.n<=140737488351232) (hel:∀ i,i<T.n->T.el i<=140737488351232) :
  ∃ A B c d,wv=.slice A T.nw c/\v=.slice B T.n d/\T.Reads w A B/\T.nw<=c/\c<=maxLen/\T.n<=d/\d<=maxLen:=by
 obtain ⟨R,k1,k2⟩:=h
 obtain ⟨A,c,rfl⟩:=hA.shape
 obtain ⟨B,d,rfl⟩:=k1.shape
 refine ⟨A,B,c,d,rfl,rfl,⟨hA.rd rfl,hW,fun i hi=>?_,hnw,hn,hel⟩,hA.capL.1,hA.capL.2,k1.capL.1,k1.capL.2⟩
 obtain ⟨b,off,e,hb,hc⟩:=k1.rd rfl i hi
 have a:=hc 0 (by omega)
 rw [Nat.mul_one,Nat.add_zero] at a
 have hr:=k2 i hi
 obtain ⟨E,ec,hR⟩:=hr.shape
 rw [hR] at hr
 simp only [hR] at a
 exact ⟨b,off,E,ec,e,hb,a,hr.capL.1,hr.capL.2,hr.rd rfl,hy i hi⟩
end
theorem Trel.ord {T:Trel} {i:Nat} (h:T.secOk i):∀ q j,j<q->q<T.el i->T.fr i j<T.fr i q∨T.fr i j=T.fr i q/\T.lb i j<T.lb i q:=by
 intro q
 induction q with
 | zero=>intro j hj; omega
 | succ q ih =>
  intro j hj hq
  have h1:T.fr i q<T.fr i (q+1)∨T.fr i q=T.fr i (q+1)/\T.lb i q<T.lb i (q+1):=(h.1 (q+1) hq).2.2 (by omega)
  by_cases e:j=q
  ·subst e; exact h1
  ·have h2:=ih j (by omega) (by omega)
   omega
def grp (g:Nat->Nat) (e u:Nat):List Nat:=(List.range u).flatMap fun a=>(List.range e).filter fun j=>g j=a
theorem zih {g:Nat->Nat} {e u j:Nat}:j ∈ grp g e u↔j<e/\g j<u:=by
 unfold grp
 simp only [List.mem_flatMap,List.mem_range,List.mem_filter,decide_eq_true_eq]
 constructor
 ·rintro ⟨a,h1,h2,h3⟩; exact ⟨h2,by omega⟩
 ·rintro ⟨h1,h2⟩; exact ⟨g j,h2,h1,rfl⟩
theorem zcy {g:Nat->Nat} {e u:Nat} {R:Nat->Nat->Prop} (h1:∀ a b,a<e->b<e->g a<g b->R a b) (h2:∀ a b,a<b->b<e->g a=g b->R a b):(grp g e u).Pairwise R:=by
 unfold grp
 rw [List.pairwise_flatMap]
 refine ⟨fun a _=>?_,?_⟩
 ·refine List.Pairwise.filter _ ?_ |>.imp_of_mem ?_ (R:=fun x y=>x<y)
  ·exact List.pairwise_lt_range
  intro x y hx hy hxy
  simp only [List.mem_filter,List.mem_range,decide_eq_true_eq] at hx hy
  exact h2 x y hxy hy.1 (by omega)
 refine List.pairwise_lt_range.imp ?_
 intro a b hab x hx y hy
 simp only [List.mem_filter,List.mem_range,decide_eq_true_eq] at hx hy
 exact h1 x y hx.1 hy.1 (by omega)
theorem zhE {g:Nat->Nat} {e u:Nat} (h:∀ j,j<e->g j<u):(grp g e u).Perm (List.range e):=by
 refine (List.perm_ext_iff_of_nodup ?_ List.nodup_range).2 fun j=>?_
 ·exact zcy (fun a b _ _ h e=>by subst e; omega) (fun a b h _ _ e=>by omega)
 ·rw [zih,List.mem_range]
  exact ⟨fun h=>h.1,fun hj=>⟨hj,h j hj⟩⟩
def firsts (l:List Nat):List Nat:=l.foldl (fun a v=>if v ∈ a then a else a ++ [v]) []
theorem zdH (l:List Nat) (v:Nat):firsts (l ++ [v])=if v ∈ firsts l then firsts l else firsts l ++ [v]:=by
 unfold firsts
 rw [List.foldl_append]
 rfl
theorem zdI {l:List Nat} {v:Nat}:v ∈ firsts l↔v ∈ l:=by
 have b : ∀ m : List Nat, v ∈ firsts m.reverse ↔ v ∈ m.reverse := by
  intro m
  induction m with
  | nil=>exact Iff.rfl
  | cons a m ih =>
   rw [List.reverse_cons,zdH,List.mem_append,<-ih]
   by_cases h:a ∈ firsts m.reverse
   ·rw [if_pos h]
    constructor
    ·exact .inl
    ·rintro (h1 | h1)
     ·exact h1
     ·obtain rfl:v=a:=by simpa using h1
      exact h
   ·rw [if_neg h,List.mem_append]
 have:=b l.reverse
 rwa [List.reverse_reverse] at this
theorem zcF {R:Nat->Nat->Prop} {f:Nat->Nat} {V:List Nat} (h:∀ A B j,V=A ++ j :: B->(∀ a,a ∈ A->f a≠f j)->∀ a,a ∈ A->R (f a) (f j)):(firsts (V.map f)).Pairwise R:=by
 have c:∀ (m B:List Nat),V=m.reverse ++ B->(firsts (m.reverse.map f)).Pairwise R:=by
  intro m
  induction m with
  | nil=>intro B _; exact List.Pairwise.nil
  | cons a m ih =>
   intro B hB
   rw [List.reverse_cons,List.append_assoc] at hB
   have h1:=ih _ hB
   rw [List.reverse_cons,List.map_append,List.map_singleton,zdH]
   by_cases hm:f a ∈ firsts (m.reverse.map f)
   ·rw [if_pos hm]; exact h1
   ·rw [if_neg hm,List.pairwise_append]
    refine ⟨h1,List.pairwise_singleton _ _,?_⟩
    intro x hx y hy
    obtain rfl:y=f a:=by simpa using hy
    rw [zdI,List.mem_map] at hx hm
    obtain ⟨q,hq,rfl⟩:=hx
    exact h m.reverse B a hB (fun b hb e=>hm ⟨b,hb,e⟩) q hq
 have:=c V.reverse [] (by simp)
 rwa [List.reverse_reverse] at this
def Trel.code (T:Trel) (f:Nat->Nat) (i j:Nat):Nat:=f (T.fr i j).toNat*256+(T.lb i j).toNat
def Trel.kt (T:Trel) (f:Nat->Nat) (i:Nat):Nat->Nat->Nat
 | 0,_=>1099511627776
 | j+1,v=>if (T.to i j).toNat=v/\T.code f i j<T.kt f i j v then T.code f i j else T.kt f i j v
def Trel.nm (T:Trel):Nat->Nat->Nat
 | 0,_=>0
 | i+1,v=>rankOf (T.kt (T.nm i) i (T.el i)) (T.W (i+1)).toNat v
def Trel.tri (T:Trel) (i j:Nat):Int × Int × Int:=((T.nm i (T.fr i j).toNat:Nat),T.lb i j,(T.nm (i+1) (T.to i j).toNat:Nat))
section
variable {T:Trel} {f:Nat->Nat} {i:Nat}
theorem Trel.kt_le:∀ {j q:Nat},q<j->T.kt f i j (T.to i q).toNat<=T.code f i q:=by
 intro j
 induction j with
 | zero=>intro q h; omega
 | succ j ih =>
  intro q h
  unfold Trel.kt
  by_cases e:q=j
  ·subst e
   split
   ·exact Nat.le_refl _
   ·rename_i h1
    simp at h1
    exact h1
  ·have h1:=ih (q:=q) (by omega)
   split
   ·omega
   ·exact h1
theorem Trel.kt_att:∀ {j v:Nat},T.kt f i j v=1099511627776∨∃ q,q<j/\(T.to i q).toNat=v/\T.kt f i j v=T.code f i q:=by
 intro j v
 induction j with
 | zero=>exact .inl rfl
 | succ j ih =>
  unfold Trel.kt
  split
  ·rename_i h
   exact .inr ⟨j,by omega,h.1,rfl⟩
  ·rcases ih with h | ⟨q,h1,h2,h3⟩
   ·exact .inl h
   ·exact .inr ⟨q,by omega,h2,h3⟩
end
section
variable {T:Trel} (h:T.Proper)
include h
theorem Trel.Proper.nm_lt {i v:Nat} (hi:i<=T.n) (hv:v<(T.W i).toNat):T.nm i v<(T.W i).toNat:=by
 match i with
 | 0=>rw [h.w0]; show 0<_; decide
 | i+1=>exact zeb hv
theorem Trel.Proper.frL {i j:Nat} (hi:i<T.n) (hj:j<T.el i):(T.fr i j).toNat<(T.W i).toNat/\(((T.fr i j).toNat:Nat):Int)=T.fr i j:=by
 have:=h.shape.ins i hi j hj
 unfold Trel.inside at this
 omega
theorem Trel.Proper.toL {i j:Nat} (hi:i<T.n) (hj:j<T.el i):(T.to i j).toNat<(T.W (i+1)).toNat/\(((T.to i j).toNat:Nat):Int)=T.to i j:=by
 have:=h.shape.ins i hi j hj
 unfold Trel.inside at this
 omega
theorem Trel.Proper.lbL {i j:Nat} (hi:i<T.n) (hj:j<T.el i):(T.lb i j).toNat<256/\(((T.lb i j).toNat:Nat):Int)=T.lb i j:=by
 have:=(h.sec i hi).1 j hj
 unfold Trel.edgeOk at this
 omega
theorem Trel.Proper.code_lt {i j:Nat} (hi:i<T.n) (hj:j<T.el i):T.code (T.nm i) i j<16777216:=by
 have h1:=h.nm_lt (by omega) (h.frL hi hj).1
 have h2:=(h.shape.wid (i:=i) (by omega)).2
 have h3:=(h.lbL hi hj).1
 unfold Trel.code
 omega
theorem Trel.Proper.kt_hit {i v:Nat} (hi:i<T.n) (hv:v<(T.W (i+1)).toNat):∃ q,q<T.el i/\(T.to i q).toNat=v/\T.kt (T.nm i) i (T.el i) v=T.code (T.nm i) i q:=by
 obtain ⟨j,hj,e⟩:=za7.1 ((h.sec i hi).2.2 v hv)
 have e2:(T.to i j).toNat=v:=by omega
 have h1:=Trel.kt_le (T:=T) (f:=T.nm i) (i:=i) hj
 have h2:=h.code_lt hi hj
 rw [e2] at h1
 rcases Trel.kt_att (T:=T) (f:=T.nm i) (i:=i) (j:=T.el i) (v:=v) with h3 | h3
 ·omega
 ·exact h3
theorem Trel.Proper.code_inj {i:Nat} (hi:i<T.n) (hn:∀ u v,u<(T.W i).toNat->v<(T.W i).toNat->T.nm i u=T.nm i v->u=v) {j q:Nat} (hj:j<T.el i) (hq:q<T.el i) (e:T.code (T.nm i) i j=T.code (T.nm i) i q):j=q:=by
 have h1:=h.lbL hi hj
 have h2:=h.lbL hi hq
 unfold Trel.code at e
 have e1:T.nm i (T.fr i j).toNat=T.nm i (T.fr i q).toNat:=by omega
 have e2:=hn _ _ (h.frL hi hj).1 (h.frL hi hq).1 e1
 have h3:=h.frL hi hj
 have h4:=h.frL hi hq
 rcases Nat.lt_trichotomy j q with h5 | h5 | h5
 ·have:=Trel.ord (h.sec i hi) q j h5 hq; omega
 ·exact h5
 ·have:=Trel.ord (h.sec i hi) j q h5 hj; omega
theorem Trel.Proper.key_inj {i:Nat} (hi:i<T.n) (hn:∀ u v,u<(T.W i).toNat->v<(T.W i).toNat->T.nm i u=T.nm i v->u=v) (u v:Nat) (hu:u<(T.W (i+1)).toNat) (hv:v<(T.W (i+1)).toNat)
  (e:T.kt (T.nm i) i (T.el i) u=T.kt (T.nm i) i (T.el i) v):u=v:=by
 obtain ⟨j,hj,e1,e2⟩:=h.kt_hit hi hu
 obtain ⟨q,hq,e3,e4⟩:=h.kt_hit hi hv
 have:=h.code_inj hi hn hj hq (by omega)
 subst this
 omega
theorem Trel.Proper.nm_inj:∀ {i:Nat},i<=T.n->∀ u v,u<(T.W i).toNat->v<(T.W i).toNat->T.nm i u=T.nm i v->u=v:=by
 intro i
 induction i with
 | zero=>intro _ u v hu hv _; rw [h.w0] at hu hv; have:(1:Int).toNat=1:=rfl; omega
 | succ i ih =>
  intro hi u v hu hv e
  exact zfP (fun a b ha hb hab=>h.key_inj (by omega) (ih (by omega)) a b ha hb hab) hu hv e
theorem Trel.Proper.keys {i:Nat} (hi:i<T.n) (u v:Nat) (hu:u<(T.W (i+1)).toNat) (hv:v<(T.W (i+1)).toNat)
  (e:T.kt (T.nm i) i (T.el i) u=T.kt (T.nm i) i (T.el i) v):u=v:=h.key_inj hi (h.nm_inj (by omega)) u v hu hv e
end
def SecRen (T:Trel) (i:Nat) (y:Nat->Int × Int × Int):Prop :=
 ((List.range (T.el i)).map y).Perm ((List.range (T.el i)).map (T.tri i))/\∀ p q,p<q->q<T.el i->ltE (y p) (y q)
def IsRen (T:Trel) (y:Nat->Nat->Int × Int × Int):Prop:=∀ i,i<T.n->SecRen T i (y i)
theorem zaE {α:Type} {R:α->α->Prop} {n:Nat} {y:Nat->α}:((List.range n).map y).Pairwise R↔∀ p q,p<q->q<n->R (y p) (y q):=by
 rw [List.pairwise_iff_getElem]
 constructor
 ·intro h p q hpq hq
  have:=h p q (by simp; omega) (by simpa using hq) hpq
  simpa using this
 intro h p q hp hq hpq
 have:=h p q hpq (by simpa using hq)
 simpa using this
def Trel.vis (T:Trel) (i:Nat):List Nat:=grp (fun j=>T.nm i (T.fr i j).toNat) (T.el i) (T.W i).toNat
section
variable {T:Trel} (h:T.Proper)
include h
theorem Trel.Proper.vis_perm {i:Nat} (hi:i<T.n):(T.vis i).Perm (List.range (T.el i)):=zhE fun _ hj=>h.nm_lt (by omega) (h.frL hi hj).1
theorem Trel.Proper.code_mono {i:Nat} (hi:i<T.n) {a b:Nat} (ha:a<T.el i) (hb:b<T.el i) (e:T.nm i (T.fr i a).toNat<T.nm i (T.fr i b).toNat∨T.nm i (T.fr i a).toNat=T.nm i (T.fr i b).toNat/\a<b):T.code (T.nm i) i a<T.code (T.nm i) i b:=by
 have h1:=h.lbL hi ha
 have h2:=h.lbL hi hb
 unfold Trel.code
 rcases e with e | ⟨e,h3⟩
 ·omega
 have e2:=h.nm_inj (by omega) _ _ (h.frL hi ha).1 (h.frL hi hb).1 e
 have h5:=h.frL hi ha
 have h6:=h.frL hi hb
 have:=Trel.ord (h.sec i hi) b a h3 hb
 omega
theorem Trel.Proper.vis_code {i:Nat} (hi:i<T.n):(T.vis i).Pairwise fun a b=>T.code (T.nm i) i a<T.code (T.nm i) i b :=
 zcy (fun _ _ ha hb e=>h.code_mono hi ha hb (.inl e)) (fun _ _ hab hb e=>h.code_mono hi (by omega) hb (.inr ⟨e,hab⟩))
theorem Trel.Proper.next_perm {i:Nat} (hi:i<T.n):(firsts ((T.vis i).map fun j=>(T.to i j).toNat)).Perm (List.range (T.W (i+1)).toNat) /\
  ∀ v,v<(T.W (i+1)).toNat->(firsts ((T.vis i).map fun j=>(T.to i j).toNat)).idxOf v=T.nm (i+1) v:=by
 have c:(firsts ((T.vis i).map fun j=>(T.to i j).toNat)).Pairwise fun a b=>T.kt (T.nm i) i (T.el i) a<T.kt (T.nm i) i (T.el i) b:=by
  refine zcF (f:=fun j=>(T.to i j).toNat) ?_
  intro A B j hV hne a ha
  have c:=h.vis_code hi
  have hm:∀ x,x ∈ T.vis i->x<T.el i:=fun x hx=>by simpa using (h.vis_perm hi).mem_iff.1 hx
  rw [hV] at c hm
  have m:=hm a (by simp [ha])
  have l:=hm j (by simp)
  have h1:T.kt (T.nm i) i (T.el i) (T.to i a).toNat<=T.code (T.nm i) i a:=Trel.kt_le m
  have h2:T.code (T.nm i) i a<T.code (T.nm i) i j:=(List.pairwise_append.1 c).2.2 a ha j (by simp)
  obtain ⟨q,hq,e1,e2⟩:=h.kt_hit hi (h.toL hi l).1
  have g:q ∈ A ++ j :: B:=hV ▸ (h.vis_perm hi).mem_iff.2 (List.mem_range.2 hq)
  show T.kt (T.nm i) i (T.el i) (T.to i a).toNat<T.kt (T.nm i) i (T.el i) (T.to i j).toNat
  rw [e2]
  rcases List.mem_append.1 g with hqA | hqB
  ·exact absurd e1 (hne q hqA)
  rcases List.mem_cons.1 hqB with rfl | hqB
  ·omega
  ·have h3:=(List.pairwise_cons.1 (List.pairwise_append.1 c).2.1).1 q hqB
   omega
 have hp:(firsts ((T.vis i).map fun j=>(T.to i j).toNat)).Perm (List.range (T.W (i+1)).toNat):=by
  refine (List.perm_ext_iff_of_nodup (c.imp fun {a b} hab e=>by subst e; omega) List.nodup_range).2 fun v=>?_
  rw [zdI,List.mem_map,List.mem_range]
  constructor
  ·rintro ⟨j,hj,rfl⟩
   exact (h.toL hi (by simpa using (h.vis_perm hi).mem_iff.1 hj)).1
  intro hv
  obtain ⟨j,hj,e⟩:=za7.1 ((h.sec i hi).2.2 v hv)
  exact ⟨j,(h.vis_perm hi).mem_iff.2 (List.mem_range.2 hj),by omega⟩
 refine ⟨hp,fun v hv=>?_⟩
 have hm:=hp.mem_iff.2 (List.mem_range.2 hv)
 obtain ⟨N,hN⟩:=exx (firsts ((T.vis i).map fun j=>(T.to i j).toNat))
 rw [<-hN] at hm hp c ⊢
 have d:=List.idxOf_lt_length_iff.2 hm
 have hg:N.getD (N.idxOf v) 0=v:=by
  rw [List.getD_eq_getElem?_getD,List.getElem?_eq_getElem d,List.getElem_idxOf]
  rfl
 have h1:=zcv (k:=T.kt (T.nm i) i (T.el i)) hp (fun p q hpq hq=>by
  rw [List.getD_eq_getElem?_getD,List.getD_eq_getElem?_getD,List.getElem?_eq_getElem (by omega),List.getElem?_eq_getElem hq]
  exact List.pairwise_iff_getElem.1 c p q _ _ hpq) d
 rw [hg] at h1
 exact h1.symm
end
def actA (pv:Nat->Nat) (R:Nat->Nat->Nat) (N i s:Nat):Bool:=decide (pv s<i) && decide ((i:Int)<=lE (R s) N)
def actE (pv:Nat->Nat) (R:Nat->Nat->Nat) (N i s:Nat):Bool:=decide (pv s<=i) && decide ((i:Int)<=lE (R s) N)
def secE (q:Nat) (add mul:Nat->Nat->Nat) (pv:Nat->Nat) (R:Nat->Nat->Nat) (N t i:Nat) (c:Nat->Nat):Int × Int × Int :=
 (((packB q (actA pv R N i) c t:Nat):Int),((spE add mul R c t i:Nat):Int),((packB q (actA pv R N (i+1)) c t:Nat):Int))
def Trel.eD (T:Trel) (i j:Nat):Int × Int × Int:=(T.fr i j,T.lb i j,T.to i j)
structure MinT (q:Nat) (add mul:Nat->Nat->Nat) (n N:Nat) (pv:Nat->Nat) (R:Nat->Nat->Nat) (T:Trel):Prop where
 nN:T.n=N
 nw:T.nw=N+1
 w:∀ i,i<=N->T.W i=((q ^ cntB (actA pv R N i) n:Nat):Int)
 el:∀ i,i<N->T.el i=q ^ cntB (actE pv R N i) n
 out:∀ i,i<N->∀ c:Nat->Nat,(∀ s,c s<q)->∃ j,j<T.el i/\T.eD i j=secE q add mul pv R N n i c
 inn:∀ i,i<N->∀ j,j<T.el i->∃ c:Nat->Nat,(∀ s,c s<q)/\T.eD i j=secE q add mul pv R N n i c
 srt:∀ i,i<N->∀ a b,a<b->b<T.el i->ltE (T.eD i a) (T.eD i b)
section
variable {q n N:Nat} {add mul:Nat->Nat->Nat} {pv:Nat->Nat} {R:Nat->Nat->Nat}
theorem zdd (s:Nat):actA pv R N 0 s=false:=by simp [actA]
theorem zhF (s:Nat):actA pv R N N s=false:=by
 have h:=zhA (u:=R s) N
 have:¬ ((N:Int)<=lE (R s) N):=by omega
 simp [actA,this]
theorem zbN {D:Nat->Bool} (h:∀ s,D s=false):∀ n,cntB D n=0
 | 0=>rfl
 | n+1=>by
  show cntB D n+(if D n then 1 else 0)=0
  rw [zbN h n,h n]
  rfl
theorem zbs (i s:Nat):actE pv R N i s=true↔pv s<=i/\(i:Int)<=lE (R s) N:=by simp [actE]
theorem zaN (i s:Nat):actA pv R N i s=true↔pv s<i/\(i:Int)<=lE (R s) N:=by simp [actA]
theorem zhG (hL:FieldLaws q add mul) (h:SpanF q n N pv R) {i:Nat} (hi:i<N) {c c':Nat->Nat} (hc:∀ s,c s<q) (hc':∀ s,c' s<q)
  (e1:(secE q add mul pv R N n i c).1=(secE q add mul pv R N n i c').1) (e2:(secE q add mul pv R N n i c).2.1=(secE q add mul pv R N n i c').2.1) :
  ∀ s,s<n->actE pv R N i s=true->c s=c' s:=by
 have e1:((packB q (actA pv R N i) c n:Nat):Int)=((packB q (actA pv R N i) c' n:Nat):Int):=e1
 have e2:((spE add mul R c n i:Nat):Int)=((spE add mul R c' n i:Nat):Int):=e2
 have a1:=zcg (D:=actA pv R N i) n (fun s _=>hc s) (fun s _=>hc' s) (by omega)
 intro s hs hA
 obtain ⟨h1,h2⟩:=(zbs i s).1 hA
 by_cases g:pv s<i
 ·exact a1 s hs ((zaN i s).2 ⟨g,h2⟩)
 obtain rfl:i=pv s:=by omega
 have a:=zfN hL (R:=R) (c:=c) (c':=c') (j:=pv s) (s:=s) n hs (fun t ht hne=>?_) (by omega)
 ·rw [h.one s hs,hL.mulOne (hc s),hL.mulOne (hc' s)] at a
  exact a
 rcases Nat.lt_trichotomy t s with g | g | g
 ·have b:=h.inc t s g hs
  by_cases k:((pv s:Nat):Int)<=lE (R t) N
  ·rw [a1 t ht ((zaN _ t).2 ⟨b,k⟩)]
  ·have:R t (pv s)=0:=zbg (n:=N) hi (by omega)
   rw [this,hL.mulZero (hc t),hL.mulZero (hc' t)]
 ·exact absurd g hne
 ·have:R t (pv s)=0:=h.low t ht _ (h.inc s t g ht)
  rw [this,hL.mulZero (hc t),hL.mulZero (hc' t)]
theorem zhH {c c':Nat->Nat} {i:Nat} (h:∀ s,s<n->actE pv R N i s=true->c s=c' s):packB q (actE pv R N i) c n=packB q (actE pv R N i) c' n:=zbw n h
variable {T:Trel}
theorem MinT.proper (hL:FieldLaws q add mul) (hq:q<=256) (hN:N<=64) (hM:MinT q add mul n N pv R T) (hW:T.sumW (N+1)<=65536) (hE:T.sumE N<=262144):T.Proper:=by
 have b:0<q:=by have:=hL.two; omega
 have d:∀ k,1<=q ^ k:=fun k=>Nat.pow_pos b
 have a:∀ i,i<N->∀ j,j<T.el i->∃ c:Nat->Nat,(∀ s,c s<q)/\T.fr i j=((packB q (actA pv R N i) c n:Nat):Int)/\T.lb i j=((spE add mul R c n i:Nat):Int)/\T.to i j=((packB q (actA pv R N (i+1)) c n:Nat):Int):=fun i hi j hj=>by
  obtain ⟨c,h1,h2⟩:=hM.inn i hi j hj
  simp only [Trel.eD,secE,Prod.mk.injEq] at h2
  exact ⟨c,h1,h2⟩
 have e:=hM.nN
 refine ⟨⟨by omega,by rw [hM.nw]; omega,fun i hi=>?_,by rw [hM.nN]; exact hW,by rw [hM.nN]; exact hE,fun i hi j hj=>?_⟩,?_,?_,fun i hi=>⟨fun j hj=>?_,fun v hv=>?_,fun v hv=>?_⟩⟩
 ·rw [hM.w i (by omega)]
  have:=d (cntB (actA pv R N i) n)
  omega
 ·obtain ⟨c,h1,h2,_,h4⟩:=a i (by omega) j hj
  have l1:=zbC (D:=actA pv R N i) n fun s _=>h1 s
  have l2:=zbC (D:=actA pv R N (i+1)) n fun s _=>h1 s
  unfold Trel.inside
  rw [h2,h4,hM.w i (by omega),hM.w (i+1) (by omega)]
  omega
 ·rw [hM.w 0 (by omega),zbN zdd]
  rfl
 ·rw [hM.nN,hM.w N (by omega),zbN zhF]
  rfl
 ·obtain ⟨c,h1,h2,h3,h4⟩:=a i (by omega) j hj
  have l1:=zaZ hL (V:=R) c n i
  refine ⟨by rw [h3]; omega,by rw [h3]; omega,fun h0=>?_⟩
  exact hM.srt i (by omega) (j - 1) j (by omega) hj
 ·rw [hM.w i (by omega)] at hv
  obtain ⟨c,h1,_,h3⟩:=zaM b (D:=actA pv R N i) n v (by omega)
  obtain ⟨j,hj,e⟩:=hM.out i (by omega) c h1
  simp only [Trel.eD,secE,Prod.mk.injEq] at e
  exact za7.2 ⟨j,hj,by rw [e.1,h3]⟩
 rw [hM.w (i+1) (by omega)] at hv
 obtain ⟨c,h1,_,h3⟩:=zaM b (D:=actA pv R N (i+1)) n v (by omega)
 obtain ⟨j,hj,e⟩:=hM.out i (by omega) c h1
 simp only [Trel.eD,secE,Prod.mk.injEq] at e
 exact za7.2 ⟨j,hj,by rw [e.2.2,h3]⟩
end
def Trel.PathW (T:Trel) (x:Nat->Nat):Prop:=∃ nd:Nat->Nat,nd 0=0/\∀ i,i<T.n->∃ j,j<T.el i/\T.fr i j=(nd i:Nat)/\T.lb i j=(x i:Nat)/\T.to i j=(nd (i+1):Nat)
section
variable {q n N:Nat} {add mul:Nat->Nat->Nat} {pv:Nat->Nat} {R:Nat->Nat->Nat} {T:Trel}
theorem MinT.edge (hM:MinT q add mul n N pv R T) {i:Nat} (hi:i<N) {c:Nat->Nat} (hc:∀ s,c s<q) :
  ∃ j,j<T.el i/\T.fr i j=((packB q (actA pv R N i) c n:Nat):Int)/\T.lb i j=((spE add mul R c n i:Nat):Int)/\T.to i j=((packB q (actA pv R N (i+1)) c n:Nat):Int):=by
 obtain ⟨j,hj,e⟩:=hM.out i hi c hc
 simp only [Trel.eD,secE,Prod.mk.injEq] at e
 exact ⟨j,hj,e⟩
theorem zdJ {D:Nat->Bool} {c:Nat->Nat} (h:∀ s,D s=false):∀ n,packB q D c n=0
 | 0=>rfl
 | n+1=>by
  show (if D n then packB q D c n*q+c n else packB q D c n)=0
  rw [h n]
  exact zdJ h n
theorem MinT.path_of (hM:MinT q add mul n N pv R T) {c:Nat->Nat} (hc:∀ s,c s<q) {x:Nat->Nat} (hx:∀ i,i<N->x i=spE add mul R c n i):T.PathW x:=by
 refine ⟨fun i=>packB q (actA pv R N i) c n,zdJ zdd n,fun i hi=>?_⟩
 rw [hM.nN] at hi
 obtain ⟨j,hj,h1,h2,h3⟩:=hM.edge hi hc
 exact ⟨j,hj,h1,by rw [h2,hx i hi],h3⟩
theorem MinT.path_in (hL:FieldLaws q add mul) (h:SpanF q n N pv R) (hM:MinT q add mul n N pv R T) {x:Nat->Nat} (hx:T.PathW x):∃ c:Nat->Nat,(∀ s,c s<q)/\∀ i,i<N->x i=spE add mul R c n i:=by
 obtain ⟨nd,_,hp⟩:=hx
 rw [hM.nN] at hp
 have a:0<q:=by have:=hL.two; omega
 have hC:∀ i,∃ c:Nat->Nat,(∀ s,c s<q)/\(i<N->nd i=packB q (actA pv R N i) c n/\x i=spE add mul R c n i/\nd (i+1)=packB q (actA pv R N (i+1)) c n):=fun i=>by
  by_cases hi:i<N
  ·obtain ⟨j,hj,h1,h2,h3⟩:=hp i hi
   obtain ⟨c,k1,k2⟩:=hM.inn i hi j hj
   simp only [Trel.eD,secE,Prod.mk.injEq] at k2
   exact ⟨c,k1,fun _=>⟨by omega,by omega,by omega⟩⟩
  ·exact ⟨fun _=>0,fun _=>a,fun g=>absurd g hi⟩
 obtain ⟨C,hC⟩:=Classical.axiomOfChoice hC
 have step:∀ s,s<n->∀ d,pv s+d<N->((pv s+d:Nat):Int)<=lE (R s) N->C (pv s+d) s=C (pv s) s:=by
  intro s hs d
  induction d with
  | zero=>intro _ _; rfl
  | succ d ih =>
   intro h1 h2
   rw [<-ih (by omega) (by omega)]
   have k1:=(hC (pv s+d)).2 (by omega)
   have k2:=(hC (pv s+(d+1))).2 (by omega)
   have e:packB q (actA pv R N (pv s+d+1)) (C (pv s+(d+1))) n=packB q (actA pv R N (pv s+d+1)) (C (pv s+d)) n:=by
    rw [<-k1.2.2]; exact k2.1.symm
   exact zcg n (fun t _=>(hC _).1 t) (fun t _=>(hC _).1 t) e s hs ((zaN _ s).2 ⟨by omega,by omega⟩)
 refine ⟨fun s=>C (pv s) s,fun s=>(hC _).1 s,fun i hi=>?_⟩
 rw [((hC i).2 hi).2.1]
 refine zcs n fun t ht=>?_
 by_cases g1:pv t<=i
 ·by_cases g2:(i:Int)<=lE (R t) N
  ·have:=step t ht (i - pv t) (by omega) (by omega)
   rw [show pv t+(i - pv t)=i by omega] at this
   rw [this]
  ·have:R t i=0:=zbg (n:=N) hi (by omega)
   rw [this,hL.mulZero ((hC _).1 t),hL.mulZero ((hC _).1 t)]
 ·have:R t i=0:=h.low t ht i (by omega)
  rw [this,hL.mulZero ((hC _).1 t),hL.mulZero ((hC _).1 t)]
theorem MinT.path_iff (hL:FieldLaws q add mul) (h:SpanF q n N pv R) (hM:MinT q add mul n N pv R T) {x:Nat->Nat}:T.PathW x↔InSp q add mul n N R x:=by
 have a:0<q:=by have:=hL.two; omega
 constructor
 ·intro hx
  obtain ⟨c,h1,h2⟩:=hM.path_in hL h hx
  exact ⟨c,fun s _=>h1 s,h2⟩
 rintro ⟨c,h1,h2⟩
 refine hM.path_of (c:=fun s=>if s<n then c s else 0) (fun s=>?_) fun i hi=>?_
 ·show (if s<n then c s else 0)<q
  split
  ·exact h1 s (by assumption)
  ·exact a
 ·rw [h2 i hi]
  exact zcs n fun t ht=>by show mul (c t) _=mul (if t<n then c t else 0) _; rw [if_pos ht]
end
def powS (q:Nat) (d:Nat->Nat):Nat->Nat
 | 0=>0
 | i+1=>powS q d i+q ^ d i
theorem zch {q:Nat} {d:Nat->Nat}:∀ i k,powS q d i<=powS q d (i+k)
 | _,0=>Nat.le_refl _
 | i,k+1=>Nat.le_trans (zch i k) (Nat.le_add_right _ _)
theorem zbt {q:Nat} {d d':Nat->Nat}:∀ m,(∀ i,i<m->d i=d' i)->powS q d m=powS q d' m
 | 0,_=>rfl
 | m+1,h=>by
  show powS q d m+q ^ d m=powS q d' m+q ^ d' m
  rw [zbt m fun i hi=>h i (by omega),h m (by omega)]
theorem zii {q:Nat} {d:Nat->Nat} {m i:Nat} (h:i<m):q ^ d i<=powS q d m:=by
 have h1:=zch (q:=q) (d:=d) (i+1) (m - (i+1))
 rw [show i+1+(m - (i+1))=m by omega] at h1
 have h2:powS q d (i+1)=powS q d i+q ^ d i:=rfl
 omega
end Go.Proofs.YtgekjfpapmlndaaGreat