/- Merged texts of a claim: FldQ, TabRow, TabAll, ElAll. -/
import Derived.Test.YtgekjfpapmlndaaGreatUW2
namespace Go.Proofs.YtgekjfpapmlndaaGreat
set_option maxRecDepth 100000
set_option maxHeartbeats 32000000
open KB KE
open Go.RowKit
def IffPost (p:Prop) (w:World) (e:Ending) (w':World):Prop:=∃ v:Bool,e=.returned (.bool v)/\(v=true↔p)/\Below w.heap.size w w'
theorem za5 {p:Prop} {w w':World} (h:p) (hB:Below w.heap.size w w'):IffPost p w (.returned (.bool true)) w':=⟨true,rfl,⟨fun _=>h,fun _=>rfl⟩,hB⟩
theorem zat {p:Prop} {w w':World} (h:¬ p) (hB:Below w.heap.size w w'):IffPost p w (.returned (.bool false)) w':=⟨false,rfl,⟨(fun h=>by cases h),fun h'=>absurd h' h⟩,hB⟩
def OwnI (w:World) (base g o n c:Nat) (r:Nat->Nat):Prop:=Own w base 3 1 (.slice (some ⟨g,o,none⟩) n c) n (fun t _=>.int .i64 (r t:Nat))
theorem OwnI.cell {w:World} {base g o n c i:Nat} {r:Nat->Nat} (h:OwnI w base g o n c r) (hi:i<n):w.cell? ⟨g,o+i,none⟩=some (.int .i64 (r i:Nat)):=by
 obtain ⟨g',o',cap',hv,_,_,_,_,hc⟩:=Own.form h (by omega)
 injection hv with hv
 injection hv with hv
 injection hv with h1 h2
 subst h1 h2
 simpa using hc i hi 0 (by omega)
theorem OwnI.set {w:World} {base g o n c i:Nat} {r:Nat->Nat} (h:OwnI w base g o n c r) (hi:i<n) (z:Nat):OwnI (w.setCell ⟨g,o+i,none⟩ (.int .i64 (z:Int))) base g o n c (fun t=>if t=i then z else r t):=by
 have:=Own.set h hi (show 0<1 by omega) (.int .i64 (z:Int))
 rw [Nat.mul_one,Nat.add_zero] at this
 refine Own.congr this fun t ht j hj=>?_
 show _=Value.int .i64 ((if t=i then z else r t:Nat):Int)
 by_cases e:t=i
 ·rw [if_pos ⟨e,by omega⟩,if_pos e]
 ·rw [if_neg (fun c=>e c.1),if_neg e]
theorem OwnI.congr {w:World} {base g o n c:Nat} {r r':Nat->Nat} (h:OwnI w base g o n c r) (e:∀ i,i<n->r i=r' i):OwnI w base g o n c r':=Own.congr h fun i hi _ _=>by rw [e i hi]
theorem OwnI.drew {w:World} {base g o n c:Nat} {r:Nat->Nat} (h:OwnI w base g o n c r):OwnI w.drew base g o n c r:=h
theorem OwnI.fr {w:World} {base g o n c:Nat} {r:Nat->Nat} (h:OwnI w base g o n c r) (k:Nat):w.frozen? ⟨g,k,none⟩=false:=Own.frozen h k
theorem zfp (P M d:Nat) (A L:Option Addr) (c cl:Nat) (m low:Nat->Nat) (w:World) (hP2:2<=P) (hP:P<=256) (hd1:1<=d) (hdM:d<=M) (hM8:M<=8)
  (hm:IntsR w w.heap.size A M (fun i=>(m i:Nat))) (hml:Hid (∀ i,i<M->m i<P)) (hl:IntsR w w.heap.size L d (fun i=>(low i:Nat))) (hll:Hid (∀ i,i<d->low i<P)) :
  Calls Tryz.prog 189 #[.slice L d cl,.slice A M c,.int .i64 (P:Nat)] w (IffPost (DivB P M m d low) w):=by
 obtain ⟨i0,qi0,qz0,qz1,qz2⟩:=info_parts Tryz.infoInt
 have n3:Hid (M<=maxLen):=by show _<=_; unfold maxLen; omega
 have n4:Hid (M*8<=140737488355328):=by show _<=_; omega
 have n5:Hid (M+1<=maxLen):=by show _<=_; unfold maxLen; omega
 have n6:Hid ((M+1)*8<=140737488355328):=by show _<=_; omega
 have ah:0<M:=by omega
 have T:IntsR w w.heap.size A M (fun i=>(modR M m i:Nat)):=hm.congr fun i hi=>by unfold modR; rw [if_pos hi]
 have O:Hid (∀ t,modR M m t<P):=fun t=>by
  show modR M m t<P
  unfold modR
  split
  ·exact hml.out t (by assumption)
  ·omega
 go_enter Tryz.func189, Tryz.ntmps189
 have N:Hid (∀ o1,Rd (w.alloc o1) (w.alloc o1).heap.size A M 1 (fun i _=>.int .i64 (modR M m i:Nat))):=fun o1=>(Rd.alloc T (Nat.le_refl _) o1).mono (by simp)
 go_upto_region 3 with (first | (at_builtin; (refine zai rfl (.tmp 15) (.tmp 16) _ rfl 3 i0 _ 1 8 Tryz.underlying22 qi0 qz0 qz1 qz2 rfl (by omega) _ rfl A M c (fun i _=>.int .i64 (modR M m i:Nat)) rfl (N.out _) ah (fun _ _ _ _=>rfl) n3.out n4.out ?_); intro cap cur k1 k2 k3 k4))
 have a1:=Own.new (w:=w.alloc (Obj.cells #[] 3)) (base:=w.heap.size) (e := 3) (by simp) k1 k2 k3 k4
 have a5:=((Below.refl w.heap.size w).alloc (Nat.le_refl _) (Obj.cells #[] 3)).alloc (by simp) (Obj.cells cur 3)
 obtain ⟨w1,r⟩:∃ W,W=((w.alloc (Obj.cells #[] 3)).alloc (Obj.cells cur 3)).drew:=⟨_,rfl⟩
 obtain ⟨g1,J⟩:=exx (w.heap.size+1)
 have k:Below w.heap.size w w1:=by rw [r]; exact a5.drew
 have b:Own w1 w.heap.size 3 1 (.slice (some ⟨g1,0,none⟩) M cap) M (fun i _=>.int .i64 (modR M m i:Nat)):=by rw [r,J]; simpa using a1.drew
 try simp only [World.alloc_drew]
 rw [<-r,<-J];clear a1 a5 r J k1 k2 k3 k4
 have l:=k.size
 have N1:Hid (∀ j,j<1->(w1.alloc (Obj.cells #[Value.int IntKind.i64 1] 3)).cell? ((⟨w1.heap.size,0,none⟩:Addr).add j)=some (.int .i64 (modR M m M:Nat))):=fun j hj=>by
  obtain rfl:j=0:=by omega
  unfold modR
  rw [if_neg (by omega)]
  exact World.cell?_alloc_at _ _ _ _ rfl
 go_upto_region 4 with (first | (at_builtin; (refine zal _ rfl (.tmp 18) (.tmp 19) _ rfl w.heap.size 3 i0 _ 1 8 Tryz.underlying22 qi0 qz0 qz1 qz2 rfl (by omega) _ M (fun i _=>.int .i64 (modR M m i:Nat)) rfl (b.alloc _) ⟨w1.heap.size,0,none⟩ 1 rfl N1.out (fun _ _=>rfl) n5.out n6.out (by simp; omega) ?_); intro v' w3 hown3 hg3 hat3))
 have a3:Below w.heap.size w w3:=(k.alloc (by omega) _).grown hg3 (by simp; omega) (fun q e=>(b.lt q e).1)
 obtain ⟨g,o,cp,rfl,V,_⟩:=hown3.form (by omega)
 have hO:OwnI w3 w.heap.size g o (M+1) cp (dOut P d low M (modR M m) 0):=hown3
 clear hown3 hg3 hat3 b k N1 N T l n3 n4 n5 n6 qi0 qz0 qz1 qz2
 have b4:(1:Int)<=(M:Int):=by omega
 have ag:(M:Int)<=8:=by omega
 have aw:(1:Int)<=(d:Int):=by omega
 have ac:(d:Int)<=(M:Int):=by omega
 go_wp2
 go_loopg [9,10,11] (M+1 - d) (fun gg iv _ _ wx=>∃ s:Nat,iv=.int .i64 ((M:Int) - (s:Int))/\s<=M+1 - d/\M+1 - d<=s+gg/\OwnI wx w.heap.size g o (M+1) cp (dOut P d low M (modR M m) s)/\Below w.heap.size w wx)
 case atStart=>exact ⟨0,by go_num,by omega,by omega,hO,a3⟩
 clear hO a3
 obtain ⟨s,rfl,hs,a7,hO,hB⟩:=hrel
 by_cases l:s<M+1 - d
 rotate_left
 ·obtain ⟨S,hS⟩:∃ S,S=M+1 - d:=⟨_,rfl⟩
  obtain rfl:s=S:=by omega
  have av:¬ (d:Int)<=(M:Int) - (s:Int):=by omega
  have K:Hid (DivB P M m d low↔∀ t,t<M+1->dOut P d low M (modR M m) s t=0):=by rw [hS]; exact Iff.rfl
  have n:∀ t,dOut P d low M (modR M m) s t<P:=zeZ (by omega) O.out s
  obtain ⟨R0,a⟩:=exx (dOut P d low M (modR M m) s)
  rw [<-a] at hO K n
  have v:=hid n
  clear a n hS hs a7 l
  go_wp2
  go_loopg [12] (M+1) (fun gg iv wx=>∃ i:Nat,iv=.int .i64 (i:Nat)/\i<=M+1/\M+1<=i+gg/\(∀ t,t<i->R0 t=0)/\OwnI wx w.heap.size g o (M+1) cp R0/\Below w.heap.size w wx)
  case atStart=>exact ⟨0,rfl,by omega,by omega,fun t ht=>by omega,hO,hB⟩
  clear hO hB
  obtain ⟨i,rfl,hi,ar,hz,hO,hB⟩:=hrel
  have HZ:=hid hz
  clear hz
  have au:(0:Int)<=(i:Int):=by omega
  by_cases l:i<M+1
  rotate_left
  ·obtain ⟨L1,b5⟩:∃ S,S=M+1:=⟨_,rfl⟩
   have B:¬ (i:Int)<(M:Int)+1:=by omega
   have y:Hid (DivB P M m d low):=K.out.2 fun t ht=>HZ.out t (by omega)
   clear hO
   go_wp2
   go_ret
   exact za5 y.out hB
  have B:(i:Int)<(M:Int)+1:=by omega
  have cc:=hO.cell l
  have X:=v.out i
  obtain ⟨x,hx⟩:=exx (R0 i)
  rw [<-hx] at cc X
  have HX:=hid hx
  clear hx
  by_cases h0:x=0
  ·subst h0
   have u:Hid (∀ t,t<i+1->R0 t=0):=fun t ht=>by
    by_cases e:t=i
    ·rw [e]; exact HX.out.symm
    ·exact HZ.out t (by omega)
   go_wp2
   go_roundg (gk - 1)
   case measure=>omega
   case rel=>exact ⟨i+1,by go_num,by omega,by omega,u.out,hO,hB⟩
  have hb:((x:Int) != 0)=true:=by simp; omega
  have a8:Hid (¬ DivB P M m d low):=fun h=>h0 (HX.out.trans (K.out.1 h i l))
  have b3:=hid hO
  clear hO
  go_wp2
  go_ret
  exact zat a8.out hB
 obtain ⟨I,hI⟩:=exx (M - s)
 have H:(M:Int) - (s:Int)=(I:Int):=by omega
 rw [H]
 have b7:d<=I:=by omega
 have ai:(d:Int)<=(I:Int):=by omega
 have b8:I<=M:=by omega
 have b9:(I:Int)<=8:=by omega
 have bb:(0:Int)<=(I:Int):=by omega
 have ba:(I:Int)<(M:Int)+1:=by omega
 have HI:=hid hI
 have am:=hid H
 clear hI H
 obtain ⟨R0,a⟩:=exx (dOut P d low M (modR M m) s)
 have n:∀ t,R0 t<P:=by rw [a]; exact zeZ (by omega) O.out s
 rw [<-a] at hO
 have ak:=hid a
 have v:=hid n
 clear a n
 obtain ⟨C,hC⟩:=exx (R0 I)
 have be:C<P:=by rw [hC]; exact v.out I
 have cI:wr.cell? ⟨g,o+I,none⟩=some (.int .i64 (C:Nat)):=by rw [hC]; exact hO.cell (by omega)
 have HC:=hid hC
 clear hC
 go_wp2
 clear cI
 obtain ⟨gI,rfl⟩:∃ gK:Nat,gK=gk:=⟨_,rfl⟩
 go_loopg [11] d (fun gg jv wx=>∃ j:Nat,jv=.int .i64 (j:Nat)/\j<=d/\d<=j+gg/\OwnI wx w.heap.size g o (M+1) cp (dIn P d low I C R0 j)/\Below w.heap.size w wx)
 case atStart=>exact ⟨0,rfl,by omega,by omega,hO,hB⟩
 clear hO hB
 obtain ⟨j,rfl,hj,ap,hO,hB⟩:=hrel
 have aq:(0:Int)<=(j:Int):=by omega
 by_cases hlj:j<d
 rotate_left
 ·obtain rfl:d=j:=by omega
  have F:¬ (d:Int)<(d:Int):=by omega
  have zc:=hO.fr (o+I)
  have ci:=hO.cell (i:=I) (by omega)
  have al:Hid (OwnI (wr.setCell ⟨g,o+I,none⟩ (.int .i64 0)) w.heap.size g o (M+1) cp (dOut P d low M (modR M m) (s+1))):=(hO.set (show I<M+1 by omega) 0).congr fun t ht=>by
   show _=(if t=M - s then 0 else dIn P d low (M - s) (dOut P d low M (modR M m) s (M - s)) (dOut P d low M (modR M m) s) d t)
   rw [<-HI.out,<-ak.out,<-HC.out]
  have an:Hid (Below w.heap.size w (wr.setCell ⟨g,o+I,none⟩ (.int .i64 0))):=hB.setCell V _
  clear hO hB
  go_wp2
  go_roundg (gI - 1)
  case measure=>omega
  case rel=>exact ⟨s+1,by have:=am.out; go_num,by omega,by omega,al.out,an.out⟩
 have F:(j:Int)<(d:Int):=by omega
 obtain ⟨Z,hZ⟩:=exx (I - d)
 obtain ⟨Q,hQ⟩:=exx (I - d+j)
 have Y:Q<M+1:=by omega
 have b6:(I:Int) - (d:Int)=(Z:Int):=by omega
 have ae:Z<=16:=by omega
 have ad:=zjA (P:=P) (d:=d) (low:=low) (i:=I) (c:=C) (by omega) v.out j Q
 have ab:=hll.out j hlj
 obtain ⟨mb,mo,rfl,ao,U⟩:=hl.at hlj
 have cm:=cellS hB U
 have cc:=hO.cell Y
 have zc:=hO.fr (o+Q)
 have u:∀ t,dIn P d low I C R0 (j+1) t=if t=Q then (dIn P d low I C R0 j Q+(P - C)*low j) % P else dIn P d low I C R0 j t:=fun t=>by rw [hQ]; rfl
 obtain ⟨R,hR⟩:∃ R,R=(dIn P d low I C R0 j Q+(P - C)*low j) % P:=⟨_,rfl⟩
 have X:R<P:=by rw [hR]; exact Nat.mod_lt _ (by omega)
 have a0:OwnI (wr.setCell ⟨g,o+Q,none⟩ (.int .i64 (R:Int))) w.heap.size g o (M+1) cp (dIn P d low I C R0 (j+1)):=(hO.set Y R).congr fun t ht=>by
  rw [u t,<-hR]
 have a4:Below w.heap.size w (wr.setCell ⟨g,o+Q,none⟩ (.int .i64 (R:Int))):=hB.setCell V _
 have HO:=hid a0
 have HB:=hid a4
 clear a0 a4
 obtain ⟨D,hD⟩:=exx (dIn P d low I C R0 j Q)
 obtain ⟨G,hG⟩:=exx (low j)
 rw [<-hD] at cc ad hR;rw [<-hG] at cm ab hR
 obtain ⟨E,hE⟩:=exx (P - C)
 rw [<-hE] at hR
 have b1:(P:Int) - (C:Int)=(E:Int):=by omega
 have aj:E*G<=256*256:=Nat.mul_le_mul (by omega) (by omega)
 obtain ⟨Hh,hH⟩:=exx (E*G)
 rw [<-hH] at hR aj
 have a9:(Z:Int)+(j:Int)=(Q:Int):=by omega
 have z:(E:Int)*(G:Int)=(Hh:Int):=by rw [hH]; simp
 have a2:E<=256:=by omega
 clear hD hE hG hH u hO hB hQ hZ U
 have ay:(0:Int)<=(Q:Int):=by omega
 have ax:(Q:Int)<(M:Int)+1:=by omega
 have b2:¬ (P:Int)=0:=by omega
 have az:(2:Int)<=(P:Int):=by omega
 have af:(0:Int)<=(R:Int):=by omega
 have N:(R:Int)<=256:=by omega
 have bd:(0:Int)<=(D:Int):=by omega
 have bc:(0:Int)<=(Hh:Int):=by omega
 have p:(0:Int)<=(D:Int)+(Hh:Int):=by omega
 have b0:¬ P=0:=by omega
 have w1:IntKind.i64.wrap (Q:Int)=(Q:Int):=IntWalk.i64_in _ (by omega)
 have w2:IntKind.i64.wrap (Hh:Int)=(Hh:Int):=IntWalk.i64_in _ (by omega)
 have w3:IntKind.i64.wrap ((D:Int)+(Hh:Int))=(D:Int)+(Hh:Int):=IntWalk.i64_in _ (by omega)
 have w4:IntKind.i64.wrap (R:Int)=(R:Int):=IntWalk.i64_in _ (by omega)
 have w5:IntKind.i64.wrap (Z:Int)=(Z:Int):=IntWalk.i64_in _ (by omega)
 have w6:IntKind.i64.wrap (E:Int)=(E:Int):=IntWalk.i64_in _ (by omega)
 have a6:((D:Int)+(Hh:Int)).tmod (P:Int)=(R:Int):=by rw [Int.tmod_eq_emod_of_nonneg p,hR]; simp
 have aa:((D:Int)+(Hh:Int)) % (P:Int)=(R:Int):=by rw [hR]; simp
 clear hR
 go_wp2
 go_still_tail 25,(by kernel_rfl)
 change wpList _ _ _ _ _ wr.drew
 go_wp2
 clear w1 w2 w3 w4 w5 w6 a6 aa a9 z
 go_roundg (gk - 1)
 case measure=>omega
 case rel=>exact ⟨j+1,by go_num,by omega,by omega,HO.out.drew,HB.out.drew⟩
theorem zc1 (P M:Nat) (A:Option Addr) (c:Nat) (m:Nat->Nat) (w:World) (hP2:2<=P) (hP:P<=256) (hM2:2<=M) (hM8:M<=8) (hq:P ^ M<=256)
  (hm:IntsR w w.heap.size A M (fun i=>(m i:Nat))) (hml:Hid (∀ i,i<M->m i<P)) :
  Calls Tryz.prog 134 #[.slice A M c,.int .i64 (P:Nat)] w (IffPost (IrrB P M m) w):=by
 go_enter Tryz.func134, Tryz.ntmps134
 go_wp2
 go_loopg [5,6] M (fun gg cv dv wx=>∃ d:Nat,dv=.int .i64 (d:Nat)/\cv=.int .i64 (P ^ (d - 1):Nat)/\1<=d/\2*d<=M+2/\M+1<=d+gg/\(∀ d',1<=d'->d'<d->∀ v,v<P ^ d'->¬ DivB P M m d' (dig P v))/\Below w.heap.size w wx)
 case atStart=>exact ⟨1,rfl,rfl,by omega,by omega,by omega,fun d' h1 h2=>by omega,Below.refl _ _⟩
 obtain ⟨d,rfl,rfl,t,H,G,r,hB⟩:=hrel
 have y:=hid r
 clear r
 by_cases hlt:2*d<=M
 rotate_left
 ·have n:¬ 2*(d:Int)<=(M:Int):=by omega
  have o:Hid (IrrB P M m):=fun d' h1 h2 v hv=>y.out d' h1 (by omega) v hv
  clear hlt
  go_wp2
  go_ret
  exact za5 o.out hB
 have n:2*(d:Int)<=(M:Int):=by omega
 have C:P ^ d<=256:=Nat.le_trans (Nat.pow_le_pow_right (by omega) (by omega)) hq
 have j:P ^ (d - 1)*P=P ^ d:=by rw [<-Nat.pow_succ]; congr 1; omega
 have B:P ^ (d - 1)<=256:=Nat.le_trans (Nat.pow_le_pow_right (by omega) (by omega)) hq
 obtain ⟨Q,hQ⟩:=exx (P ^ (d - 1))
 obtain ⟨R,hR⟩:=exx (P ^ d)
 rw [<-hQ] at j B;rw [<-hR] at j C;rw [<-hQ]
 have a:(Q:Int)*(P:Int)=(R:Int):=by rw [<-j]; simp
 have z:IntKind.i64.wrap ((Q:Int)*(P:Int))=(R:Int):=by rw [a]; exact IntWalk.i64_in _ (by omega)
 have E:IntKind.i64.wrap (R:Int)=(R:Int):=IntWalk.i64_in _ (by omega)
 have HR:=hid hR
 clear hQ hR j
 go_wp2
 obtain ⟨gI,rfl⟩:∃ gK:Nat,gK=gk:=⟨_,rfl⟩
 clear z a
 go_loopg [7] R (fun gg vv wx=>∃ v:Nat,vv=.int .i64 (v:Nat)/\v<=R/\R<=v+gg/\(∀ v',v'<v->¬ DivB P M m d (dig P v'))/\Below w.heap.size w wx)
 case atStart=>exact ⟨0,rfl,by omega,by omega,fun v' h=>by omega,hB⟩
 clear hB
 obtain ⟨v,rfl,hv,F,q,hB⟩:=hrel
 have x:=hid q
 clear q
 by_cases hlv:v<R
 rotate_left
 ·obtain rfl:v=R:=by omega
  have l:¬ (v:Int)<(v:Int):=by omega
  have k:Hid (∀ d',1<=d'->d'<d+1->∀ v',v'<P ^ d'->¬ DivB P M m d' (dig P v')):=fun d' h1 h2 v' h3=>by
   by_cases e:d'=d
   ·subst e
    exact x.out v' (by rw [HR.out]; exact h3)
   ·exact y.out d' h1 (by omega) v' h3
  go_wp2
  go_roundg (gI - 1)
  case measure=>omega
  case rel=>exact ⟨d+1,by go_num,by rw [HR.out]; simp,by omega,by omega,by omega,k.out,hB⟩
 have l:(v:Int)<(R:Int):=by omega
 go_wp2_with fail
 refine (zdN v P d _ (by omega) (by omega) (by omega) (by omega)).mono ?_
 rintro e w1 ⟨rfl,rd,kb⟩
 have p:=onS hB kb
 have g:IntsR w1 w1.heap.size (some ⟨wr.heap.size,0,none⟩) d (fun i=>(dig P v i:Nat)):=zbv rd
 have s:Hid (∀ i,i<d->dig P v i<P):=fun i _=>zbG (by omega) v i
 clear kb rd
 go_wp2_with fail
 refine (zfp P M d A _ c d m (dig P v) w1 hP2 hP t (by omega) hM8 (hm.on p) hml g s).mono ?_
 rintro e w2 ⟨b,rfl,hb,kb⟩
 have u:=onS p kb
 clear kb g s hB p
 have HB:=hid hb
 clear hb
 cases b
 ·have k:Hid (∀ v',v'<v+1->¬ DivB P M m d (dig P v')):=fun v' h h2=>by
   by_cases e:v'=v
   ·have:=HB.out.2 (e ▸ h2)
    cases this
   ·exact x.out v' (by omega) h2
  go_wp2
  go_roundg (gk - 1)
  case measure=>omega
  case rel=>exact ⟨v+1,by go_num,by omega,by omega,k.out,u⟩
 have D:Hid (¬ IrrB P M m):=fun h=>h d t hlt v (by rw [<-HR.out]; exact hlv) (HB.out.1 rfl)
 go_wp2
 go_ret
 exact zat D.out u
def GoodF (P M:Int) (k:Nat) (f:Nat->Int):Prop :=
 ∃ P' M':Nat,P=P'/\M=M'/\FldOk P' M'/\PrimeB P'/\((M'=1/\k=0)∨(2<=M'/\k=M'/\(∀ i,i<M'->0<=f i/\f i<P')/\IrrB P' M' (fun i=>(f i).toNat)))
theorem GoodF.field {P M:Nat} {k:Nat} {f:Nat->Int} (h:GoodF (P:Int) (M:Int) k f):FieldOk P M (fun i=>(f i).toNat)/\(M=1∨k=M):=by
 obtain ⟨P',M',h1,h2,h3,h4,h5⟩:=h
 obtain rfl:P=P':=by omega
 obtain rfl:M=M':=by omega
 rcases h5 with ⟨e,_⟩ | ⟨e1,e2,e3,e4⟩
 ·exact ⟨⟨h3,h4,.inl e,fun d h1 h2=>by omega⟩,.inl e⟩
 ·exact ⟨⟨h3,h4,.inr fun t ht=>by have:=e3 t ht; show (f t).toNat<P; omega,e4⟩,.inr e2⟩
theorem GoodF.mod {P M:Nat} {k:Nat} {f:Nat->Int} {w:World} {A:Option Addr} (h:GoodF (P:Int) (M:Int) k f) (hr:IntsR w w.heap.size A k f):ModOk w P M A (fun i=>(f i).toNat):=by
 obtain ⟨P',M',h1,h2,h3,h4,h5⟩:=h
 obtain rfl:P=P':=by omega
 obtain rfl:M=M':=by omega
 rcases h5 with ⟨e,_⟩ | ⟨e1,rfl,e3,e4⟩
 ·exact .inl e
 ·exact .inr ⟨hr.congr fun i hi=>by have:=e3 i hi; show f i=((f i).toNat:Int); omega,fun i hi=>by have:=e3 i hi; show (f i).toNat<P; omega⟩
def CheckPost (p:Prop) (w:World) (e:Ending) (w':World):Prop:=∃ v:Int,e=.returned (.int .i64 v)/\((v=0/\p)∨(v=1/\¬ p))/\Below w.heap.size w w'
theorem zbS {p:Prop} {w w':World} (h:p) (hB:Below w.heap.size w w'):CheckPost p w (.returned (.int .i64 0)) w':=⟨0,rfl,.inl ⟨rfl,h⟩,hB⟩
theorem zaE {p:Prop} {w w':World} (h:¬ p) (hB:Below w.heap.size w w'):CheckPost p w (.returned (.int .i64 1)) w':=⟨1,rfl,.inr ⟨rfl,h⟩,hB⟩
theorem zde (P M:Int) (A:Option Addr) (k c:Nat) (f:Nat->Int) (w:World) (hr:IntsR w w.heap.size A k f) :
  Calls Tryz.prog 69 #[.agg #[.int .i64 P,.int .i64 M,.slice A k c]] w (CheckPost (GoodF P M k f) w):=by
 obtain ⟨w0,m,hB,rf⟩:=zaz w (.int .i64 P) (.int .i64 M) (.slice A k c) 24
 go_enter Tryz.func69, Tryz.ntmps69
 go_upto_region 1 with fail
 rw [<-m];clear m
 have q0:=qc0 rf
 have q1:=qc1 rf
 have q2:=qc2 rf
 go_wp2_with fail
 refine (zck P M A k c _).mono ?_
 rintro e w1 ⟨rfl,kb⟩
 replace rf:=zab rf kb;replace hB:=onS hB kb;clear kb q0 q1 q2
 by_cases h0:ordV P M=0
 ·have a:Hid (¬ GoodF P M k f):=by
   rintro ⟨P',M',rfl,rfl,h3,_⟩
   rw [zct h3] at h0
   have:=Nat.pow_pos (n:=M') (show 0<P' by have:=h3.1; omega)
   omega
  rw [h0];clear h0 rf
  go_wp2
  go_ret
  exact zaE a.out hB
 obtain ⟨P,M,rfl,rfl,hf⟩:=zii h0
 obtain ⟨v,hv⟩:=exx (ordV (P:Int) (M:Int))
 rw [<-hv] at h0;rw [<-hv]
 have u:(v == 0)=false:=by simpa using h0
 have E:=hf.1
 have r:=hf.P_le
 have J:=hf.2.1
 have F:=hf.2.2.1
 have hq:=hf.2.2.2
 have HF:=hid hf
 clear hv hf
 have q0:=qc0 rf
 have q1:=qc1 rf
 have q2:=qc2 rf
 go_wp2_with fail
 refine (zhm P _ r).mono ?_
 rintro e w2 ⟨b,rfl,hb,rfl⟩
 have l:=hid hb
 clear hb h0 u
 cases b
 ·have a:Hid (¬ GoodF (P:Int) (M:Int) k f):=by
   rintro ⟨P',M',e1,e2,h3,h4,_⟩
   obtain rfl:P=P':=by omega
   have:=l.out.2 h4
   cases this
  go_wp2
  go_ret
  exact zaE a.out hB
 have hp:Hid (PrimeB P):=l.out.1 rfl
 clear l
 by_cases hM:M=1
 ·subst hM
  by_cases hk0:k=0
  ·subst hk0
   have d:Hid (GoodF (P:Int) ((1:Nat):Int) 0 f):=⟨P,1,rfl,rfl,HF.out,hp.out,.inl ⟨rfl,rfl⟩⟩
   go_wp2
   go_ret
   exact zbS d.out hB
  have C:((k:Int) != 0)=true:=by simp; omega
  have a:Hid (¬ GoodF (P:Int) ((1:Nat):Int) k f):=by
   rintro ⟨P',M',e1,e2,h3,h4,⟨e3,e4⟩ | ⟨e3,_⟩⟩
   ·exact hk0 e4
   ·omega
  go_wp2
  go_ret
  exact zaE a.out hB
 have G:((M:Int) == 1)=false:=by simp; omega
 by_cases hkM:k=M
 rotate_left
 ·have B:((k:Int) != (M:Int))=true:=by simp; omega
  have a:Hid (¬ GoodF (P:Int) (M:Int) k f):=by
   rintro ⟨P',M',e1,e2,h3,h4,⟨e3,e4⟩ | ⟨e3,e4,_⟩⟩
   ·omega
   ·omega
  go_wp2
  go_ret
  exact zaE a.out hB
 subst hkM
 have z:((k:Int) != (k:Int))=false:=by simp
 have q:2<=k:=by omega
 go_wp2
 clear q0 q1 q2 G z
 go_loopg [3] k (fun gg iv wx=>∃ i:Nat,iv=.int .i64 (i:Nat)/\i<=k/\k<=i+gg/\(∀ i',i'<i->0<=f i'/\f i'<P)/\wx.rowIs w.heap.size 24 3 (fldCell (.int .i64 (P:Nat)) (.int .i64 (k:Nat)) (.slice A k c))/\Below w.heap.size w wx)
 case atStart=>exact ⟨0,rfl,by omega,by omega,fun i' h=>by omega,rf,hB⟩
 clear rf hB
 obtain ⟨i,rfl,hi,H,hg,rf,hB⟩:=hrel
 have HG:=hid hg
 clear hg
 have I:(0:Int)<=(i:Int):=by omega
 have q0:=qc0 rf
 have q1:=qc1 rf
 have q2:=qc2 rf
 by_cases hlt:i<k
 rotate_left
 ·obtain rfl:i=k:=by omega
  have j:¬ (i:Int)<(i:Int):=by omega
  have g:IntsR wr wr.heap.size A i (fun t=>((f t).toNat:Nat)):=(hr.on hB).congr fun t ht=>by have:=HG.out t ht; omega
  have p:Hid (∀ t,t<i->(f t).toNat<P):=fun t ht=>by have:=HG.out t ht; omega
  go_wp2_with fail
  refine (zc1 P i A c _ wr E r q F hq g p).mono ?_
  rintro e w2 ⟨b,rfl,hb,kb⟩
  replace hB:=onS hB kb
  have s:=hid hb
  clear kb q0 q1 q2 g p hb rf
  cases b
  ·have a:Hid (¬ GoodF (P:Int) (i:Int) i f):=by
    rintro ⟨P',M',e1,e2,h3,h4,⟨e3,e4⟩ | ⟨e3,e4,e5,e6⟩⟩
    ·omega
    obtain rfl:P=P':=by omega
    subst e4
    have:=s.out.2 e6
    cases this
   go_wp2
   go_ret
   exact zaE a.out hB
  have d:Hid (GoodF (P:Int) (i:Int) i f):=⟨P,i,rfl,rfl,HF.out,hp.out,.inr ⟨q,rfl,HG.out,s.out.1 rfl⟩⟩
  go_wp2
  go_ret
  exact zbS d.out hB
 have j:(i:Int)<(k:Int):=by omega
 obtain ⟨b,o,rfl,hb,e0⟩:=(hr.on hB).at hlt
 obtain ⟨x,hx⟩:=exx (f i)
 rw [<-hx] at e0
 have HX:=hid hx
 clear hx
 have a:Hid (x<0∨(P:Int)<=x->¬ GoodF (P:Int) (k:Int) k f):=by
  rintro hc ⟨P',M',e1,e2,h3,h4,⟨e3,e4⟩ | ⟨e3,e4,e5,_⟩⟩
  ·omega
  have:=e5 i (by omega)
  rw [<-HX.out] at this
  omega
 by_cases hx0:x<0
 ·have hd:decide (x<0)=true:=by simpa using hx0
  go_wp2
  go_quiet (fail)
  go_wp2
  go_ret
  exact zaE (a.out (.inl hx0)) (zac hB _)
 have hd:decide (x<0)=false:=by simpa using hx0
 by_cases hxP:(P:Int)<=x
 ·have D:decide ((P:Int)<=x)=true:=by simpa using hxP
  go_wp2
  go_quiet (fail)
  go_wp2
  go_ret
  exact zaE (a.out (.inr hxP)) (zac hB _)
 have D:decide ((P:Int)<=x)=false:=by simpa using hxP
 have y:Hid (∀ i',i'<i+1->0<=f i'/\f i'<P):=fun i' h=>by
  by_cases e:i'=i
  ·rw [e,<-HX.out]; omega
  ·exact HG.out i' (by omega)
 clear a
 go_wp2
 go_quiet (fail)
 go_wp2
 go_roundg (gk - 1)
 case measure=>omega
 case rel=>exact ⟨i+1,by go_num,by omega,by omega,y.out,za9 rf _,zac hB _⟩
def negF (P M x:Nat):Nat:=valN P (fun i=>(P - dig P x i) % P) M
theorem zb8 {P M x:Nat} (hP:0<P):negF P M x<P ^ M:=za4 fun _ _=>Nat.mod_lt _ hP
theorem zbK {P M x:Nat} (hP:0<P):addF P M x (negF P M x)=0:=by
 have a:addF P M x (negF P M x)<P ^ M:=za4 fun _ _=>Nat.mod_lt _ hP
 refine zeY hP a (Nat.pow_pos hP) fun j hj=>?_
 unfold addF
 rw [za1 (fun i _=>Nat.mod_lt _ hP) j hj]
 unfold negF
 rw [za1 (fun i _=>Nat.mod_lt _ hP) j hj]
 have h0:dig P 0 j=0:=by unfold dig; simp
 rw [h0]
 have h1:=zbG hP x j
 obtain ⟨d,hd⟩:=exx (dig P x j)
 rw [<-hd] at h1 ⊢
 rcases Nat.eq_zero_or_pos d with h2 | h2
 ·subst h2; simp
 ·rw [Nat.mod_eq_of_lt (show P - d<P by omega),show d+(P - d)=P by omega,Nat.mod_self]
theorem zaO {w w':World} {P M:Nat} {A:Option Addr} {m:Nat->Nat} (h:ModOk w P M A m) (hb:Below w.heap.size w w'):ModOk w' P M A m:=by
 rcases h with h | ⟨h1,h2⟩
 ·exact .inl h
 ·exact .inr ⟨h1.on hb,h2⟩
theorem zdq (P M:Nat) (A:Option Addr) (k c:Nat) (x:Int) (w:World) (hf:FldOk P M) :
  Calls Tryz.prog 184 #[.agg #[.int .i64 (P:Nat),.int .i64 (M:Nat),.slice A k c],.int .i64 x] w fun e w'=>e=.returned (.int .i64 (negF P M (inV (P ^ M) x):Nat))/\Below w.heap.size w w':=by
 have C:=hf.1
 have hP:=hf.P_le
 have E:=hf.2.2.1
 have hq:=hf.2.2.2
 obtain ⟨w0,h,hB,rf⟩:=zaz w (.int .i64 (P:Nat)) (.int .i64 (M:Nat)) (.slice A k c) 24
 go_enter Tryz.func184, Tryz.ntmps184
 go_upto_region 1 with fail
 rw [<-h];clear h
 have h:=rf.lt
 have q0:=qc0 rf
 have q1:=qc1 rf
 have q2:=qc2 rf
 go_wp2_with fail
 refine (za0 P M A k c x _ hf).mono ?_
 rintro e w1 ⟨ga,rfl,z,ra,kb⟩
 replace rf:=zab rf kb
 have q:=hB.size
 replace hB:=onS hB kb;clear kb q0 q1 q2
 obtain ⟨X,hX⟩:=exx (inV (P ^ M) x)
 rw [<-hX] at ra
 have HX:=hid hX
 clear hX
 have n:w.heap.size≠ga:=by omega
 have o:w.heap.size<=ga:=by omega
 clear z q h
 go_wp2
 go_loopg [6] M (fun gg iv wx=>∃ i:Nat,iv=.int .i64 (i:Nat)/\i<=M/\M<=i+gg/\wx.rowIs ga 3 M (fun t=>.int .i64 (if t<i then ((P - dig P X t) % P:Nat) else (dig P X t:Nat):Nat))/\wx.rowIs w.heap.size 24 3 (fldCell (.int .i64 (P:Nat)) (.int .i64 (M:Nat)) (.slice A k c))/\Below w.heap.size w wx)
 case atStart=>exact ⟨0,rfl,by omega,by omega,ra.congr fun t _=>rfl,rf,hB⟩
 clear ra rf hB
 obtain ⟨i,rfl,hi,F,ra,rf,hB⟩:=hrel
 have G:(0:Int)<=(i:Int):=by omega
 by_cases hlt:i<M
 rotate_left
 ·obtain rfl:M=i:=by omega
  have m:¬ (M:Int)<(M:Int):=by omega
  have hr:wr.rowIs ga 3 M (fun t=>.int .i64 ((P - dig P X t) % P:Nat)):=ra.congr fun t ht=>by rw [if_pos ht]
  have g:=rowInts hr
  have j:Hid (valN P (fun t=>(P - dig P X t) % P) M=negF P M (inV (P ^ M) x)):=by rw [HX.out]; rfl
  have l:Hid (∀ t,t<M->(P - dig P X t) % P<P):=fun t _=>Nat.mod_lt _ (by omega)
  clear ra hr
  have q0:=qc0 rf
  have q1:=qc1 rf
  have q2:=qc2 rf
  go_wp2_with fail
  refine (zbR P M A k c (some ⟨ga,0,none⟩) M M _ _ C hP g l hq E).mono ?_
  rintro e w3 ⟨rfl,kb⟩
  replace hB:=onS hB kb;clear kb q0 q1 q2 rf;rw [j.out]
  obtain ⟨R,hR⟩:=exx (negF P M (inV (P ^ M) x))
  rw [<-hR]
  have HR:=hid hR
  clear hR g
  go_wp2
  go_ret
  exact ⟨by rw [HR.out]; rfl,hB⟩
 have m:(i:Int)<(M:Int):=by omega
 have B:=zbG (p:=P) (by omega) X i
 have ca:wr.cell? ⟨ga,i,none⟩=some (.int .i64 (dig P X i:Nat)):=by have:=ra.cell hlt; simpa using this
 have q0:=qc0 rf
 have za:=ra.frozen i
 obtain ⟨R,hR⟩:∃ R,R=(P - dig P X i) % P:=⟨_,rfl⟩
 have H:R<P:=by rw [hR]; exact Nat.mod_lt _ (by omega)
 have ra2:(wr.setCell ⟨ga,i,none⟩ (.int .i64 (R:Int))).rowIs ga 3 M (fun t=>.int .i64 (if t<i+1 then ((P - dig P X t) % P:Nat) else (dig P X t:Nat):Nat)):=(ra.set i _).congr fun t ht=>by
  by_cases e:t=i
  ·subst e
   rw [if_pos rfl,if_pos (by omega),hR]
  rw [if_neg e]
  by_cases e2:t<i
  ·rw [if_pos e2,if_pos (by omega)]
  ·rw [if_neg e2,if_neg (by omega)]
 have rf2:=rf.setOther (a:=⟨ga,i,none⟩) (by simpa using n) (.int .i64 (R:Int))
 have s:Below w.heap.size w (wr.setCell ⟨ga,i,none⟩ (.int .i64 (R:Int))):=hB.setCell o _
 have RA:=hid ra2
 have RF:=hid rf2
 have HB:=hid s
 obtain ⟨D,hD⟩:=exx (dig P X i)
 rw [<-hD] at ca B hR;clear ra2 rf2 s hD ra rf hB
 have J:¬ (P:Int)=0:=by omega
 have I:¬ P=0:=by omega
 have d:(0:Int)<=(P:Int) - (D:Int):=by omega
 have b:((P:Int) - (D:Int))=((P - D:Nat):Int):=by omega
 have r:((P:Int) - (D:Int)) % (P:Int)=(R:Int):=by rw [hR,b]; rfl
 have y:((P:Int) - (D:Int)).tmod (P:Int)=(R:Int):=by rw [Int.tmod_eq_emod_of_nonneg d]; exact r
 have u:IntKind.i64.wrap ((P:Int) - (D:Int))=(P:Int) - (D:Int):=IntWalk.i64_in _ (by omega)
 have v:IntKind.i64.wrap (R:Int)=(R:Int):=IntWalk.i64_in _ (by omega)
 clear hR b
 go_wp2
 go_still_tail 13,(by kernel_rfl)
 change wpList _ _ _ _ _ wr.drew
 go_wp2
 clear y u v r
 go_roundg (gk - 1)
 case measure=>omega
 case rel=>exact ⟨i+1,by go_num,by omega,by omega,RA.out,RF.out,HB.out.drew⟩
def InvPost (q:Nat) (mul:Nat->Nat->Nat) (x:Nat) (w:World) (e:Ending) (w':World):Prop :=
 ∃ y:Nat,e=.returned (.int .i64 (y:Nat))/\Below w.heap.size w w'/\y<q/\((∃ z,1<=z/\z<q/\mul x z=1)->mul x y=1)
theorem zdr (P M:Nat) (A:Option Addr) (k c:Nat) (m:Nat->Nat) (x:Int) (w:World) (hf:FldOk P M) (hm:ModOk w P M A m) (hkM:M=1∨k=M) :
  Calls Tryz.prog 226 #[.agg #[.int .i64 (P:Nat),.int .i64 (M:Nat),.slice A k c],.int .i64 x] w (InvPost (P ^ M) (mulF P M m) (inV (P ^ M) x) w):=by
 have y:=hf.1
 have hq:=hf.2.2.2
 have l:0<P ^ M:=Nat.pow_pos (by omega)
 obtain ⟨w0,j,hB,rf⟩:=zaz w (.int .i64 (P:Nat)) (.int .i64 (M:Nat)) (.slice A k c) 24
 obtain ⟨q,b⟩:=exx (P ^ M)
 have HQ:=hid b
 have a:ordV (P:Int) (M:Int)=(q:Nat):=by
  unfold ordV
  rw [if_pos ⟨by omega,by have:=hf.2.1; omega,by have:=hf.2.2.1; omega,by simpa using hq⟩,b]
  simp
 rw [<-b] at hq l ⊢
 have h:=hid a
 obtain ⟨X,hX⟩:=exx (inV q x)
 rw [<-hX]
 have HX:=hid hX
 clear hX a b
 go_enter Tryz.func226, Tryz.ntmps226
 go_upto_region 1 with fail
 rw [<-j];clear j
 go_wp2
 go_loopg [5] q (fun gg iv wx=>∃ i:Nat,iv=.int .i64 (i:Nat)/\1<=i/\i<=q/\q<=i+gg/\(∀ z,1<=z->z<i->mulF P M m X z≠1)/\wx.rowIs w.heap.size 24 3 (fldCell (.int .i64 (P:Nat)) (.int .i64 (M:Nat)) (.slice A k c))/\Below w.heap.size w wx)
 case atStart=>exact ⟨1,rfl,by omega,by omega,by omega,fun z h1 h2=>absurd h2 (by omega),rf,hB⟩
 clear rf hB
 obtain ⟨i,rfl,u,hi,s,n,rf,hB⟩:=hrel
 have v:(0:Int)<=(i:Int):=by omega
 have p:=hid n
 clear n
 have q0:=qc0 rf
 have q1:=qc1 rf
 have q2:=qc2 rf
 go_wp2_with fail
 refine (zck (P:Int) (M:Int) A k c wr).mono ?_
 rintro e w1 ⟨rfl,kb⟩
 rw [h.out];replace rf:=zab rf kb;replace hB:=onS hB kb;clear kb q0 q1 q2
 have q0:=qc0 rf
 have q1:=qc1 rf
 have q2:=qc2 rf
 by_cases hlt:i<q
 rotate_left
 ·have d:¬ (i:Int)<(q:Int):=by omega
  go_wp2
  go_ret
  refine ⟨0,rfl,hB,l,fun ⟨z,h1,h2,h3⟩=>absurd h3 (p.out z h1 (by omega))⟩
 have d:(i:Int)<(q:Int):=by omega
 go_wp2_with fail
 refine (zdl P M A k c m x (i:Nat) w1 hf (zaO hm hB) hkM).mono ?_
 rintro e w2 ⟨rfl,kb⟩
 rw [<-HQ.out,<-HX.out]
 have o:inV q (i:Nat)=i:=by unfold inV; rw [if_pos ⟨by omega,by omega⟩]; omega
 rw [o];replace rf:=zab rf kb;replace hB:=onS hB kb;clear kb q0 q1 q2 o
 obtain ⟨r,hr⟩:=exx (mulF P M m X i)
 rw [<-hr]
 have HR:=hid hr
 clear hr
 by_cases h1:r=1
 ·have hc:((r:Int) == 1)=true:=by simp [h1]
  have g:Hid (mulF P M m X i=1):=by rw [<-HR.out]; exact h1
  clear h1
  go_wp2
  go_ret
  exact ⟨i,rfl,hB,hlt,fun _=>g.out⟩
 have hc:((r:Int) == 1)=false:=by simp; omega
 have g:Hid (mulF P M m X i≠1):=by rw [<-HR.out]; exact h1
 clear h1
 go_wp2
 go_roundg (gk - 1)
 case measure=>omega
 refine ⟨i+1,by go_num,by omega,by omega,by omega,fun z hz1 hz2=>?_,rf,hB⟩
 by_cases e:z=i
 ·subst e; exact g.out
 ·exact p.out z hz1 (by omega)
theorem zc2 {w:World} {p q:Addr} {u v:Value} (h:w.cell? q=some v) (hne:q≠p):(w.setCell p u).cell? q=some v :=
 (World.cell?_setCell_other w p q u (fun e=>hne (by rw [e]))).trans h
theorem zcg {w:World} {b i:Nat} {u v:Value} (h:w.cell? ⟨b,i,none⟩=some v):(w.setCell ⟨b,i,none⟩ u).cell? ⟨b,i,none⟩=some u:=by
 unfold World.cell? at h
 split at h
 ·rename_i c e fr hb
  have hb:w.heap[b]?=some (.cells c e fr):=hb
  simp only [Option.isSome_none,Bool.false_eq_true,if_false] at h
  have hi:i<c.size:=(Array.getElem?_eq_some_iff.1 h).1
  simp [World.cell?,World.setCell,Array.getElem?_modify,hb,hi]
 ·cases h
theorem zaa {w:World} {p q:Addr} {u v:Value} (h:w.cell? q=some v) (hne:q.block≠p.block):(w.setCell p u).cell? q=some v :=
 (World.cell?_setCell_other w p q u (fun e=>hne (by rw [e]))).trans h
theorem ziL {w wr:World} {o1 o2:Obj} (h:Below (w.heap.size+2) ((w.alloc o1).alloc o2) wr):Below (w.heap.size+1) (w.alloc o1) wr:=((Below.refl _ _).alloc (by simp) _).trans (h.mono (by omega))
theorem zbT {w wr:World} {o1:Obj} {cs:Array Value} {T:TypeId} (h:Below (w.heap.size+2) ((w.alloc o1).alloc (.cells cs T)) wr):wr.rowIs (w.heap.size+1) T cs.size (fun i=>cs.getD i undef):=by
 have h1:=World.rowIs_alloc (w.alloc o1) cs T (fun i=>cs.getD i undef) (fun i hi=>by simp [hi])
 simp only [World.size_alloc] at h1
 exact h1.of_block (h.block _ (by omega))
structure TabOwn (w:World) (g base te e s m:Nat) (F:Nat->Value) (n:Nat->Nat) (f:Nat->Nat->Nat->Value):Prop where
 row:w.rowIs g te m F
 own:∀ v,v<m->Own w base e s (F v) (n v) (f v)
 apart:∀ v u,v<m->u<m->v≠u->(F v).ownBlock=none∨(F v).ownBlock≠(F u).ownBlock
section
variable {w w':World} {g base te e s m:Nat} {F:Nat->Value} {n:Nat->Nat} {f:Nat->Nat->Nat->Value}
theorem TabOwn.put (h:TabOwn w g base te e s m F n f) (hgb:g<base) {v:Nat} (hv:v<m) {v':Value} {n':Nat} {f':Nat->Nat->Value} (hown:Own w' base e s v' n' f') (hg:w.grownBy w' (F v).ownBlock) (hat:v'.ownBlock=(F v).ownBlock∨v'.ownBlock=some w.heap.size) :
  TabOwn (w'.setCell ⟨g,v,none⟩ v') g base te e s m (fun u=>if u=v then v' else F u) (fun u=>if u=v then n' else n u) (fun u=>if u=v then f' else f u):=by
 have c:∀ u,u<m->∀ k,(F u).ownBlock=some k->base<=k/\k<w.heap.size:=fun u hu=>(h.own u hu).lt
 have d:g<w.heap.size:=h.row.lt
 refine ⟨?_,fun u hu=>?_,fun a b ha hb hab=>?_⟩
 ·have:w'.rowIs g te m F:=h.row.of_block (hg.block g d (fun e=>by have:=(c v hv g e.symm).1; omega))
  exact (this.set v v').congr fun u _=>by split <;> rfl
 ·by_cases e:u=v
  ·subst e
   simp only [if_true]
   exact hown.setCell (fun e=>by have:=(hown.lt _ e).1; simp at this; omega) _
  simp only [if_neg e]
  have hk:Own w' base _ s (F u) (n u) (f u):=(h.own u hu).kept hg (h.apart u v hu hv e)
  exact hk.setCell (fun e=>by have:=(hk.lt _ e).1; simp at this; omega) _
 by_cases ea:a=v
 ·have eb:¬ b=v:=fun e=>hab (by rw [ea,e])
  simp only [if_pos ea,if_neg eb]
  subst ea
  rcases hat with h1 | h1
  ·rw [h1]; exact h.apart a b ha hb hab
  right
  rw [h1]
  intro e2
  have:=(c b hb _ e2.symm).2
  omega
 simp only [if_neg ea]
 by_cases eb:b=v
 rotate_left
 ·simp only [if_neg eb]; exact h.apart a b ha hb hab
 simp only [if_pos eb]
 subst eb
 rcases hat with h1 | h1
 ·rw [h1]; exact h.apart a b ha hb hab
 rw [h1]
 cases hfa:(F a).ownBlock with
 | none=>exact .inl rfl
 | some k =>
  right
  intro e2
  injection e2 with e2
  have:=(c a ha k hfa).2
  omega
end
def atF (P M:Nat) (m:Nat->Nat) (a:Nat) (v u:Nat->Nat) (t:Nat):Nat:=if u t=0 then v t else addF P M (v t) (mulF P M m a (u t))
theorem zhu (P M:Nat) (A:Option Addr) (k c:Nat) (m:Nat->Nat) (a:Nat) (V:Option Addr) (n d:Nat) (v:Nat->Nat) (w:World) (hf:FldOk P M) (hm:ModOk w P M A m) (hkM:M=1∨k=M) (ha:a<P ^ M)
  (h:IntsR w w.heap.size V n (fun i=>(v i:Nat))) (hv:∀ i,i<n->v i<P ^ M) (hn:n<=1048576) :
  Calls Tryz.prog 225 #[.agg #[.int .i64 (P:Nat),.int .i64 (M:Nat),.slice A k c],.int .i64 (a:Nat),.slice V n d] w (RowPost n (fun i=>.int .i64 (mulF P M m a (v i):Nat)) w):=by
 obtain ⟨w0,o,hB,rf⟩:=zaz w (.int .i64 (P:Nat)) (.int .i64 (M:Nat)) (.slice A k c) 24
 have q:=fun W=>zaf (P:=Tryz.prog) 22 3 _ 8 Tryz.underlying22 Tryz.infoInt rfl (n:Int) (by omega) (by omega) (by omega) W
 simp only [Int.toNat_natCast] at q
 go_enter Tryz.func225, Tryz.ntmps225
 go_upto_region 1 with fail
 rw [<-o];clear o
 go_upto_region 2 with fail
 have kb:=(Below.refl w0.heap.size w0).alloc (Nat.le_refl _) (Obj.cells (madeCells #[Value.int .i64 0] n) 3)
 have ra:=World.rowIs_made w0 (.int .i64 0) n 3
 have y:=rf.lt
 have F:=hB.size
 obtain ⟨w1,b⟩:=exx (w0.alloc (Obj.cells (madeCells #[Value.int .i64 0] n) 3))
 obtain ⟨g,hg⟩:=exx w0.heap.size
 rw [<-b] at kb ra ⊢;rw [<-hg] at ra y F ⊢;replace rf:=zab rf kb;replace hB:=onS hB kb
 have j:w.heap.size≠g:=by omega
 have s:w.heap.size<=g:=by omega
 clear kb b hg q y
 have E:=zaj ha
 have HV:=hid h
 have L:=hid hv
 clear h hv
 go_wp2
 go_loopg [8] n (fun gg iv wx=>∃ i:Nat,iv=.int .i64 (i:Nat)/\i<=n/\n<=i+gg/\wx.rowIs g 3 n (fun t=>.int .i64 ((if t<i then mulF P M m a (v t) else 0:Nat):Int))/\wx.rowIs w.heap.size 24 3 (fldCell (.int .i64 (P:Nat)) (.int .i64 (M:Nat)) (.slice A k c))/\Below w.heap.size w wx)
 case atStart=>exact ⟨0,rfl,by omega,by omega,ra.congr fun t _=>by rw [if_neg (by omega)]; rfl,rf,hB⟩
 clear ra rf hB
 obtain ⟨i,rfl,hi,O,ra,rf,hB⟩:=hrel
 have Q:(0:Int)<=(i:Int):=by omega
 by_cases hlt:i<n
 rotate_left
 ·have l:¬ (i:Int)<(n:Int):=by omega
  obtain rfl:i=n:=by omega
  have hr:=ra.congr (g:=fun t=>.int .i64 (mulF P M m a (v t):Nat)) fun t ht=>by rw [if_pos ht]
  clear ra
  go_wp2
  go_ret
  exact ⟨g,rfl,s,hr,hB⟩
 have l:(i:Int)<(n:Int):=by omega
 obtain ⟨vb,vo,rfl,C,x0⟩:=HV.out.at hlt
 have B:vb≠g:=by omega
 replace x0:=(hB.cell (p:=⟨vb,vo+i,none⟩) C).trans x0
 obtain ⟨x,hx⟩:=exx (v i)
 have D:inV (P ^ M) (x:Nat)=x:=by rw [hx]; exact zaj (L.out i hlt)
 rw [<-hx] at x0
 have HX:=hid hx
 clear hx
 have q0:=qc0 rf
 have q1:=qc1 rf
 have q2:=qc2 rf
 obtain ⟨w1,b⟩:=exx wr
 subst b
 go_wp2
 refine wp_region_held_drew (S:=fun w'=>w'.cell? ⟨w.heap.size,0,none⟩=some (.int .i64 (P:Nat))/\w'.cell? ⟨w.heap.size,1,none⟩=some (.int .i64 (M:Nat))/\w'.cell? ⟨w.heap.size,2,none⟩=some (.slice A k c)/\w'.cell? ⟨vb,vo+i,none⟩=some (.int .i64 (x:Nat))) (by kernel_rfl) ⟨cellS (Below.refl _ _).drew q0,cellS (Below.refl _ _).drew q1,cellS (Below.refl _ _).drew q2,cellS (Below.refl _ _).drew x0⟩ (fun hHeld=>?_)
 obtain ⟨w2,hw,kb⟩:=dwx w1
 rw [<-hw] at hHeld ⊢;clear hw;replace ra:=zab ra kb;replace rf:=zab rf kb;replace hB:=onS hB kb;replace q0:=cellS kb q0;replace q1:=cellS kb q1;replace q2:=cellS kb q2;replace x0:=cellS kb x0;clear kb
 refine tkq 0 (h:=tkq 1 (h:=tkq 2 (h:=tkq 3 (h:=tkq 4 (h:=tkq 5 (h:=tkq 6 (h:=tkq 7 (h:=?_))))))))
 refine rdq 8 (h:=fun K hK=>?_)
 go_simp
 go_wp2_with fail
 refine (zdl P M A k c m (a:Nat) (x:Nat) w2 hf (zaO hm hB) hkM).mono ?_
 rintro e w3 ⟨rfl,kb⟩
 replace ra:=zab ra kb;replace rf:=zab rf kb;replace hB:=onS hB kb;replace q0:=cellS kb q0;replace q1:=cellS kb q1;replace q2:=cellS kb q2;replace x0:=cellS kb x0;clear kb;rw [E,D]
 obtain ⟨r,hr⟩:=exx (mulF P M m a x)
 rw [<-hr]
 have HR:=hid hr
 clear hr
 refine bkq hK ⟨q0,q1,q2,x0⟩ (h:=fun hHeld=>?_)
 clear hK K
 refine tkq 9 (h:=?_)
 refine rdq 10 (h:=fun K hK=>?_)
 have y0:=ra.cell hlt
 have z0:=ra.frozen i
 have ra9:=ra.set i (.int .i64 (r:Nat))
 have rf9:=rf.setOther (a:=⟨g,i,none⟩) (by simpa using j) (.int .i64 (r:Nat))
 have z:=hB.setCell (p:=⟨g,i,none⟩) s (.int .i64 (r:Nat))
 have q09:=zaa (p:=⟨g,i,none⟩) (u:=.int .i64 (r:Nat)) q0 j
 have q19:=zaa (p:=⟨g,i,none⟩) (u:=.int .i64 (r:Nat)) q1 j
 have q29:=zaa (p:=⟨g,i,none⟩) (u:=.int .i64 (r:Nat)) q2 j
 have x09:=zaa (p:=⟨g,i,none⟩) (u:=.int .i64 (r:Nat)) x0 B
 have RA:=hid ra9
 have RF:=hid rf9
 have N:=hid z
 have J:=hid q09
 have I:=hid q19
 have H:=hid q29
 have G:=hid x09
 clear ra rf hB ra9 rf9 z q0 q1 q2 x0 q09 q19 q29 x09
 go_simp
 clear y0 z0
 refine bkq hK ⟨J.out,I.out,H.out,G.out⟩ (h:=fun hHeld=>?_)
 clear hK K
 refine wpAnyH_done (by kernel_rfl) ?_ _
 clear hHeld
 go_wp2
 go_roundg (gk - 1)
 case measure=>omega
 refine ⟨i+1,by go_num,by omega,by omega,RA.out.congr fun t ht=>?_,RF.out,N.out⟩
 show (if t=i then Value.int .i64 (r:Nat) else .int .i64 ((if t<i then mulF P M m a (v t) else 0:Nat):Int))=.int .i64 ((if t<i+1 then mulF P M m a (v t) else 0:Nat):Int)
 by_cases e:t=i
 ·subst e; rw [if_pos rfl,if_pos (by omega),HR.out,HX.out]
 rw [if_neg e]
 by_cases e2:t<i
 ·rw [if_pos e2,if_pos (by omega)]
 ·rw [if_neg e2,if_neg (by omega)]
theorem zhv (P M:Nat) (A:Option Addr) (k c:Nat) (m:Nat->Nat) (a:Nat) (V U:Option Addr) (n d n' d':Nat) (v u:Nat->Nat) (w:World) (hf:FldOk P M) (hm:ModOk w P M A m) (hkM:M=1∨k=M) (ha:a<P ^ M)
  (h:IntsR w w.heap.size V n (fun i=>(v i:Nat))) (hv:∀ i,i<n->v i<P ^ M) (h2:IntsR w w.heap.size U n' (fun i=>(u i:Nat))) (hu:∀ i,i<n->u i<P ^ M) (hnn:n<=n') (hn:n<=1048576) :
  Calls Tryz.prog 89 #[.agg #[.int .i64 (P:Nat),.int .i64 (M:Nat),.slice A k c],.slice V n d,.int .i64 (a:Nat),.slice U n' d'] w (RowPost n (fun i=>.int .i64 (atF P M m a v u i:Nat)) w):=by
 obtain ⟨w0,B,hB,rf⟩:=zaz w (.int .i64 (P:Nat)) (.int .i64 (M:Nat)) (.slice A k c) 24
 have F:=fun W=>zaf (P:=Tryz.prog) 22 3 _ 8 Tryz.underlying22 Tryz.infoInt rfl (n:Int) (by omega) (by omega) (by omega) W
 simp only [Int.toNat_natCast] at F
 go_enter Tryz.func89, Tryz.ntmps89
 go_upto_region 1 with fail
 rw [<-B];clear B
 go_upto_region 2 with fail
 have kb:=(Below.refl w0.heap.size w0).alloc (Nat.le_refl _) (Obj.cells (madeCells #[Value.int .i64 0] n) 3)
 have ra:=World.rowIs_made w0 (.int .i64 0) n 3
 have G:=rf.lt
 have R:=hB.size
 obtain ⟨w1,z⟩:=exx (w0.alloc (Obj.cells (madeCells #[Value.int .i64 0] n) 3))
 obtain ⟨g,hg⟩:=exx w0.heap.size
 rw [<-z] at kb ra ⊢;rw [<-hg] at ra G R ⊢;replace rf:=zab rf kb;replace hB:=onS hB kb
 have b:w.heap.size≠g:=by omega
 have l:w.heap.size<=g:=by omega
 clear kb z hg F G
 have Q:=zaj ha
 have HV:=hid h
 have a2:=hid hv
 have HU:=hid h2
 have a3:=hid hu
 clear h hv h2 hu
 go_wp2
 go_loopg [10] n (fun gg iv wx=>∃ i:Nat,iv=.int .i64 (i:Nat)/\i<=n/\n<=i+gg/\wx.rowIs g 3 n (fun t=>.int .i64 ((if t<i then atF P M m a v u t else 0:Nat):Int))/\wx.rowIs w.heap.size 24 3 (fldCell (.int .i64 (P:Nat)) (.int .i64 (M:Nat)) (.slice A k c))/\Below w.heap.size w wx)
 case atStart=>exact ⟨0,rfl,by omega,by omega,ra.congr fun t _=>by rw [if_neg (by omega)]; rfl,rf,hB⟩
 clear ra rf hB
 obtain ⟨i,rfl,hi,a6,ra,rf,hB⟩:=hrel
 have a7:(0:Int)<=(i:Int):=by omega
 by_cases hlt:i<n
 rotate_left
 ·have j:¬ (i:Int)<(n:Int):=by omega
  obtain rfl:i=n:=by omega
  have hr:=ra.congr (g:=fun t=>.int .i64 (atF P M m a v u t:Nat)) fun t ht=>by rw [if_pos ht]
  clear ra
  go_wp2
  go_ret
  exact ⟨g,rfl,l,hr,hB⟩
 have j:(i:Int)<(n:Int):=by omega
 have L:(i:Int)<(n':Int):=by omega
 obtain ⟨vb,vo,rfl,I,x0⟩:=HV.out.at hlt
 obtain ⟨ub,uo,rfl,J,u0⟩:=HU.out.at (i:=i) (by omega)
 have C:vb≠g:=by omega
 have D:ub≠g:=by omega
 replace x0:=(hB.cell (p:=⟨vb,vo+i,none⟩) I).trans x0;replace u0:=(hB.cell (p:=⟨ub,uo+i,none⟩) J).trans u0
 obtain ⟨x,hx⟩:=exx (v i)
 have O:inV (P ^ M) (x:Nat)=x:=by rw [hx]; exact zaj (a2.out i hlt)
 rw [<-hx] at x0
 have HX:=hid hx
 obtain ⟨y,hy⟩:=exx (u i)
 have N:inV (P ^ M) (y:Nat)=y:=by rw [hy]; exact zaj (a3.out i hlt)
 rw [<-hy] at u0
 have HY:=hid hy
 clear hx hy
 have y9:=ra.cell hlt
 have z9:=ra.frozen i
 go_upto_region 6 with fail
 have ra2:=ra.set i (.int .i64 (x:Nat))
 have rf2:=rf.setOther (a:=⟨g,i,none⟩) (by simpa using b) (.int .i64 (x:Nat))
 have o:=hB.setCell (p:=⟨g,i,none⟩) l (.int .i64 (x:Nat))
 have x2:=zaa (p:=⟨g,i,none⟩) (u:=.int .i64 (x:Nat)) x0 C
 have u2:=zaa (p:=⟨g,i,none⟩) (u:=.int .i64 (x:Nat)) u0 D
 obtain ⟨w2,q⟩:=exx (wr.setCell ⟨g,i,none⟩ (.int .i64 (x:Nat)))
 rw [<-q] at ra2 rf2 o x2 u2 ⊢;clear q ra rf hB x0 u0 y9 z9
 have ra:=ra2
 have rf:=rf2
 have hB:=o
 have x0:=x2
 have u0:=u2
 clear ra2 rf2 o x2 u2
 by_cases hy0:y=0
 ·have hc:((y:Int) != 0)=false:=by simp [hy0]
  have a1:=hid hy0
  have RA:=hid ra
  clear hy0 ra
  go_wp2
  go_roundg (gk - 1)
  case measure=>omega
  refine ⟨i+1,by go_num,by omega,by omega,RA.out.congr fun t ht=>?_,rf,hB⟩
  by_cases e:t=i
  ·subst e; rw [if_pos rfl,if_pos (by omega)]; show _=Value.int .i64 ((atF P M m a v u t:Nat):Int); unfold atF; rw [if_pos (by rw [<-HY.out]; exact a1.out),HX.out]
  rw [if_neg e]
  by_cases e2:t<i
  ·rw [if_pos e2,if_pos (by omega)]
  ·rw [if_neg e2,if_neg (by omega)]
 have hc:((y:Int) != 0)=true:=by simp; omega
 have q0:=qc0 rf
 have q1:=qc1 rf
 have q2:=qc2 rf
 go_wp2
 refine wp_region_held_drew (S:=fun w'=>w'.cell? ⟨w.heap.size,0,none⟩=some (.int .i64 (P:Nat))/\w'.cell? ⟨w.heap.size,1,none⟩=some (.int .i64 (M:Nat))/\w'.cell? ⟨w.heap.size,2,none⟩=some (.slice A k c)/\w'.cell? ⟨vb,vo+i,none⟩=some (.int .i64 (x:Nat))/\w'.cell? ⟨ub,uo+i,none⟩=some (.int .i64 (y:Nat))) (by kernel_rfl) ⟨cellS (Below.refl _ _).drew q0,cellS (Below.refl _ _).drew q1,cellS (Below.refl _ _).drew q2,cellS (Below.refl _ _).drew x0,cellS (Below.refl _ _).drew u0⟩ (fun hHeld=>?_)
 obtain ⟨w3,hw,kb⟩:=dwx w2
 rw [<-hw] at hHeld ⊢;clear hw;replace ra:=zab ra kb;replace rf:=zab rf kb;replace hB:=onS hB kb;replace q0:=cellS kb q0;replace q1:=cellS kb q1;replace q2:=cellS kb q2;replace x0:=cellS kb x0;replace u0:=cellS kb u0;clear kb
 refine tkq 0 (h:=tkq 1 (h:=tkq 2 (h:=tkq 3 (h:=tkq 4 (h:=tkq 5 (h:=tkq 6 (h:=tkq 7 (h:=tkq 8 (h:=tkq 9 (h:=tkq 10 (h:=tkq 11 (h:=tkq 12 (h:=?_)))))))))))))
 refine rdq 13 (h:=fun K hK=>?_)
 go_simp
 go_wp2_with fail
 refine (zdl P M A k c m (a:Nat) (y:Nat) w3 hf (zaO hm hB) hkM).mono ?_
 rintro e w4 ⟨rfl,kb⟩
 replace ra:=zab ra kb;replace rf:=zab rf kb;replace hB:=onS hB kb;replace q0:=cellS kb q0;replace q1:=cellS kb q1;replace q2:=cellS kb q2;replace x0:=cellS kb x0;replace u0:=cellS kb u0;clear kb;rw [Q,N]
 obtain ⟨r,hr⟩:=exx (mulF P M m a y)
 have E:inV (P ^ M) (r:Nat)=r:=by rw [hr]; exact zaj (zaN (by have:=hf.1; omega) _ _)
 rw [<-hr]
 have HR:=hid hr
 clear hr
 refine bkq hK ⟨q0,q1,q2,x0,u0⟩ (h:=fun hHeld=>?_)
 clear hK K
 refine rdq 14 (h:=fun K hK=>?_)
 go_simp
 go_wp2_with fail
 refine (zhn P M A k c (x:Nat) (r:Nat) w4 hf).mono ?_
 rintro e w5 ⟨rfl,kb⟩
 replace ra:=zab ra kb;replace rf:=zab rf kb;replace hB:=onS hB kb;replace q0:=cellS kb q0;replace q1:=cellS kb q1;replace q2:=cellS kb q2;replace x0:=cellS kb x0;replace u0:=cellS kb u0;clear kb;rw [O,E]
 obtain ⟨s,hs⟩:=exx (addF P M x r)
 rw [<-hs]
 have a4:=hid hs
 clear hs E
 refine bkq hK ⟨q0,q1,q2,x0,u0⟩ (h:=fun hHeld=>?_)
 clear hK K
 refine tkq 15 (h:=?_)
 refine rdq 16 (h:=fun K hK=>?_)
 have y0:=ra.cell hlt
 have z0:=ra.frozen i
 have ra9:=ra.set i (.int .i64 (s:Nat))
 have rf9:=rf.setOther (a:=⟨g,i,none⟩) (by simpa using b) (.int .i64 (s:Nat))
 have H:=hB.setCell (p:=⟨g,i,none⟩) l (.int .i64 (s:Nat))
 have q09:=zaa (p:=⟨g,i,none⟩) (u:=.int .i64 (s:Nat)) q0 b
 have q19:=zaa (p:=⟨g,i,none⟩) (u:=.int .i64 (s:Nat)) q1 b
 have q29:=zaa (p:=⟨g,i,none⟩) (u:=.int .i64 (s:Nat)) q2 b
 have x09:=zaa (p:=⟨g,i,none⟩) (u:=.int .i64 (s:Nat)) x0 C
 have u09:=zaa (p:=⟨g,i,none⟩) (u:=.int .i64 (s:Nat)) u0 D
 have RA:=hid ra9
 have RF:=hid rf9
 have a5:=hid H
 have a0:=hid q09
 have Z:=hid q19
 have Y:=hid q29
 have T:=hid x09
 have X:=hid u09
 clear ra rf hB ra9 rf9 H q0 q1 q2 x0 u0 q09 q19 q29 x09 u09
 go_simp
 clear y0 z0
 refine bkq hK ⟨a0.out,Z.out,Y.out,T.out,X.out⟩ (h:=fun hHeld=>?_)
 clear hK K
 refine wpAnyH_done (by kernel_rfl) ?_ _
 clear hHeld
 go_wp2
 go_roundg (gk - 1)
 case measure=>omega
 refine ⟨i+1,by go_num,by omega,by omega,RA.out.congr fun t ht=>?_,RF.out,a5.out⟩
 by_cases e:t=i
 ·subst e; rw [if_pos rfl,if_pos (by omega)]; show _=Value.int .i64 ((atF P M m a v u t:Nat):Int); unfold atF; rw [if_neg (by rw [<-HY.out]; omega),a4.out,HR.out,HX.out,HY.out]
 rw [if_neg e]
 by_cases e2:t<i
 ·rw [if_neg e,if_pos e2,if_pos (by omega)]
 ·rw [if_neg e,if_neg e2,if_neg (by omega)]
theorem Tryz.infoInts:(Tryz.prog.info? 22).map (fun i=>(i.zero,i.size,i.bytes))=some (some (.slice none 0 0),1,24):=by kernel_rfl
def listCell (l:List Int) (k _j:Nat):Value:=.int .i64 (l.getD k 0)
def OwnL (w:World) (base:Nat) (R:Value) (l:List Int):Prop:=Own w base 3 1 R l.length (listCell l)
def TabL (w:World) (base:Nat) (v:Value) (L:List (List Int)):Prop :=
 ∃ R:Nat->Value,Own w base 22 1 v L.length (fun i _=>R i)/\∀ i,i<L.length->OwnL w base (R i) (L.getD i [])
theorem OwnL.on {w w':World} {base:Nat} {R:Value} {l:List Int} (h:OwnL w base R l) (hb:Below w.heap.size w w'):OwnL w' base R l:=Own.on h hb
theorem TabL.on {w w':World} {base:Nat} {v:Value} {L:List (List Int)} (h:TabL w base v L) (hb:Below w.heap.size w w'):TabL w' base v L:=by
 obtain ⟨R,h1,h2⟩:=h
 exact ⟨R,h1.on hb,fun i hi=>(h2 i hi).on hb⟩
theorem TabL.shape {w:World} {base:Nat} {v:Value} {L:List (List Int)} (h:TabL w base v L):∃ A c,v=.slice A L.length c:=h.choose_spec.1.shape
theorem Own.capL {w:World} {base e s n c:Nat} {A:Option Addr} {f:Nat->Nat->Value} (h:Own w base e s (.slice A n c) n f):n<=c/\c<=maxLen:=by
 rcases h with ⟨h,_⟩ | ⟨g,o,cap,cur,h1,_,_,h4,h5,_⟩
 ·injection h with h1 h2 h3
  subst h2 h3
  exact ⟨Nat.le_refl _,by unfold maxLen; omega⟩
 injection h1 with h1 h2 h3
 subst h3
 exact ⟨h4,h5⟩
theorem zbm {w:World} {base e e' s s' n n':Nat} {v v':Value} {f f':Nat->Nat->Value} (h:Own w base e s v n f) (h':Own w base e' s' v' n' f') (hne:e≠e'):v'.ownBlock=none∨v'.ownBlock≠v.ownBlock:=by
 rcases h' with ⟨rfl,_⟩ | ⟨g',o',cap',cur',rfl,_,a,_⟩
 ·exact .inl rfl
 refine .inr fun e1=>?_
 rcases h with ⟨rfl,_⟩ | ⟨g,o,cap,cur,rfl,_,hg,_⟩
 ·simp [Value.ownBlock] at e1
 simp [Value.ownBlock] at e1
 subst e1
 rw [hg] at a
 injection a with h1
 injection h1 with _ h1
 exact hne h1
theorem TabL.rows {w:World} {base:Nat} {v:Value} {L:List (List Int)} (h:TabL w base v L) (hi:∀ l,l ∈ L->∀ x,x ∈ l -> -9223372036854775808<=x/\x<=9223372036854775807) :
  ∃ O c,v=.slice O L.length c/\L.length<=c/\c<=maxLen/\IntRows w O L.length (fun i=>(L.getD i []).length) (fun i k=>(L.getD i []).getD k 0):=by
 obtain ⟨R,h1,h2⟩:=h
 obtain ⟨O,c,rfl⟩:=h1.shape
 have hc:=h1.capL
 refine ⟨O,c,rfl,hc.1,hc.2,fun i hi'=>?_⟩
 obtain ⟨b,off,e,hb,a⟩:=h1.rd rfl i hi'
 have d:=a 0 (by omega)
 rw [Nat.mul_one,Nat.add_zero] at d
 have h3:=h2 i hi'
 obtain ⟨A,cc,hR⟩:=h3.shape
 unfold OwnL at h3
 simp only [hR] at h3 d
 refine ⟨b,off,A,cc,e,hb,d,h3.capL.1,h3.capL.2,h3.rd rfl,fun j hj=>?_⟩
 refine hi (L.getD i []) ?_ _ ?_
 ·rw [List.getD_eq_getElem?_getD,List.getElem?_eq_getElem hi']; exact List.getElem_mem hi'
 ·show ((L.getD i []).getD j 0) ∈ _
  rw [List.getD_eq_getElem?_getD (l:=L.getD i []),List.getElem?_eq_getElem hj]; exact List.getElem_mem hj
theorem TabL.put {w w':World} {base:Nat} {v v':Value} {L:List (List Int)} {R:Nat->Value} {r:Value} {l:List Int} (h2:∀ i,i<L.length->OwnL w base (R i) (L.getD i [])) (hr:OwnL w base r l) (hv:Own w base 22 1 v L.length (fun i _=>R i))
  (hown:Own w' base 22 1 v' (L.length+1) (fun i _=>if i=L.length then r else R i)) (hg:w.grownBy w' v.ownBlock):TabL w' base v' (L ++ [l]):=by
 have ne:(22 : Nat) ≠ 3 := by decide
 refine ⟨fun i=>if i=L.length then r else R i,by rw [List.length_append]; exact hown,fun i hi=>?_⟩
 show OwnL w' base (if i=L.length then r else R i) _
 by_cases e:i=L.length
 ·subst e
  rw [if_pos rfl]
  have:(L ++ [l]).getD L.length []=l:=by simp [List.getD_eq_getElem?_getD]
  rw [this]
  exact hr.kept hg (zbm hv hr ne)
 have a:i<L.length:=by rw [List.length_append] at hi; simp at hi; omega
 rw [if_neg e]
 have:(L ++ [l]).getD i []=L.getD i []:=by rw [List.getD_eq_getElem?_getD,List.getD_eq_getElem?_getD,List.getElem?_append_left a]
 rw [this]
 exact (h2 i a).kept hg (zbm hv (h2 i a) ne)
theorem zbU {w:World} {ops:Array Oper} {rest:List Oper} {o:Oper} {a:Act} {Q:Exit->Act->World->Prop} (hgd:o.guard=none) (sl x:Operand)
  (ho:o.op=.call { callee:=.builtin .append,args:=#[sl,x],argTypes:=#[25, 25] })
  {base:Nat} {v:Value} {L:List (List Int)} (h:TabL w base v L) (hv:a.eval sl=v) {ad:Addr} {c:Nat} {r:Value} {l:List Int} (hx:a.eval x=.slice (some ad) 1 c)
  (hcell:w.cell? (ad.add 0)=some r) (h1:r.oneCell'=true) (hrow:OwnL w base r l) (hbase:base<=w.heap.size) (hN:L.length<=1048576)
  (K:∀ v' w',TabL w' base v' (L ++ [l])->w.grownBy w' v.ownBlock->wpList Tryz.prog ops Q rest (a.put o.dst v') w'):wpList Tryz.prog ops Q (o :: rest) a w:=by
 obtain ⟨R,hA,hB⟩:=h
 obtain ⟨i0,qi0,qz0,qz1,qz2⟩:=info_parts Tryz.infoInts
 have b:Own w base 22 1 v L.length (fun i _=>if i=L.length then r else R i):=hA.congr fun i hi _ _=>by rw [if_neg (by omega)]
 refine zal w hgd sl x _ ho base 22 i0 _ 1 24 Tryz.underlying25 qi0 qz0 qz1 qz2 rfl (by omega) v L.length _ hv b ad c hx (fun j hj=>by
   obtain rfl:j=0:=by omega
   rw [if_pos rfl]
   exact hcell) (fun _ _=>by rw [if_pos rfl]; exact h1) (by unfold maxLen; omega) (by omega) hbase ?_
 intro v' w3 hown3 hg3 _
 exact K v' w3 (TabL.put hB hrow hA hown3 hg3) hg3
theorem zah {w:World} {o:Obj} {k:Nat} (h:k=w.heap.size):(w.alloc o).heap[k]?=some o:=by subst h; exact heap_alloc_new w o
def Cloned (e:TypeId) (s n:Nat) (f:Nat->Nat->Value) (w:World) (E:Ending) (w':World):Prop :=
 ∃ A c,E=.returned (.slice A n c)/\Own w' w.heap.size e s (.slice A n c) n f/\Below w.heap.size w w'
theorem zaq (A:Option Addr) (nn c:Nat) (f:Nat->Int) (w:World) (h:IntsR w w.heap.size A nn f) (hc:nn<=c) (hn:nn<=1048576) :
  Calls Tryz.prog 140 #[.slice A nn c] w (Cloned 3 1 nn (fun i _=>.int .i64 (f i)) w):=by
 obtain ⟨i0,qi0,qz0,qz1,qz2⟩:=info_parts Tryz.infoInt
 have hq:=fun (W:World) (a:Option Addr)=>Lib.run_eql_slice_nil (P:=Tryz.prog) W 22 3 a nn c 0 0 Tryz.underlying22
 cases A with
 | none =>
  have h0:nn=0:=by
   rcases Nat.eq_zero_or_pos nn with h0 | h0
   ·exact h0
   ·obtain ⟨b,o,e,_⟩:=h.at h0; cases e
  have H0:=hid h0
  clear h0
  go_enter Tryz.func140, Tryz.ntmps140
  go_wp2
  go_ret
  exact ⟨none,0,by rw [H0.out]; rfl,by rw [H0.out]; exact Own.nil _ _ _ _ _,Below.refl _ _⟩
 | some a =>
  obtain ⟨ab,ao,ap⟩:=a
  rcases Nat.eq_zero_or_pos nn with h0 | h0
  ·have H0:=hid h0
   obtain ⟨n,d⟩:∃ n,n=nn:=⟨_,rfl⟩
   have HN:=hid d
   rw [<-d] at h0 hc hn hq ⊢;clear d h
   subst h0
   go_enter Tryz.func140, Tryz.ntmps140
   go_wp2_with (first | (at_builtin; (refine zaA rfl (.tmp 5) (.tmp 6) _ rfl 3 i0 Tryz.underlying22 qi0 w.heap.size 0 rfl (some ⟨ab,ao,ap⟩) c rfl ?_)))
   go_ret
   exact ⟨_,_,rfl,.inr ⟨_,0,0,#[],rfl,Nat.le_refl _,zah rfl,Nat.le_refl _,by unfold maxLen; omega,by simp,fun i hi=>absurd hi (by omega)⟩,(Below.refl _ _).alloc (Nat.le_refl _) _⟩
  ·have n3:Hid (nn<=maxLen):=by show _<=_; unfold maxLen; omega
   have n4:Hid (nn*8<=140737488355328):=by show _<=_; omega
   have NR:Hid (∀ o1,Rd (w.alloc o1) (w.alloc o1).heap.size (some ⟨ab,ao,ap⟩) nn 1 (fun i _=>.int .i64 (f i))):=fun o1=>(Rd.alloc h (Nat.le_refl _) o1).mono (by simp)
   go_enter Tryz.func140, Tryz.ntmps140
   go_wp2_with (first | (at_builtin; (refine zai rfl (.tmp 5) (.tmp 6) _ rfl 3 i0 _ 1 8 Tryz.underlying22 qi0 qz0 qz1 qz2 rfl (by omega) _ rfl (some ⟨ab,ao,ap⟩) nn c (fun i _=>.int .i64 (f i)) rfl (NR.out _) h0 (fun _ _ _ _=>rfl) n3.out n4.out ?_); intro cap cur k1 k2 k3 k4))
   go_ret
   have hO:=Own.new (w:=w.alloc (Obj.cells #[] 3)) (base:=w.heap.size) (e := 3) (by simp) k1 k2 k3 k4
   simp only [World.size_alloc] at hO
   exact ⟨_,_,rfl,hO.drew,(((Below.refl _ _).alloc (Nat.le_refl _) _).alloc (by simp) _).drew⟩
def MTab (w:World) (base:Nat) (v:Value) (n k:Nat) (W:Nat->Nat->Nat):Prop :=
 ∃ R:Nat->Value,Own w base 22 1 v n (fun i _=>R i)/\∀ i,i<n->Own w base 3 1 (R i) k (fun j _=>.int .i64 (W i j:Nat))
section
variable {w w':World} {base n k:Nat} {v:Value} {W W':Nat->Nat->Nat}
theorem MTab.nil (w:World) (base k:Nat) (W:Nat->Nat->Nat):MTab w base (.slice none 0 0) 0 k W:=⟨fun _=>undef,Own.nil _ _ _ _ _,fun i hi=>absurd hi (by omega)⟩
theorem MTab.on (h:MTab w base v n k W) (hb:Below w.heap.size w w'):MTab w' base v n k W:=by
 obtain ⟨R,h1,h2⟩:=h
 exact ⟨R,h1.on hb,fun i hi=>(h2 i hi).on hb⟩
theorem MTab.mono {b':Nat} (h:MTab w base v n k W) (hb:b'<=base):MTab w b' v n k W:=by
 obtain ⟨R,h1,h2⟩:=h
 exact ⟨R,h1.mono hb,fun i hi=>(h2 i hi).mono hb⟩
theorem MTab.shape (h:MTab w base v n k W):∃ A c,v=.slice A n c:=h.choose_spec.1.shape
theorem MTab.congr (h:MTab w base v n k W) (e:∀ i,i<n->∀ j,j<k->W i j=W' i j):MTab w base v n k W':=by
 obtain ⟨R,h1,h2⟩:=h
 exact ⟨R,h1,fun i hi=>(h2 i hi).congr fun j hj _ _=>by rw [e i hi j hj]⟩
theorem MTab.row {A:Option Addr} {N c i:Nat} (h:MTab w base (.slice A N c) n k W) (hi:i<n):∃ b o RA rc,A=some ⟨b,o,none⟩/\base<=b/\b<w.heap.size/\w.cell? ⟨b,o+i,none⟩=some (.slice RA k rc)/\w.frozen? ⟨b,o+i,none⟩=false/\Own w base 3 1 (.slice RA k rc) k (fun j _=>.int .i64 (W i j:Nat)):=by
 obtain ⟨R,h1,h2⟩:=h
 obtain ⟨A1,c1,e1⟩:=h1.shape
 injection e1 with e1 e2 e3
 subst e1 e2 e3
 obtain ⟨g,o,cap,e,d,a,_,_,hc⟩:=h1.form (by omega)
 injection e with e e3 e4
 subst e e4
 have g1:=hc i hi 0 (by omega)
 rw [Nat.mul_one,Nat.add_zero] at g1
 have hr:=h2 i hi
 obtain ⟨RA,rc,hR⟩:=hr.shape
 rw [hR] at hr
 exact ⟨g,o,RA,rc,rfl,d,a,by rw [g1,<-hR],h1.frozen _,hr⟩
theorem zbV {ops:Array Oper} {rest:List Oper} {o:Oper} {a:Act} {Q:Exit->Act->World->Prop} (hgd:o.guard=none) (sl x:Operand)
  (ho:o.op=.call { callee:=.builtin .append,args:=#[sl,x],argTypes:=#[25, 25] })
  (h:MTab w base v n k W) (hv:a.eval sl=v) {ad:Addr} {c:Nat} {r:Value} {y:Nat->Nat} (hx:a.eval x=.slice (some ad) 1 c)
  (hcell:w.cell? (ad.add 0)=some r) (h1:r.oneCell'=true) (hrow:Own w base 3 1 r k (fun j _=>.int .i64 (y j:Nat))) (hbase:base<=w.heap.size) (hN:n<=1048576)
  (K:∀ v' w',MTab w' base v' (n+1) k (fun u=>if u=n then y else W u)->w.grownBy w' v.ownBlock->(∀ q,v.ownBlock=some q->base<=q)->wpList Tryz.prog ops Q rest (a.put o.dst v') w'):wpList Tryz.prog ops Q (o :: rest) a w:=by
 obtain ⟨R,hA,hB⟩:=h
 obtain ⟨i0,qi0,qz0,qz1,qz2⟩:=info_parts Tryz.infoInts
 have b:Own w base 22 1 v n (fun i _=>if i=n then r else R i):=hA.congr fun i hi _ _=>by rw [if_neg (by omega)]
 refine zal w hgd sl x _ ho base 22 i0 _ 1 24 Tryz.underlying25 qi0 qz0 qz1 qz2 rfl (by omega) v n _ hv b ad c hx (fun j hj=>by
   obtain rfl:j=0:=by omega
   rw [if_pos rfl]
   exact hcell) (fun _ _=>by rw [if_pos rfl]; exact h1) (by unfold maxLen; omega) (by omega) hbase ?_
 intro v' w3 hown3 hg3 _
 have ne:(22 : Nat) ≠ 3 := by decide
 refine K v' w3 ⟨fun i=>if i=n then r else R i,hown3,fun i hi=>?_⟩ hg3 (fun q e=>(hA.lt q e).1)
 show Own w3 base _ 1 (if i=n then r else R i) k _
 by_cases e:i=n
 ·rw [if_pos e]
  simp only [if_pos e]
  exact hrow.kept hg3 (zbm hA hrow ne)
 rw [if_neg e]
 simp only [if_neg e]
 exact (hB i (by omega)).kept hg3 (zbm hA (hB i (by omega)) ne)
end
theorem tbox2 {w:World} {v:Value} {t:TypeId}:(w.alloc (Obj.cells #[v] t)).cell? ((⟨w.heap.size,0,none⟩:Addr).add 0)=some v:=by
 show (w.alloc (Obj.cells #[v] t)).cell? ⟨w.heap.size,0,none⟩=some v
 simp
def MRows (w:World) (T:Option Addr) (n k:Nat) (W:Nat->Nat->Nat):Prop:=IntRows w T n (fun _=>k) (fun i j=>(W i j:Nat))
def MPost (n k:Nat) (W:Nat->Nat->Nat) (w:World) (e:Ending) (w':World):Prop:=∃ v,e=.returned v/\MTab w' w.heap.size v n k W/\Below w.heap.size w w'
theorem zgb (T:Option Addr) (n k c:Nat) (W:Nat->Nat->Nat) (w:World) (h:MRows w T n k W) (hk:0<k) (hk2:k<=1048576) (hn:n<=1048576) :
  Calls Tryz.prog 224 #[.slice T n c] w (MPost n k W w):=by
 have HR:=hid h
 have H0:=hid (MTab.nil w w.heap.size k W)
 obtain ⟨i0,qi0,qz0,qz1,qz2⟩:=info_parts Tryz.infoInt
 have n3:Hid (k<=maxLen):=by show _<=_; unfold maxLen; omega
 have n4:Hid (k*8<=140737488355328):=by show _<=_; omega
 clear h
 go_enter Tryz.func224, Tryz.ntmps224
 go_wp2
 obtain ⟨nv,y⟩:∃ x:Value,x=.slice none 0 0:=⟨_,rfl⟩
 rw [<-y] at H0 ⊢;clear y
 go_loopg [3,4] n (fun gg mv iv wx=>∃ i:Nat,iv=.int .i64 (i:Nat)/\i<=n/\n<=i+gg/\Hid (MTab wx w.heap.size mv i k W)/\Below w.heap.size w wx)
 case atStart=>exact ⟨0,rfl,by omega,by omega,H0,Below.refl _ _⟩
 clear H0
 obtain ⟨i,rfl,hi,K,HM,hB⟩:=hrel
 have L:(0:Int)<=(i:Int):=by omega
 by_cases hlt:i<n
 rotate_left
 ·have m:¬ (i:Int)<(n:Int):=by omega
  obtain rfl:i=n:=by omega
  go_wp2
  go_ret
  exact ⟨_,rfl,HM.out,hB⟩
 have m:(i:Int)<(n:Int):=by omega
 obtain ⟨b,o,RA,rc,hT,hb,x0,_,_,a,_⟩:=HR.out i hlt
 subst hT
 have q:=aly wr (Obj.cells #[] 3)
 have z:=onS hB q
 have x1:=(z.cell (p:=⟨b,o+i,none⟩) hb).trans x0
 have v:Rd (wr.alloc (Obj.cells #[] 3)) (wr.alloc (Obj.cells #[] 3)).heap.size RA k 1 (fun j _=>.int .i64 (W i j:Nat)):=a.on z
 have D:=hid v
 have x2:=(hB.cell (p:=⟨b,o+i,none⟩) hb).trans x0
 clear v a x0 q
 have HL:Hid (i<=1048576):=by show _<=_; omega
 have J:=hB.size
 go_upto_region 4 with (first | (at_builtin; (refine zai rfl (.tmp 12) (.tmp 16) _ rfl 3 i0 _ 1 8 Tryz.underlying22 qi0 qz0 qz1 qz2 rfl (by omega) _ rfl RA k rc (fun j _=>.int .i64 (W i j:Nat)) rfl D.out hk (fun _ _ _ _=>rfl) n3.out n4.out ?_); intro cap cur k1 k2 k3 k4; obtain ⟨w2,g⟩:∃ W',W'=(wr.alloc (Obj.cells #[] 3)).drew.alloc (Obj.cells cur 3):=⟨_,rfl⟩; rw [<-g]; have hO:=Own.new (w:=(wr.alloc (Obj.cells #[] 3)).drew) (base:=w.heap.size) (e := 3) (s:=1) (f:=fun j _=>.int .i64 (W i j:Nat)) (by simp; omega) k1 k2 k3 k4; have r:(wr.alloc (Obj.cells #[] 3)).drew.heap.size=wr.heap.size+1:=(by show (wr.alloc (Obj.cells #[] 3)).heap.size=_; simp); rw [<-g,r] at hO; have l:Below wr.heap.size wr w2:=(by rw [g]; exact (((Below.refl wr.heap.size wr).alloc (Nat.le_refl _) _).drew).alloc (by simp) _); have d:Below w2.heap.size w2 (w2.alloc (Obj.cells #[.slice (some ⟨wr.heap.size+1,0,none⟩) k cap] 22)):=(Below.refl _ _).alloc (Nat.le_refl _) _; have E:=hid (hO.on d); have G:=hid ((HM.out.on l).on d); have C:=hid (onS (onS hB l) d); have B:=hid C.out.size; have H:Hid ((w2.alloc (Obj.cells #[.slice (some ⟨wr.heap.size+1,0,none⟩) k cap] 22)).cell? ((⟨w2.heap.size,0,none⟩:Addr).add 0)=some (.slice (some ⟨wr.heap.size+1,0,none⟩) k cap)):=tbox2 ; clear hO l d g r) | (at_builtin; (refine zbV rfl (.tmp 11) (.tmp 18) rfl G.out rfl (ad:=⟨w2.heap.size,0,none⟩) (c:=1) rfl H.out rfl E.out B.out HL.out ?_); intro v9 w9 o1 o2 o3))
 have F:=hid (o1.congr (W':=W) fun u hu j _=>by
  by_cases e:u=i
  ·subst e; rw [if_pos rfl]
  ·rw [if_neg e])
 have I:=hid (C.out.grown o2 B.out o3)
 clear o1 o2 o3
 go_wp2
 go_roundg (gk - 1)
 case measure=>omega
 case rel=>exact ⟨i+1,by go_num,by omega,by omega,F,I.out⟩
theorem zbW {w:World} {b n base:Nat} {t:TypeId} {F:Nat->Value} (h:w.rowIs b t n F) (hb:base<=b) (hn:n<=maxLen):Own w base t 1 (.slice (some ⟨b,0,none⟩) n n) n (fun i _=>F i):=by
 obtain ⟨cs,h1,h2,h3⟩:=h
 refine .inr ⟨b,0,n,cs,rfl,hb,h1,Nat.le_refl _,hn,by omega,fun i hi j hj=>?_⟩
 obtain rfl:j=0:=by omega
 have h4:=h3 i hi
 rw [show 0+i*1+0=i by omega]
 rw [h4]
def MTabX (w:World) (base:Nat) (v:Value) (n k:Nat) (W:Nat->Nat->Nat) (z:Value):Prop :=
 ∃ R:Nat->Value,Own w base 22 1 v n (fun i _=>R i)/\∀ i,i<n->Own w base 3 1 (R i) k (fun j _=>.int .i64 (W i j:Nat))/\((R i).ownBlock=none∨(R i).ownBlock≠z.ownBlock)
section
variable {w w':World} {base n k:Nat} {v z:Value} {W W':Nat->Nat->Nat}
theorem MTab.x (h:MTab w base v n k W) (hz:z.ownBlock=none):MTabX w base v n k W z:=by
 obtain ⟨R,h1,h2⟩:=h
 refine ⟨R,h1,fun i hi=>⟨h2 i hi,?_⟩⟩
 rw [hz]
 cases e:(R i).ownBlock with
 | none=>exact .inl rfl
 | some q=>exact .inr (by simp)
theorem MTabX.tab (h:MTabX w base v n k W z):MTab w base v n k W:=by
 obtain ⟨R,h1,h2⟩:=h
 exact ⟨R,h1,fun i hi=>(h2 i hi).1⟩
theorem MTabX.on (h:MTabX w base v n k W z) (hb:Below w.heap.size w w'):MTabX w' base v n k W z:=by
 obtain ⟨R,h1,h2⟩:=h
 exact ⟨R,h1.on hb,fun i hi=>⟨(h2 i hi).1.on hb,(h2 i hi).2⟩⟩
theorem MTabX.mono {b':Nat} (h:MTabX w base v n k W z) (hb:b'<=base):MTabX w b' v n k W z:=by
 obtain ⟨R,h1,h2⟩:=h
 exact ⟨R,h1.mono hb,fun i hi=>⟨(h2 i hi).1.mono hb,(h2 i hi).2⟩⟩
theorem MTabX.congr (h:MTabX w base v n k W z) (e:∀ i,i<n->∀ j,j<k->W i j=W' i j):MTabX w base v n k W' z:=by
 obtain ⟨R,h1,h2⟩:=h
 exact ⟨R,h1,fun i hi=>⟨(h2 i hi).1.congr fun j hj _ _=>by rw [e i hi j hj],(h2 i hi).2⟩⟩
theorem MTabX.row {A:Option Addr} {N c i:Nat} (h:MTabX w base (.slice A N c) n k W z) (hi:i<n):∃ b o RA rc,A=some ⟨b,o,none⟩/\base<=b/\b<w.heap.size/\w.cell? ⟨b,o+i,none⟩=some (.slice RA k rc)/\w.frozen? ⟨b,o+i,none⟩=false /\
  Own w base 3 1 (.slice RA k rc) k (fun j _=>.int .i64 (W i j:Nat))/\((Value.slice RA k rc).ownBlock=none∨(Value.slice RA k rc).ownBlock≠z.ownBlock):=by
 obtain ⟨R,h1,h2⟩:=h
 obtain ⟨A1,c1,e1⟩:=h1.shape
 injection e1 with e1 e2 e3
 subst e1 e2 e3
 obtain ⟨g,o,cap,e,d,a,_,_,hc⟩:=h1.form (by omega)
 injection e with e e3 e4
 subst e e4
 have g1:=hc i hi 0 (by omega)
 rw [Nat.mul_one,Nat.add_zero] at g1
 have hr:=h2 i hi
 obtain ⟨RA,rc,hR⟩:=hr.1.shape
 rw [hR] at hr
 exact ⟨g,o,RA,rc,rfl,d,a,by rw [g1,<-hR],h1.frozen _,hr.1,hr.2⟩
theorem MTabX.keep {b o c i m:Nat} {r u:Value} {f:Nat->Nat->Value} (h:MTabX w base (.slice (some ⟨b,o,none⟩) n c) n k W z) (hu:Own w base 3 1 u m f):Own (w.setCell ⟨b,o+i,none⟩ r) base 3 1 u m f:=by
 obtain ⟨R,h1,_⟩:=h
 refine hu.setCell (fun e=>?_) r
 rcases zbm h1 hu (by decide) with h3 | h3
 ·rw [h3] at e; cases e
 ·exact h3 (by rw [e]; rfl)
theorem MTabX.set {b o c i:Nat} {r:Value} {x:Nat->Nat} (h:MTabX w base (.slice (some ⟨b,o,none⟩) n c) n k W z) (hi:i<n) (hr:Own w base 3 1 r k (fun j _=>.int .i64 (x j:Nat))) (hz:r.ownBlock=none∨r.ownBlock≠z.ownBlock) :
  MTabX (w.setCell ⟨b,o+i,none⟩ r) base (.slice (some ⟨b,o,none⟩) n c) n k (fun u=>if u=i then x else W u) z:=by
 have hk:=h
 obtain ⟨R,h1,h2⟩:=h
 have hs:=h1.set hi (by omega:0<1) r
 rw [Nat.mul_one,Nat.add_zero] at hs
 refine ⟨fun u=>if u=i then r else R u,hs.congr fun u _ q hq=>?_,fun u hu=>⟨?_,?_⟩⟩
 ·show (if u=i/\q=0 then r else R u)=if u=i then r else R u
  by_cases e:u=i
  ·rw [if_pos ⟨e,by omega⟩,if_pos e]
  ·rw [if_neg (fun h=>e h.1),if_neg e]
 ·show Own _ base _ 1 (if u=i then r else R u) k _
  by_cases e:u=i
  ·rw [if_pos e]
   simp only [if_pos e]
   exact hk.keep hr
  rw [if_neg e]
  simp only [if_neg e]
  exact hk.keep (h2 u hu).1
 show (if u=i then r else R u).ownBlock=none∨(if u=i then r else R u).ownBlock≠z.ownBlock
 split
 ·exact hz
 ·exact (h2 u hu).2
theorem MTabX.grown {z':Value} {m:Nat} {f:Nat->Nat->Value} (h:MTabX w base v n k W z) (hz:Own w base 3 1 z m f) (hg:w.grownBy w' z.ownBlock) (ha:z'.ownBlock=z.ownBlock∨z'.ownBlock=some w.heap.size):MTabX w' base v n k W z':=by
 obtain ⟨R,h1,h2⟩:=h
 have a:v.ownBlock=none∨v.ownBlock≠z.ownBlock:=zbm hz h1 (by decide)
 refine ⟨R,h1.kept hg a,fun i hi=>⟨(h2 i hi).1.kept hg (h2 i hi).2,?_⟩⟩
 rcases ha with ha | ha
 ·rw [ha]; exact (h2 i hi).2
 cases e:(R i).ownBlock with
 | none=>exact .inl rfl
 | some q =>
  refine .inr ?_
  rw [ha]
  intro e2
  injection e2 with e2
  have:=((h2 i hi).1.lt q e).2
  omega
theorem ze1 {w:World} {base m g n:Nat} {f:Nat->Nat->Value} (hz:Own w base 3 1 z m f) (hg:w.heap.size<=g):(Value.slice (some ⟨g,0,none⟩) n n).ownBlock=none∨(Value.slice (some ⟨g,0,none⟩) n n).ownBlock≠z.ownBlock:=by
 refine .inr fun e=>?_
 have:=(hz.lt g e.symm).2
 omega
end
theorem zaP {w:World} {ops:Array Oper} {rest:List Oper} {o:Oper} {a:Act} {Q:Exit->Act->World->Prop} (hgd:o.guard=none) (sl x:Operand)
  (ho:o.op=.call { callee:=.builtin .append,args:=#[sl,x],argTypes:=#[22, 22] })
  {base n:Nat} {v:Value} {p:Nat->Nat} (h:Own w base 3 1 v n (fun j _=>.int .i64 (p j:Nat))) (hv:a.eval sl=v) {ad:Addr} {c:Nat} {r:Nat} (hx:a.eval x=.slice (some ad) 1 c)
  (hcell:w.cell? (ad.add 0)=some (.int .i64 (r:Nat))) (hbase:base<=w.heap.size) (hN:n<=1048576)
  (K:∀ v' w',Own w' base 3 1 v' (n+1) (fun j _=>.int .i64 ((if j=n then r else p j:Nat):Nat))->w.grownBy w' v.ownBlock->(v'.ownBlock=v.ownBlock∨v'.ownBlock=some w.heap.size)->wpList Tryz.prog ops Q rest (a.put o.dst v') w'):wpList Tryz.prog ops Q (o :: rest) a w:=by
 obtain ⟨i0,qi0,qz0,qz1,qz2⟩:=info_parts Tryz.infoInt
 refine zal w hgd sl x _ ho base 3 i0 _ 1 8 Tryz.underlying22 qi0 qz0 qz1 qz2 rfl (by omega) v n _ hv (h.congr fun i hi j _=>by rw [if_neg (by omega)]) ad c hx (fun j hj=>by
   obtain rfl:j=0:=by omega
   rw [if_pos rfl]
   exact hcell) (fun _ _=>rfl) (by unfold maxLen; omega) (by omega) hbase K
structure Fie (K:Type) [Add K] [Mul K] [Neg K] [Zero K] [One K]:Prop where
 addA:∀ x y z:K,x+y+z=x+(y+z)
 addC:∀ x y:K,x+y=y+x
 zeroA:∀ x:K,0+x=x
 negA:∀ x:K,-x+x=0
 mulA:∀ x y z:K,x*y*z=x*(y*z)
 mulC:∀ x y:K,x*y=y*x
 oneM:∀ x:K,1*x=x
 dist:∀ x y z:K,x*(y+z)=x*y+x*z
 inv:∀ x:K,x≠0->∃ y,x*y=1
 ne:(1:K)≠0
namespace Fie
variable {K:Type} [Add K] [Mul K] [Neg K] [Zero K] [One K] (F:Fie K)
include F
theorem addZ (x:K):x+0=x:=by rw [F.addC,F.zeroA]
theorem addN (x:K):x + -x=0:=by rw [F.addC,F.negA]
theorem cancel {x y z:K} (h:x+y=x+z):y=z:=by
 have : -x+(x+y) = -x+(x+z):=by rw [h]
 rwa [<-F.addA,<-F.addA,F.negA,F.zeroA,F.zeroA] at this
theorem mulZ (x:K):x*0=0:=F.cancel (x:=x*0) (by rw [<-F.dist,F.zeroA,F.addZ])
theorem zMul (x:K):0*x=0:=by rw [F.mulC,F.mulZ]
theorem distR (x y z:K):(x+y)*z=x*z+y*z:=by rw [F.mulC,F.dist,F.mulC z,F.mulC z]
theorem mulOne (x:K):x*1=x:=by rw [F.mulC,F.oneM]
theorem negOf {x y:K} (h:x+y=0):y = -x:=F.cancel (x:=x) (by rw [h,F.addN])
theorem mulNeg (x y:K):x * -y = -(x*y):=F.negOf (by rw [<-F.dist,F.addN,F.mulZ])
theorem negMul (x y:K) : -x*y = -(x*y):=by rw [F.mulC,F.mulNeg,F.mulC]
theorem negNeg (x:K) : - -x=x:=(F.negOf (F.negA x)).symm
theorem subEq {x y:K} (h:x + -y=0):x=y:=by
 have:=F.negOf h
 rw [<-F.negNeg y,this,F.negNeg]
theorem addL (x y z:K):x+(y+z)=y+(x+z):=by rw [<-F.addA,F.addC x,F.addA]
theorem mulL (x y z:K):x*(y*z)=y*(x*z):=by rw [<-F.mulA,F.mulC x,F.mulA]
theorem zeroOr {x y:K} (h:x*y=0) (hx:x≠0):y=0:=by
 obtain ⟨z,hz⟩:=F.inv x hx
 have:z*(x*y)=y:=by rw [<-F.mulA,F.mulC z,hz,F.oneM]
 rw [<-this,h,F.mulZ]
end Fie
def addW {K:Type} [Add K] (x y:List K):List K:=List.zipWith (·+·) x y
def smulW {K:Type} [Mul K] (a:K) (x:List K):List K:=x.map (a*·)
theorem zds {K:Type} [Mul K] (c:K) (x:List K):(smulW c x).length=x.length:=by simp [smulW]
theorem zgc {K:Type} [Add K] {x y:List K} (h:x.length=y.length):(addW x y).length=x.length:=by simp [addW]; omega
section
variable {K:Type} [Add K] [Mul K] [Neg K] [Zero K] [One K]
variable (F:Fie K)
include F
theorem ziM (c:K):∀ x y:List K,x.length=y.length->addW (addW x (smulW c y)) (smulW (-c) y)=x:=by
 intro x
 induction x with
 | nil=>intro y _; cases y <;> rfl
 | cons a x ih =>
  intro y h
  cases y with
  | nil=>simp at h
  | cons b y =>
   show (a+c*b + -c*b) :: addW (addW x (smulW c y)) (smulW (-c) y)=a :: x
   rw [ih y (by simpa using h),F.addA,F.negMul,F.addN,F.addZ]
end
section
variable {K:Type} [Add K] [Mul K] [Neg K] [Zero K] [One K]
inductive Gen (k n:Nat) (r:Nat->List K):List K->Prop
 | zero:Gen k n r (List.replicate k 0)
 | row (i:Nat) (hi:i<n):Gen k n r (r i)
 | add {x y:List K}:Gen k n r x->Gen k n r y->Gen k n r (addW x y)
 | smul (a:K) {x:List K}:Gen k n r x->Gen k n r (smulW a x)
end
theorem Gen.sub {K:Type} [Add K] [Mul K] [Zero K] {k n n':Nat} {r r':Nat->List K} (h:∀ i,i<n->Gen k n' r' (r i)):∀ x,Gen k n r x->Gen k n' r' x:=by
 intro x hx
 induction hx with
 | zero=>exact .zero
 | row i hi=>exact h i hi
 | add _ _ h1 h2=>exact .add h1 h2
 | smul a _ h=>exact .smul a h
theorem Gen.congr {K:Type} [Add K] [Mul K] [Zero K] {k n:Nat} {r r':Nat->List K} (h:∀ i,i<n->r i=r' i) (x:List K):Gen k n r x↔Gen k n r' x :=
 ⟨Gen.sub (fun i hi=>by rw [h i hi]; exact .row i hi) x,Gen.sub (fun i hi=>by rw [<-h i hi]; exact .row i hi) x⟩
theorem Gen.swap {K:Type} [Add K] [Mul K] [Zero K] {k n i j:Nat} {r:Nat->List K} (hi:i<n) (hj:j<n) (x:List K):Gen k n (fun t=>if t=i then r j else if t=j then r i else r t) x↔Gen k n r x:=by
 constructor
 ·refine Gen.sub (fun t ht=>?_) x
  show Gen k n r (if t=i then r j else if t=j then r i else r t)
  split
  ·exact .row j hj
  split
  ·exact .row i hi
  ·exact .row t ht
 refine Gen.sub (fun t ht=>?_) x
 have a:∀ u,u<n->Gen k n (fun t=>if t=i then r j else if t=j then r i else r t) (if u=i then r j else if u=j then r i else r u):=fun u hu=>.row u hu
 by_cases e1:t=i
 ·subst e1
  have:=a j hj
  by_cases e2:j=t
  ·subst e2; simpa using this
  ·rwa [if_neg e2,if_pos rfl] at this
 by_cases e2:t=j
 ·subst e2
  have:=a i hi
  rwa [if_pos rfl] at this
 ·have:=a t ht
  rwa [if_neg e1,if_neg e2] at this
section
variable {K:Type} [Add K] [Mul K] [Neg K] [Zero K] [One K] (F:Fie K)
include F
theorem zhw (a b:K) (x:List K):smulW a (smulW b x)=smulW (a*b) x:=by
 unfold smulW
 rw [List.map_map]
 exact List.map_congr_left fun c _=>(F.mulA a b c).symm
theorem ziN (x:List K):smulW (1:K) x=x:=by
 induction x with
 | nil=>rfl
 | cons a x ih=>show 1*a :: smulW 1 x=a :: x; rw [F.oneM,ih]
theorem Gen.scale {k n i:Nat} {r:Nat->List K} {c:K} (hc:c≠0) (hi:i<n) (x:List K):Gen k n (fun t=>if t=i then smulW c (r i) else r t) x↔Gen k n r x:=by
 constructor
 ·refine Gen.sub (fun t ht=>?_) x
  show Gen k n r (if t=i then smulW c (r i) else r t)
  split
  ·exact .smul c (.row i hi)
  ·exact .row t ht
 refine Gen.sub (fun t ht=>?_) x
 have a:∀ u,u<n->Gen k n (fun t=>if t=i then smulW c (r i) else r t) (if u=i then smulW c (r i) else r u):=fun u hu=>.row u hu
 by_cases e:t=i
 ·subst e
  obtain ⟨d,hd⟩:=F.inv c hc
  have h1:=a t ht
  rw [if_pos rfl] at h1
  have h2:=Gen.smul d h1
  rwa [zhw F,F.mulC,hd,ziN F] at h2
 ·have:=a t ht
  rwa [if_neg e] at this
theorem Gen.addTo {k n i t:Nat} {r:Nat->List K} {a:K} (hi:i<n) (ht:t<n) (hit:t≠i) (hl:∀ u,u<n->(r u).length=k) (x:List K):Gen k n (fun u=>if u=i then addW (r i) (smulW a (r t)) else r u) x↔Gen k n r x:=by
 constructor
 ·refine Gen.sub (fun u hu=>?_) x
  show Gen k n r (if u=i then addW (r i) (smulW a (r t)) else r u)
  split
  ·exact .add (.row i hi) (.smul a (.row t ht))
  ·exact .row u hu
 refine Gen.sub (fun u hu=>?_) x
 have b:∀ u,u<n->Gen k n (fun u=>if u=i then addW (r i) (smulW a (r t)) else r u) (if u=i then addW (r i) (smulW a (r t)) else r u):=fun u hu=>.row u hu
 by_cases e:u=i
 ·subst e
  have h1:=b u hu
  rw [if_pos rfl] at h1
  have h2:=b t ht
  rw [if_neg hit] at h2
  have h3:=Gen.add h1 (.smul (-a) h2)
  rwa [ziM F a _ _ (by rw [hl u hu,hl t ht])] at h3
 ·have:=b u hu
  rwa [if_neg e] at this
end
structure EchN (q n k c a:Nat) (pv:Nat->Nat) (W:Nat->Nat->Nat):Prop where
 le:a<=n
 lt:∀ i,i<n->∀ j,j<k->W i j<q
 inc:∀ s t,s<t->t<a->pv s<pv t
 pvlt:∀ s,s<a->pv s<c
 one:∀ s,s<a->W s (pv s)=1
 zero:∀ s,s<a->∀ i,i<n->i≠s->W i (pv s)=0
 lead:∀ s,s<a->∀ j,j<pv s->W s j=0
 below:∀ i,a<=i->i<n->∀ j,j<c->W i j=0
section
variable {q n k c a:Nat} {pv:Nat->Nat} {W:Nat->Nat->Nat}
theorem EchN.start (h:∀ i,i<n->∀ j,j<k->W i j<q):EchN q n k 0 0 pv W :=
 ⟨Nat.zero_le _,h,fun _ _ _ h=>absurd h (by omega),fun _ h=>absurd h (by omega),fun _ h=>absurd h (by omega),fun _ h=>absurd h (by omega),fun _ h=>absurd h (by omega),fun _ _ _ _ h=>absurd h (by omega)⟩
theorem EchN.none (h:EchN q n k c a pv W) (hz:∀ i,a<=i->i<n->W i c=0):EchN q n k (c+1) a pv W :=
 ⟨h.le,h.lt,h.inc,fun s hs=>Nat.lt_succ_of_lt (h.pvlt s hs),h.one,h.zero,h.lead,fun i h1 h2 j hj=>by
  by_cases e:j=c
  ·subst e; exact hz i h1 h2
  ·exact h.below i h1 h2 j (by omega)⟩
theorem EchN.swap (h:EchN q n k c a pv W) {t:Nat} (h1:a<=t) (h2:t<n):EchN q n k c a pv (fun u=>if u=a then W t else if u=t then W a else W u):=by
 have ha:a<n:=by omega
 refine ⟨h.le,fun i hi j hj=>?_,h.inc,h.pvlt,fun s hs=>?_,fun s hs i hi hne=>?_,fun s hs j hj=>?_,fun i hi1 hi2 j hj=>?_⟩
 ·show (if i=a then W t else if i=t then W a else W i) j<q
  split
  ·exact h.lt t h2 j hj
  split
  ·exact h.lt a ha j hj
  ·exact h.lt i hi j hj
 ·show (if s=a then W t else if s=t then W a else W s) (pv s)=1
  rw [if_neg (by omega),if_neg (by omega)]
  exact h.one s hs
 ·show (if i=a then W t else if i=t then W a else W i) (pv s)=0
  split
  ·exact h.zero s hs t h2 (by omega)
  split
  ·exact h.zero s hs a ha (by omega)
  ·exact h.zero s hs i hi hne
 ·show (if s=a then W t else if s=t then W a else W s) j=0
  rw [if_neg (by omega),if_neg (by omega)]
  exact h.lead s hs j hj
 show (if i=a then W t else if i=t then W a else W i) j=0
 split
 ·exact h.below t h1 h2 j hj
 split
 ·exact h.below a (Nat.le_refl _) ha j hj
 ·exact h.below i hi1 hi2 j hj
variable {add mul:Nat->Nat->Nat}
theorem FieldLaws.addZero (h:FieldLaws q add mul) {x:Nat} (hx:x<q):add x 0=x:=by rw [h.addComm,h.zeroAdd x hx]
theorem FieldLaws.mulZero (h:FieldLaws q add mul) {x:Nat} (hx:x<q):mul x 0=0:=by
 have h2:=h.two
 have hz:=h.mulLt x 0
 have e:=h.distrib x 0 0 hx (by omega) (by omega)
 rw [h.zeroAdd 0 (by omega)] at e
 obtain ⟨y,hy,e1⟩:=h.neg _ hz
 have e2:=h.addAssoc _ _ _ hz hz hy
 rw [<-e,e1,h.addZero hz] at e2
 exact e2.symm
theorem FieldLaws.mulOne (h:FieldLaws q add mul) {x:Nat} (hx:x<q):mul x 1=x:=by
 have:=h.two
 rw [h.mulComm x 1 hx (by omega),h.oneMul x hx]
structure EchP (q n k c a i:Nat) (pv:Nat->Nat) (W:Nat->Nat->Nat):Prop where
 ech:EchN q n k c a pv W
 lt:a<n
 piv:W a c=1
 clr:∀ t,t<i->t<n->t≠a->W t c=0
theorem EchN.scale (h:EchN q n k c a pv W) (hF:FieldLaws q add mul) (ha:a<n) {d:Nat} (hd:d<q) (h1:mul d (W a c)=1):EchP q n k c a 0 pv (fun u=>if u=a then fun j=>mul d (W a j) else W u):=by
 refine ⟨⟨h.le,fun i hi j hj=>?_,h.inc,h.pvlt,fun s hs=>?_,fun s hs i hi hne=>?_,fun s hs j hj=>?_,fun i hi1 hi2 j hj=>?_⟩,ha,?_,fun t ht=>absurd ht (by omega)⟩
 ·show (if i=a then fun j=>mul d (W a j) else W i) j<q
  split
  ·exact hF.mulLt _ _
  ·exact h.lt i hi j hj
 ·show (if s=a then fun j=>mul d (W a j) else W s) (pv s)=1
  rw [if_neg (by omega)]
  exact h.one s hs
 ·show (if i=a then fun j=>mul d (W a j) else W i) (pv s)=0
  split
  ·show mul d (W a (pv s))=0
   rw [h.zero s hs a ha (by omega),hF.mulZero hd]
  ·exact h.zero s hs i hi hne
 ·show (if s=a then fun j=>mul d (W a j) else W s) j=0
  rw [if_neg (by omega)]
  exact h.lead s hs j hj
 ·show (if i=a then fun j=>mul d (W a j) else W i) j=0
  split
  ·show mul d (W a j)=0
   rw [h.below a (Nat.le_refl _) ha j hj,hF.mulZero hd]
  ·exact h.below i hi1 hi2 j hj
 show (if a=a then fun j=>mul d (W a j) else W a) c=1
 rw [if_pos rfl]
 exact h1
theorem EchN.one_piv (h:EchN q n k c a pv W) (ha:a<n) (h1:W a c=1):EchP q n k c a 0 pv W:=⟨h,ha,h1,fun t ht=>absurd ht (by omega)⟩
theorem EchP.skip {i:Nat} (h:EchP q n k c a i pv W) (hi:i=a∨W i c=0):EchP q n k c a (i+1) pv W :=
 ⟨h.ech,h.lt,h.piv,fun t ht htn hne=>by
  by_cases e:t=i
  ·subst e
   rcases hi with hi | hi
   ·exact absurd hi hne
   ·exact hi
  ·exact h.clr t (by omega) htn hne⟩
theorem EchP.clear {i:Nat} (h:EchP q n k c a i pv W) (hF:FieldLaws q add mul) (hck:c<k) (hi:i<n) (hia:i≠a) {e:Nat} (he:e<q) (h0:add (W i c) e=0):EchP q n k c a (i+1) pv (fun u=>if u=i then fun j=>add (W i j) (mul e (W a j)) else W u):=by
 have hE:=h.ech
 have ha:=h.lt
 have hq:=hF.two
 have b:∀ j,j<k->W a j=0->add (W i j) (mul e (W a j))=W i j:=fun j hj hz=>by
  rw [hz,hF.mulZero he,hF.addZero (hE.lt i hi j hj)]
 have d:∀ s,s<a->pv s<k:=fun s hs=>by have:=hE.pvlt s hs; omega
 refine ⟨⟨hE.le,fun t ht j hj=>?_,hE.inc,hE.pvlt,fun s hs=>?_,fun s hs t ht hne=>?_,fun s hs j hj=>?_,fun t ht1 ht2 j hj=>?_⟩,ha,?_,fun t ht htn hne=>?_⟩
 ·show (if t=i then fun j=>add (W i j) (mul e (W a j)) else W t) j<q
  split
  ·exact hF.addLt _ _
  ·exact hE.lt t ht j hj
 ·show (if s=i then fun j=>add (W i j) (mul e (W a j)) else W s) (pv s)=1
  split
  ·rename_i hsi
   subst hsi
   show add (W s (pv s)) (mul e (W a (pv s)))=1
   rw [b _ (d s hs) (hE.zero s hs a ha (by omega))]
   exact hE.one s hs
  ·exact hE.one s hs
 ·show (if t=i then fun j=>add (W i j) (mul e (W a j)) else W t) (pv s)=0
  split
  ·rename_i hti
   subst hti
   show add (W t (pv s)) (mul e (W a (pv s)))=0
   rw [b _ (d s hs) (hE.zero s hs a ha (by omega))]
   exact hE.zero s hs t ht hne
  ·exact hE.zero s hs t ht hne
 ·show (if s=i then fun j=>add (W i j) (mul e (W a j)) else W s) j=0
  have f:j<c:=by have:=hE.pvlt s hs; omega
  split
  ·rename_i hsi
   subst hsi
   show add (W s j) (mul e (W a j))=0
   rw [b j (by omega) (hE.below a (Nat.le_refl _) ha j f)]
   exact hE.lead s hs j hj
  ·exact hE.lead s hs j hj
 ·show (if t=i then fun j=>add (W i j) (mul e (W a j)) else W t) j=0
  split
  ·rename_i hti
   subst hti
   show add (W t j) (mul e (W a j))=0
   rw [b j (by omega) (hE.below a (Nat.le_refl _) ha j hj)]
   exact hE.below t ht1 ht2 j hj
  ·exact hE.below t ht1 ht2 j hj
 ·show (if a=i then fun j=>add (W i j) (mul e (W a j)) else W a) c=1
  rw [if_neg (fun e=>hia e.symm)]
  exact h.piv
 show (if t=i then fun j=>add (W i j) (mul e (W a j)) else W t) c=0
 split
 ·show add (W i c) (mul e (W a c))=0
  rw [h.piv,hF.mulOne he,h0]
 ·exact h.clr t (by omega) htn hne
theorem EchP.done (h:EchP q n k c a n pv W):EchN q n k (c+1) (a+1) (fun s=>if s=a then c else pv s) W:=by
 have hE:=h.ech
 have ha:=h.lt
 refine ⟨by omega,hE.lt,fun s t hst ht=>?_,fun s hs=>?_,fun s hs=>?_,fun s hs i hi hne=>?_,fun s hs j hj=>?_,fun i hi1 hi2 j hj=>?_⟩
 ·show (if s=a then c else pv s)<if t=a then c else pv t
  rw [if_neg (by omega)]
  split
  ·exact hE.pvlt s (by omega)
  ·exact hE.inc s t hst (by omega)
 ·show (if s=a then c else pv s)<c+1
  split
  ·omega
  ·have:=hE.pvlt s (by omega); omega
 ·show W s (if s=a then c else pv s)=1
  by_cases e:s=a
  ·subst e; rw [if_pos rfl]; exact h.piv
  ·rw [if_neg e]; exact hE.one s (by omega)
 ·show W i (if s=a then c else pv s)=0
  by_cases e:s=a
  ·subst e; rw [if_pos rfl]; exact h.clr i hi hi hne
  ·rw [if_neg e]; exact hE.zero s (by omega) i hi hne
 ·have hj:j<if s=a then c else pv s:=hj
  by_cases e:s=a
  ·subst e
   rw [if_pos rfl] at hj
   exact hE.below s (Nat.le_refl _) ha j hj
  ·rw [if_neg e] at hj
   exact hE.lead s (by omega) j hj
 by_cases e:j=c
 ·subst e; exact h.clr i hi2 hi2 (by omega)
 ·exact hE.below i (by omega) hi2 j (by omega)
end
inductive RowOps (q:Nat) (add mul:Nat->Nat->Nat) (n k:Nat) (V:Nat->Nat->Nat):(Nat->Nat->Nat)->Prop
 | refl:RowOps q add mul n k V V
 | swap {W:Nat->Nat->Nat} (h:RowOps q add mul n k V W) {a t:Nat} (ha:a<n) (ht:t<n):RowOps q add mul n k V (fun u=>if u=a then W t else if u=t then W a else W u)
 | scale {W:Nat->Nat->Nat} (h:RowOps q add mul n k V W) {a d:Nat} (ha:a<n) (hd:d<q) (hd0:d≠0):RowOps q add mul n k V (fun u=>if u=a then fun j=>mul d (W a j) else W u)
 | add {W:Nat->Nat->Nat} (h:RowOps q add mul n k V W) {i a e:Nat} (hi:i<n) (ha:a<n) (hne:i≠a) (he:e<q):RowOps q add mul n k V (fun u=>if u=i then fun j=>add (W i j) (mul e (W a j)) else W u)
 | eq {W W':Nat->Nat->Nat} (h:RowOps q add mul n k V W) (e:∀ i,i<n->∀ j,j<k->W i j=W' i j):RowOps q add mul n k V W'
theorem EchN.congr {q n k c a:Nat} {pv:Nat->Nat} {W W':Nat->Nat->Nat} (h:EchN q n k c a pv W) (hck:c<=k) (e:∀ i,i<n->∀ j,j<k->W i j=W' i j):EchN q n k c a pv W':=by
 have hp:∀ s,s<a->pv s<k:=fun s hs=>by have:=h.pvlt s hs; omega
 have b:=h.le
 refine ⟨h.le,fun i hi j hj=>by rw [<-e i hi j hj]; exact h.lt i hi j hj,h.inc,h.pvlt,fun s hs=>by rw [<-e s (by omega) _ (hp s hs)]; exact h.one s hs,fun s hs i hi hne=>by rw [<-e i hi _ (hp s hs)]; exact h.zero s hs i hi hne,fun s hs j hj=>by rw [<-e s (by omega) j (by have:=hp s hs; omega)]; exact h.lead s hs j hj,fun i h1 h2 j hj=>by rw [<-e i h2 j (by omega)]; exact h.below i h1 h2 j hj⟩
structure El (q:Nat) where
 val:Nat
 lt:val<q
theorem El.ext' {q:Nat} {x y:El q} (h:x.val=y.val):x=y:=by
 cases x; cases y
 simp only at h
 subst h
 rfl
theorem ziO {q:Nat} {add mul:Nat->Nat->Nat} (h:FieldLaws q add mul):∃ (_:Add (El q)) (_:Mul (El q)) (_:Neg (El q)) (_:Zero (El q)) (_:One (El q)),
  Fie (El q)/\(∀ x y:El q,(x+y).val=add x.val y.val)/\(∀ x y:El q,(x*y).val=mul x.val y.val)/\(0:El q).val=0/\(1:El q).val=1:=by
 have hn:∀ x:El q,∃ y:El q,add x.val y.val=0:=fun x=>by
  obtain ⟨y,hy,e⟩:=h.neg x.val x.lt
  exact ⟨⟨y,hy⟩,e⟩
 obtain ⟨ng,a⟩:=Classical.axiomOfChoice hn
 have h2:=h.two
 let iA:Add (El q):=⟨fun x y=>⟨add x.val y.val,h.addLt _ _⟩⟩
 let iM:Mul (El q):=⟨fun x y=>⟨mul x.val y.val,h.mulLt _ _⟩⟩
 let iN:Neg (El q):=⟨ng⟩
 let i0:Zero (El q):=⟨⟨0,by omega⟩⟩
 let i1:One (El q):=⟨⟨1,by omega⟩⟩
 refine ⟨iA,iM,iN,i0,i1,?_,fun _ _=>rfl,fun _ _=>rfl,rfl,rfl⟩
 refine ⟨fun x y z=>El.ext' ?_,fun x y=>El.ext' ?_,fun x=>El.ext' ?_,fun x=>El.ext' ?_,fun x y z=>El.ext' ?_,fun x y=>El.ext' ?_,fun x=>El.ext' ?_,fun x y z=>El.ext' ?_,fun x hx=>?_,fun he=>?_⟩
 ·exact h.addAssoc _ _ _ x.lt y.lt z.lt
 ·exact h.addComm _ _
 ·exact h.zeroAdd _ x.lt
 ·show add (ng x).val x.val=0
  rw [h.addComm]; exact a x
 ·exact h.mulAssoc _ _ _ x.lt y.lt z.lt
 ·exact h.mulComm _ _ x.lt y.lt
 ·exact h.oneMul _ x.lt
 ·exact h.distrib _ _ _ x.lt y.lt z.lt
 ·obtain ⟨y,hy,e⟩:=h.inv x.val x.lt (fun e=>hx (El.ext' e))
  exact ⟨⟨y,hy⟩,El.ext' e⟩
 have:=congrArg El.val he
 have h1:(1:Nat)=0:=this
 omega
def toEl (q:Nat) (hq:0<q) (x:Nat):El q:=⟨x % q,Nat.mod_lt _ hq⟩
theorem zav {q x:Nat} (hq:0<q) (h:x<q):(toEl q hq x).val=x:=Nat.mod_eq_of_lt h
theorem zeo {q x y:Nat} (hq:0<q) (hx:x<q) (hy:y<q) (h:toEl q hq x=toEl q hq y):x=y:=by
 rw [<-zav hq hx,<-zav hq hy,h]
theorem ziP {q:Nat} (hq:0<q) (x:El q):∃ a,a<q/\toEl q hq a=x:=⟨x.val,x.lt,El.ext' (zav hq x.lt)⟩
def wordK (q:Nat) (hq:0<q) (k:Nat) (x:Nat->Nat):List (El q):=(List.range k).map fun j=>toEl q hq (x j)
theorem zdt {q:Nat} (hq:0<q) (k:Nat) (x:Nat->Nat):(wordK q hq k x).length=k:=by simp [wordK]
theorem zfq {q:Nat} (hq:0<q) {k:Nat} {x y:Nat->Nat} (h:∀ j,j<k->x j=y j):wordK q hq k x=wordK q hq k y :=
 List.map_congr_left fun j hj=>by rw [h j (List.mem_range.1 hj)]
theorem zhx {q:Nat} (hq:0<q) {add mul:Nat->Nat->Nat} [iA:Add (El q)] (hF:FieldLaws q add mul) (ha:∀ x y:El q,(x+y).val=add x.val y.val) {k:Nat} {x y:Nat->Nat} (hx:∀ j,j<k->x j<q) (hy:∀ j,j<k->y j<q) :
  wordK q hq k (fun j=>add (x j) (y j))=addW (wordK q hq k x) (wordK q hq k y):=by
 unfold wordK addW
 rw [List.zipWith_map,List.zipWith_self]
 refine List.map_congr_left fun j hj=>El.ext' ?_
 rw [List.mem_range] at hj;rw [ha,zav hq (hF.addLt _ _),zav hq (hx j hj),zav hq (hy j hj)]
theorem zdR {q:Nat} (hq:0<q) {add mul:Nat->Nat->Nat} [iM:Mul (El q)] (hF:FieldLaws q add mul) (hm:∀ x y:El q,(x*y).val=mul x.val y.val) {k d:Nat} {x:Nat->Nat} (hd:d<q) (hx:∀ j,j<k->x j<q) :
  wordK q hq k (fun j=>mul d (x j))=smulW (toEl q hq d) (wordK q hq k x):=by
 unfold wordK smulW
 rw [List.map_map]
 refine List.map_congr_left fun j hj=>El.ext' ?_
 rw [List.mem_range] at hj
 show (toEl q hq (mul d (x j))).val=(toEl q hq d*toEl q hq (x j)).val
 rw [hm,zav hq (hF.mulLt _ _),zav hq hd,zav hq (hx j hj)]
theorem RowOps.gen {q:Nat} (hq:0<q) {add mul:Nat->Nat->Nat} [iA:Add (El q)] [iM:Mul (El q)] [iN:Neg (El q)] [i0:Zero (El q)] [i1:One (El q)] (F:Fie (El q)) (hF:FieldLaws q add mul) (ha:∀ x y:El q,(x+y).val=add x.val y.val) (hm:∀ x y:El q,(x*y).val=mul x.val y.val) (h0:(0:El q).val=0) {n k:Nat} {V W:Nat->Nat->Nat}
  (hV:∀ i,i<n->∀ j,j<k->V i j<q) (h:RowOps q add mul n k V W):(∀ i,i<n->∀ j,j<k->W i j<q)/\∀ x,Gen k n (fun i=>wordK q hq k (W i)) x↔Gen k n (fun i=>wordK q hq k (V i)) x:=by
 induction h with
 | refl=>exact ⟨hV,fun _=>Iff.rfl⟩
 | @swap W h a t hx ht ih =>
  refine ⟨fun i hi j hj=>?_,fun x=>?_⟩
  ·show (if i=a then W t else if i=t then W a else W i) j<q
   split
   ·exact ih.1 t ht j hj
   ·split
    ·exact ih.1 a hx j hj
    ·exact ih.1 i hi j hj
  ·refine (Gen.congr (fun i _=>?_) x).trans ((Gen.swap hx ht x).trans (ih.2 x))
   show wordK q hq k (if i=a then W t else if i=t then W a else W i)=if i=a then wordK q hq k (W t) else if i=t then wordK q hq k (W a) else wordK q hq k (W i)
   split
   ·rfl
   ·split <;> rfl
 | @scale W h a d hx hd hd0 ih =>
  refine ⟨fun i hi j hj=>?_,fun x=>?_⟩
  ·show (if i=a then fun j=>mul d (W a j) else W i) j<q
   split
   ·exact hF.mulLt _ _
   ·exact ih.1 i hi j hj
  ·have b:toEl q hq d≠0:=fun e=>hd0 (by
    have:=congrArg El.val e
    rwa [zav hq hd,h0] at this)
   refine (Gen.congr (fun i _=>?_) x).trans ((Gen.scale F b hx x).trans (ih.2 x))
   show wordK q hq k (if i=a then fun j=>mul d (W a j) else W i)=if i=a then smulW (toEl q hq d) (wordK q hq k (W a)) else wordK q hq k (W i)
   split
   ·exact zdR hq hF hm hd (ih.1 a hx)
   ·rfl
 | @add W h i a e hi hx b he ih =>
  refine ⟨fun u hu j hj=>?_,fun x=>?_⟩
  ·show (if u=i then fun j=>add (W i j) (mul e (W a j)) else W u) j<q
   split
   ·exact hF.addLt _ _
   ·exact ih.1 u hu j hj
  ·refine (Gen.congr (fun u _=>?_) x).trans ((Gen.addTo F (a:=toEl q hq e) hi hx (fun e=>b e.symm) (fun u _=>zdt hq k (W u)) x).trans (ih.2 x))
   show wordK q hq k (if u=i then fun j=>add (W i j) (mul e (W a j)) else W u)=if u=i then addW (wordK q hq k (W i)) (smulW (toEl q hq e) (wordK q hq k (W a))) else wordK q hq k (W u)
   split
   ·rw [zhx hq hF ha (ih.1 i hi) (fun j _=>hF.mulLt _ _),zdR hq hF hm he (ih.1 a hx)]
   ·rfl
 | @eq W W' h e ih =>
  refine ⟨fun i hi j hj=>by rw [<-e i hi j hj]; exact ih.1 i hi j hj,fun x=>?_⟩
  rw [<-ih.2]
  exact Gen.congr (fun i hi=>zfq hq fun j hj=>(e i hi j hj).symm) x
end Go.Proofs.YtgekjfpapmlndaaGreat