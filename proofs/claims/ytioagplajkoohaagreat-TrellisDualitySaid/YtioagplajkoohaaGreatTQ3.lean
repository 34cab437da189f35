/- Merged texts of a claim: FldQ, TabRow, TabAll. -/
import Derived.Test.YtioagplajkoohaaGreatTQ1
import Derived.Test.YtioagplajkoohaaGreatTQ2
namespace Go.Proofs.YtioagplajkoohaaGreat
set_option maxRecDepth 100000
set_option maxHeartbeats 32000000
open KB KE
open Go.RowKit
def IffPost (p:Prop) (w:World) (e:Ending) (w':World):Prop:=∃ v:Bool,e=.returned (.bool v)/\(v=true↔p)/\Below w.heap.size w w'
theorem za0 {p:Prop} {w w':World} (h:p) (hB:Below w.heap.size w w'):IffPost p w (.returned (.bool true)) w':=⟨true,rfl,⟨fun _=>h,fun _=>rfl⟩,hB⟩
theorem zax {p:Prop} {w w':World} (h:¬ p) (hB:Below w.heap.size w w'):IffPost p w (.returned (.bool false)) w':=⟨false,rfl,⟨(fun h=>by cases h),fun h'=>absurd h' h⟩,hB⟩
def OwnI (w:World) (base g o n c:Nat) (r:Nat->Nat):Prop:=Own w base 3 1 (.slice (some ⟨g,o,none⟩) n c) n (fun t _=>.int .i64 (r t:Nat))
theorem OwnI.cell {w:World} {base g o n c i:Nat} {r:Nat->Nat} (h:OwnI w base g o n c r) (hi:i<n):w.cell? ⟨g,o+i,none⟩=some (.int .i64 (r i:Nat)):=by
 obtain ⟨g',o',cap',hv,_,_,_,_,hc⟩:=Own.form h (by omega)
 injection hv with hv
 injection hv with hv
 injection hv with h1 h2
 subst h1 h2
 simpa using hc i hi 0 (by omega)
theorem OwnI.set {w:World} {base g o n c i:Nat} {r:Nat->Nat} (h:OwnI w base g o n c r) (hi:i<n) (z:Nat):OwnI (w.setCell ⟨g,o+i,none⟩ (.int .i64 (z:Int))) base g o n c (fun t=>if t=i then z else r t):=by
 have:=Own.set h hi (show 0<1 by omega) (.int .i64 (z:Int))
 rw [Nat.mul_one,Nat.add_zero] at this
 refine Own.congr this fun t ht j hj=>?_
 show _=Value.int .i64 ((if t=i then z else r t:Nat):Int)
 by_cases e:t=i
 ·rw [if_pos ⟨e,by omega⟩,if_pos e]
 ·rw [if_neg (fun c=>e c.1),if_neg e]
theorem OwnI.congr {w:World} {base g o n c:Nat} {r r':Nat->Nat} (h:OwnI w base g o n c r) (e:∀ i,i<n->r i=r' i):OwnI w base g o n c r':=Own.congr h fun i hi _ _=>by rw [e i hi]
theorem OwnI.drew {w:World} {base g o n c:Nat} {r:Nat->Nat} (h:OwnI w base g o n c r):OwnI w.drew base g o n c r:=h
theorem OwnI.fr {w:World} {base g o n c:Nat} {r:Nat->Nat} (h:OwnI w base g o n c r) (k:Nat):w.frozen? ⟨g,k,none⟩=false:=Own.frozen h k
theorem zfB (P M d:Nat) (A L:Option Addr) (c cl:Nat) (m low:Nat->Nat) (w:World) (hP2:2<=P) (hP:P<=256) (hd1:1<=d) (hdM:d<=M) (hM8:M<=8)
  (hm:IntsR w w.heap.size A M (fun i=>(m i:Nat))) (hml:Hid (∀ i,i<M->m i<P)) (hl:IntsR w w.heap.size L d (fun i=>(low i:Nat))) (hll:Hid (∀ i,i<d->low i<P)) :
  Calls Tryz.prog 207 #[.slice L d cl,.slice A M c,.int .i64 (P:Nat)] w (IffPost (DivB P M m d low) w):=by
 obtain ⟨i0,qi0,qz0,qz1,qz2⟩:=info_parts Tryz.infoInt
 have n3:Hid (M<=maxLen):=by show _<=_; unfold maxLen; omega
 have n4:Hid (M*8<=140737488355328):=by show _<=_; omega
 have n5:Hid (M+1<=maxLen):=by show _<=_; unfold maxLen; omega
 have n6:Hid ((M+1)*8<=140737488355328):=by show _<=_; omega
 have hM0:0<M:=by omega
 have hmr:IntsR w w.heap.size A M (fun i=>(modR M m i:Nat)):=hm.congr fun i hi=>by unfold modR; rw [if_pos hi]
 have hrl:Hid (∀ t,modR M m t<P):=fun t=>by
  show modR M m t<P
  unfold modR
  split
  ·exact hml.out t (by assumption)
  ·omega
 go_enter Tryz.func207, Tryz.ntmps207
 have hR1:Hid (∀ o1,Rd (w.alloc o1) (w.alloc o1).heap.size A M 1 (fun i _=>.int .i64 (modR M m i:Nat))):=fun o1=>(Rd.alloc hmr (Nat.le_refl _) o1).mono (by simp)
 go_upto_region 3 with (first | (at_builtin; (refine zal rfl (.tmp 15) (.tmp 16) _ rfl 3 i0 _ 1 8 Tryz.underlying22 qi0 qz0 qz1 qz2 rfl (by omega) _ rfl A M c (fun i _=>.int .i64 (modR M m i:Nat)) rfl (hR1.out _) hM0 (fun _ _ _ _=>rfl) n3.out n4.out ?_); intro cap cur k1 k2 k3 k4))
 have hO1:=Own.new (w:=w.alloc (Obj.cells #[] 3)) (base:=w.heap.size) (e := 3) (by simp) k1 k2 k3 k4
 have hB1:=((Below.refl w.heap.size w).alloc (Nat.le_refl _) (Obj.cells #[] 3)).alloc (by simp) (Obj.cells cur 3)
 obtain ⟨w1,hw1⟩:∃ W,W=((w.alloc (Obj.cells #[] 3)).alloc (Obj.cells cur 3)).drew:=⟨_,rfl⟩
 obtain ⟨g1,hg1⟩:∃ g,g=w.heap.size+1:=⟨_,rfl⟩
 have hB1':Below w.heap.size w w1:=by rw [hw1]; exact hB1.drew
 have hO1':Own w1 w.heap.size 3 1 (.slice (some ⟨g1,0,none⟩) M cap) M (fun i _=>.int .i64 (modR M m i:Nat)):=by rw [hw1,hg1]; simpa using hO1.drew
 try simp only [World.alloc_drew]
 rw [<-hw1,<-hg1];clear hO1 hB1 hw1 hg1 k1 k2 k3 k4
 have hlt:=hB1'.size
 have N1:Hid (∀ j,j<1->(w1.alloc (Obj.cells #[Value.int IntKind.i64 1] 3)).cell? ((⟨w1.heap.size,0,none⟩:Addr).add j)=some (.int .i64 (modR M m M:Nat))):=fun j hj=>by
  obtain rfl:j=0:=by omega
  unfold modR
  rw [if_neg (by omega)]
  exact World.cell?_alloc_at _ _ _ _ rfl
 go_upto_region 4 with (first | (at_builtin; (refine zaK _ rfl (.tmp 18) (.tmp 19) _ rfl w.heap.size 3 i0 _ 1 8 Tryz.underlying22 qi0 qz0 qz1 qz2 rfl (by omega) _ M (fun i _=>.int .i64 (modR M m i:Nat)) rfl (hO1'.alloc _) ⟨w1.heap.size,0,none⟩ 1 rfl N1.out (fun _ _=>rfl) n5.out n6.out (by simp; omega) ?_); intro v' w3 hown3 hg3 hat3))
 have hB3:Below w.heap.size w w3:=(hB1'.alloc (by omega) _).grown hg3 (by simp; omega) (fun q e=>(hO1'.lt q e).1)
 obtain ⟨g,o,cp,rfl,hgb,_⟩:=hown3.form (by omega)
 have hO:OwnI w3 w.heap.size g o (M+1) cp (dOut P d low M (modR M m) 0):=hown3
 clear hown3 hg3 hat3 hO1' hB1' N1 hR1 hmr hlt n3 n4 n5 n6 qi0 qz0 qz1 qz2
 have hMi:(1:Int)<=(M:Int):=by omega
 have hMi8:(M:Int)<=8:=by omega
 have hdi:(1:Int)<=(d:Int):=by omega
 have hdi8:(d:Int)<=(M:Int):=by omega
 go_wp2
 go_loopg [9,10,11] (M+1 - d) (fun gg iv _ _ wx=>∃ s:Nat,iv=.int .i64 ((M:Int) - (s:Int))/\s<=M+1 - d/\M+1 - d<=s+gg/\OwnI wx w.heap.size g o (M+1) cp (dOut P d low M (modR M m) s)/\Below w.heap.size w wx)
 case atStart=>exact ⟨0,by go_num,by omega,by omega,hO,hB3⟩
 case round =>
  clear hO hB3
  obtain ⟨s,rfl,hs,hsg,hO,hB⟩:=hrel
  by_cases hlt:s<M+1 - d
  ·obtain ⟨I,hI⟩:∃ I,I=M - s:=⟨_,rfl⟩
   have hiv:(M:Int) - (s:Int)=(I:Int):=by omega
   rw [hiv]
   have hId:d<=I:=by omega
   have hIdi:(d:Int)<=(I:Int):=by omega
   have hIM:I<=M:=by omega
   have hI8:(I:Int)<=8:=by omega
   have hI0:(0:Int)<=(I:Int):=by omega
   have hI1:(I:Int)<(M:Int)+1:=by omega
   have HI:=hid hI
   have HIV:=hid hiv
   clear hI hiv
   obtain ⟨R0,hR0⟩:∃ R,R=dOut P d low M (modR M m) s:=⟨_,rfl⟩
   have hRl:∀ t,R0 t<P:=by rw [hR0]; exact zfa (by omega) hrl.out s
   rw [<-hR0] at hO
   have HR0:=hid hR0
   have HRL:=hid hRl
   clear hR0 hRl
   obtain ⟨C,hC⟩:∃ C,C=R0 I:=⟨_,rfl⟩
   have hCP:C<P:=by rw [hC]; exact HRL.out I
   have cI:wr.cell? ⟨g,o+I,none⟩=some (.int .i64 (C:Nat)):=by rw [hC]; exact hO.cell (by omega)
   have HC:=hid hC
   clear hC
   go_wp2
   clear cI
   obtain ⟨gI,rfl⟩:∃ gK:Nat,gK=gk:=⟨_,rfl⟩
   go_loopg [11] d (fun gg jv wx=>∃ j:Nat,jv=.int .i64 (j:Nat)/\j<=d/\d<=j+gg/\OwnI wx w.heap.size g o (M+1) cp (dIn P d low I C R0 j)/\Below w.heap.size w wx)
   case atStart=>exact ⟨0,rfl,by omega,by omega,hO,hB⟩
   case round =>
    clear hO hB
    obtain ⟨j,rfl,hj,hjg,hO,hB⟩:=hrel
    have hj0:(0:Int)<=(j:Int):=by omega
    by_cases hlj:j<d
    ·have hlj':(j:Int)<(d:Int):=by omega
     obtain ⟨Z,hZ⟩:∃ Q,Q=I - d:=⟨_,rfl⟩
     obtain ⟨Q,hQ⟩:∃ Q,Q=I - d+j:=⟨_,rfl⟩
     have hQN:Q<M+1:=by omega
     have hIz:(I:Int) - (d:Int)=(Z:Int):=by omega
     have hZ16:Z<=16:=by omega
     have hcl:=zjg (P:=P) (d:=d) (low:=low) (i:=I) (c:=C) (by omega) HRL.out j Q
     have hdm:=hll.out j hlj
     obtain ⟨mb,mo,rfl,hmb,hmc⟩:=hl.at hlj
     have cm:=cellS hB hmc
     have cc:=hO.cell hQN
     have zc:=hO.fr (o+Q)
     have hnx:∀ t,dIn P d low I C R0 (j+1) t=if t=Q then (dIn P d low I C R0 j Q+(P - C)*low j) % P else dIn P d low I C R0 j t:=fun t=>by rw [hQ]; rfl
     obtain ⟨R,hR⟩:∃ R,R=(dIn P d low I C R0 j Q+(P - C)*low j) % P:=⟨_,rfl⟩
     have hRP:R<P:=by rw [hR]; exact Nat.mod_lt _ (by omega)
     have hO2:OwnI (wr.setCell ⟨g,o+Q,none⟩ (.int .i64 (R:Int))) w.heap.size g o (M+1) cp (dIn P d low I C R0 (j+1)):=(hO.set hQN R).congr fun t ht=>by
      rw [hnx t,<-hR]
     have hB2:Below w.heap.size w (wr.setCell ⟨g,o+Q,none⟩ (.int .i64 (R:Int))):=hB.setCell hgb _
     have HO:=hid hO2
     have HB:=hid hB2
     clear hO2 hB2
     obtain ⟨D,hD⟩:∃ D,D=dIn P d low I C R0 j Q:=⟨_,rfl⟩
     obtain ⟨G,hG⟩:∃ D,D=low j:=⟨_,rfl⟩
     rw [<-hD] at cc hcl hR;rw [<-hG] at cm hdm hR
     obtain ⟨E,hE⟩:∃ D,D=P - C:=⟨_,rfl⟩
     rw [<-hE] at hR
     have hPD:(P:Int) - (C:Int)=(E:Int):=by omega
     have hEG:E*G<=256*256:=Nat.mul_le_mul (by omega) (by omega)
     obtain ⟨Hh,hH⟩:∃ H,H=E*G:=⟨_,rfl⟩
     rw [<-hH] at hR hEG
     have hij:(Z:Int)+(j:Int)=(Q:Int):=by omega
     have hmul:(E:Int)*(G:Int)=(Hh:Int):=by rw [hH]; simp
     have hE256:E<=256:=by omega
     clear hD hE hG hH hnx hO hB hQ hZ hmc
     have hQ0:(0:Int)<=(Q:Int):=by omega
     have hQ1:(Q:Int)<(M:Int)+1:=by omega
     have hP0:¬ (P:Int)=0:=by omega
     have hPp:(2:Int)<=(P:Int):=by omega
     have hR0':(0:Int)<=(R:Int):=by omega
     have hR1:(R:Int)<=256:=by omega
     have hD0:(0:Int)<=(D:Int):=by omega
     have hH0:(0:Int)<=(Hh:Int):=by omega
     have hsum0:(0:Int)<=(D:Int)+(Hh:Int):=by omega
     have hPn:¬ P=0:=by omega
     have w1:IntKind.i64.wrap (Q:Int)=(Q:Int):=IntWalk.i64_in _ (by omega)
     have w2:IntKind.i64.wrap (Hh:Int)=(Hh:Int):=IntWalk.i64_in _ (by omega)
     have w3:IntKind.i64.wrap ((D:Int)+(Hh:Int))=(D:Int)+(Hh:Int):=IntWalk.i64_in _ (by omega)
     have w4:IntKind.i64.wrap (R:Int)=(R:Int):=IntWalk.i64_in _ (by omega)
     have w5:IntKind.i64.wrap (Z:Int)=(Z:Int):=IntWalk.i64_in _ (by omega)
     have w6:IntKind.i64.wrap (E:Int)=(E:Int):=IntWalk.i64_in _ (by omega)
     have htm:((D:Int)+(Hh:Int)).tmod (P:Int)=(R:Int):=by rw [Int.tmod_eq_emod_of_nonneg hsum0,hR]; simp
     have hem:((D:Int)+(Hh:Int)) % (P:Int)=(R:Int):=by rw [hR]; simp
     clear hR
     go_wp2
     go_still_tail 25,(by kernel_rfl)
     change wpList _ _ _ _ _ wr.drew
     go_wp2
     clear w1 w2 w3 w4 w5 w6 htm hem hij hmul
     go_roundg (gk - 1)
     case measure=>omega
     case rel=>exact ⟨j+1,by go_num,by omega,by omega,HO.out.drew,HB.out.drew⟩
    ·obtain rfl:d=j:=by omega
     have hlj':¬ (d:Int)<(d:Int):=by omega
     have zc:=hO.fr (o+I)
     have ci:=hO.cell (i:=I) (by omega)
     have HO2:Hid (OwnI (wr.setCell ⟨g,o+I,none⟩ (.int .i64 0)) w.heap.size g o (M+1) cp (dOut P d low M (modR M m) (s+1))):=(hO.set (show I<M+1 by omega) 0).congr fun t ht=>by
      show _=(if t=M - s then 0 else dIn P d low (M - s) (dOut P d low M (modR M m) s (M - s)) (dOut P d low M (modR M m) s) d t)
      rw [<-HI.out,<-HR0.out,<-HC.out]
     have HB2:Hid (Below w.heap.size w (wr.setCell ⟨g,o+I,none⟩ (.int .i64 0))):=hB.setCell hgb _
     clear hO hB
     go_wp2
     go_roundg (gI - 1)
     case measure=>omega
     case rel=>exact ⟨s+1,by have:=HIV.out; go_num,by omega,by omega,HO2.out,HB2.out⟩
  ·obtain ⟨S,hS⟩:∃ S,S=M+1 - d:=⟨_,rfl⟩
   obtain rfl:s=S:=by omega
   have hge:¬ (d:Int)<=(M:Int) - (s:Int):=by omega
   have hdv:Hid (DivB P M m d low↔∀ t,t<M+1->dOut P d low M (modR M m) s t=0):=by rw [hS]; exact Iff.rfl
   have hRl:∀ t,dOut P d low M (modR M m) s t<P:=zfa (by omega) hrl.out s
   obtain ⟨R0,hR0⟩:∃ R,R=dOut P d low M (modR M m) s:=⟨_,rfl⟩
   rw [<-hR0] at hO hdv hRl
   have HRL:=hid hRl
   clear hR0 hRl hS hs hsg hlt
   go_wp2
   go_loopg [12] (M+1) (fun gg iv wx=>∃ i:Nat,iv=.int .i64 (i:Nat)/\i<=M+1/\M+1<=i+gg/\(∀ t,t<i->R0 t=0)/\OwnI wx w.heap.size g o (M+1) cp R0/\Below w.heap.size w wx)
   case atStart=>exact ⟨0,rfl,by omega,by omega,fun t ht=>by omega,hO,hB⟩
   case round =>
    clear hO hB
    obtain ⟨i,rfl,hi,hig,hz,hO,hB⟩:=hrel
    have HZ:=hid hz
    clear hz
    have hi0:(0:Int)<=(i:Int):=by omega
    by_cases hlt:i<M+1
    ·have hlt':(i:Int)<(M:Int)+1:=by omega
     have cc:=hO.cell hlt
     have hRP:=HRL.out i
     obtain ⟨x,hx⟩:∃ x,x=R0 i:=⟨_,rfl⟩
     rw [<-hx] at cc hRP
     have HX:=hid hx
     clear hx
     by_cases h0:x=0
     ·subst h0
      have hnx:Hid (∀ t,t<i+1->R0 t=0):=fun t ht=>by
       by_cases e:t=i
       ·rw [e]; exact HX.out.symm
       ·exact HZ.out t (by omega)
      go_wp2
      go_roundg (gk - 1)
      case measure=>omega
      case rel=>exact ⟨i+1,by go_num,by omega,by omega,hnx.out,hO,hB⟩
     ·have hb:((x:Int) != 0)=true:=by simp; omega
      have hno:Hid (¬ DivB P M m d low):=fun h=>h0 (HX.out.trans (hdv.out.1 h i hlt))
      have hO':=hid hO
      clear hO
      go_wp2
      go_ret
      exact zax hno.out hB
    ·obtain ⟨L1,hL1⟩:∃ S,S=M+1:=⟨_,rfl⟩
     have hlt':¬ (i:Int)<(M:Int)+1:=by omega
     have hyes:Hid (DivB P M m d low):=hdv.out.2 fun t ht=>HZ.out t (by omega)
     clear hO
     go_wp2
     go_ret
     exact za0 hyes.out hB
theorem zc1 (P M : Nat) (A : Option Addr) (c : Nat) (m : Nat → Nat) (w : World) (hP2 : 2 ≤ P) (hP : P ≤ 256) (hM2 : 2 ≤ M) (hM8 : M ≤ 8) (hq : P ^ M ≤ 256)
  (hm:IntsR w w.heap.size A M (fun i=>(m i:Nat))) (hml:Hid (∀ i,i<M->m i<P)) :
  Calls Tryz.prog 140 #[.slice A M c,.int .i64 (P:Nat)] w (IffPost (IrrB P M m) w):=by
 go_enter Tryz.func140, Tryz.ntmps140
 go_wp2
 go_loopg [5,6] M (fun gg cv dv wx=>∃ d:Nat,dv=.int .i64 (d:Nat)/\cv=.int .i64 (P ^ (d - 1):Nat)/\1<=d/\2*d<=M+2/\M+1<=d+gg/\(∀ d',1<=d'->d'<d->∀ v,v<P ^ d'->¬ DivB P M m d' (dig P v))/\Below w.heap.size w wx)
 case atStart=>exact ⟨1,rfl,rfl,by omega,by omega,by omega,fun d' h1 h2=>by omega,Below.refl _ _⟩
 case round =>
  obtain ⟨d,rfl,rfl,hd1,hd2,hdg,hno,hB⟩:=hrel
  have HNO:=hid hno
  clear hno
  by_cases hlt:2*d<=M
  ·have hlt' : 2 * (d : Int) ≤ (M : Int) := by omega
   have hpd:P ^ d<=256:=Nat.le_trans (Nat.pow_le_pow_right (by omega) (by omega)) hq
   have hpe:P ^ (d - 1)*P=P ^ d:=by rw [<-Nat.pow_succ]; congr 1; omega
   have hpl:P ^ (d - 1)<=256:=Nat.le_trans (Nat.pow_le_pow_right (by omega) (by omega)) hq
   obtain ⟨Q,hQ⟩:∃ Q,Q=P ^ (d - 1):=⟨_,rfl⟩
   obtain ⟨R,hR⟩:∃ Q,Q=P ^ d:=⟨_,rfl⟩
   rw [<-hQ] at hpe hpl;rw [<-hR] at hpe hpd;rw [<-hQ]
   have hmul:(Q:Int)*(P:Int)=(R:Int):=by rw [<-hpe]; simp
   have hw1:IntKind.i64.wrap ((Q:Int)*(P:Int))=(R:Int):=by rw [hmul]; exact IntWalk.i64_in _ (by omega)
   have hw2:IntKind.i64.wrap (R:Int)=(R:Int):=IntWalk.i64_in _ (by omega)
   have HR:=hid hR
   clear hQ hR hpe
   go_wp2
   obtain ⟨gI,rfl⟩:∃ gK:Nat,gK=gk:=⟨_,rfl⟩
   clear hw1 hmul
   go_loopg [7] R (fun gg vv wx=>∃ v:Nat,vv=.int .i64 (v:Nat)/\v<=R/\R<=v+gg/\(∀ v',v'<v->¬ DivB P M m d (dig P v'))/\Below w.heap.size w wx)
   case atStart=>exact ⟨0,rfl,by omega,by omega,fun v' h=>by omega,hB⟩
   case round =>
    clear hB
    obtain ⟨v,rfl,hv,hvg,hnv,hB⟩:=hrel
    have HNV:=hid hnv
    clear hnv
    by_cases hlv:v<R
    ·have hlv':(v:Int)<(R:Int):=by omega
     go_wp2_with fail
     refine (zdV v P d _ (by omega) (by omega) (by omega) (by omega)).mono ?_
     rintro e w1 ⟨rfl,rd,kb⟩
     have hB1:=onS hB kb
     have hint:IntsR w1 w1.heap.size (some ⟨wr.heap.size,0,none⟩) d (fun i=>(dig P v i:Nat)):=zbk rd
     have hll:Hid (∀ i,i<d->dig P v i<P):=fun i _=>zbT (by omega) v i
     clear kb rd
     go_wp2_with fail
     refine (zfB P M d A _ c d m (dig P v) w1 hP2 hP hd1 (by omega) hM8 (hm.on hB1) hml hint hll).mono ?_
     rintro e w2 ⟨b,rfl,hb,kb⟩
     have hB2:=onS hB1 kb
     clear kb hint hll hB hB1
     have HB:=hid hb
     clear hb
     cases b
     ·have hnx:Hid (∀ v',v'<v+1->¬ DivB P M m d (dig P v')):=fun v' h h2=>by
       by_cases e:v'=v
       ·have:=HB.out.2 (e ▸ h2)
        cases this
       ·exact HNV.out v' (by omega) h2
      go_wp2
      go_roundg (gk - 1)
      case measure=>omega
      case rel=>exact ⟨v+1,by go_num,by omega,by omega,hnx.out,hB2⟩
     ·have hdv:Hid (¬ IrrB P M m):=fun h=>h d hd1 hlt v (by rw [<-HR.out]; exact hlv) (HB.out.1 rfl)
      go_wp2
      go_ret
      exact zax hdv.out hB2
    ·obtain rfl:v=R:=by omega
     have hlv':¬ (v:Int)<(v:Int):=by omega
     have hnx:Hid (∀ d',1<=d'->d'<d+1->∀ v',v'<P ^ d'->¬ DivB P M m d' (dig P v')):=fun d' h1 h2 v' h3=>by
      by_cases e:d'=d
      ·subst e
       exact HNV.out v' (by rw [HR.out]; exact h3)
      ·exact HNO.out d' h1 (by omega) v' h3
     go_wp2
     go_roundg (gI - 1)
     case measure=>omega
     case rel=>exact ⟨d+1,by go_num,by rw [HR.out]; simp,by omega,by omega,by omega,hnx.out,hB⟩
  ·have hlt':¬ 2*(d:Int)<=(M:Int):=by omega
   have hirr:Hid (IrrB P M m):=fun d' h1 h2 v hv=>HNO.out d' h1 (by omega) v hv
   clear hlt
   go_wp2
   go_ret
   exact za0 hirr.out hB
def GoodF (P M:Int) (k:Nat) (f:Nat->Int):Prop :=
 ∃ P' M':Nat,P=P'/\M=M'/\FldOk P' M'/\PrimeB P'/\((M'=1/\k=0)∨(2<=M'/\k=M'/\(∀ i,i<M'->0<=f i/\f i<P')/\IrrB P' M' (fun i=>(f i).toNat)))
theorem GoodF.field {P M:Nat} {k:Nat} {f:Nat->Int} (h:GoodF (P:Int) (M:Int) k f):FieldOk P M (fun i=>(f i).toNat)/\(M=1∨k=M):=by
 obtain ⟨P',M',h1,h2,h3,h4,h5⟩:=h
 obtain rfl:P=P':=by omega
 obtain rfl:M=M':=by omega
 rcases h5 with ⟨e,_⟩ | ⟨e1,e2,e3,e4⟩
 ·exact ⟨⟨h3,h4,.inl e,fun d h1 h2=>by omega⟩,.inl e⟩
 ·exact ⟨⟨h3,h4,.inr fun t ht=>by have:=e3 t ht; show (f t).toNat<P; omega,e4⟩,.inr e2⟩
theorem GoodF.mod {P M:Nat} {k:Nat} {f:Nat->Int} {w:World} {A:Option Addr} (h:GoodF (P:Int) (M:Int) k f) (hr:IntsR w w.heap.size A k f):ModOk w P M A (fun i=>(f i).toNat):=by
 obtain ⟨P',M',h1,h2,h3,h4,h5⟩:=h
 obtain rfl:P=P':=by omega
 obtain rfl:M=M':=by omega
 rcases h5 with ⟨e,_⟩ | ⟨e1,rfl,e3,e4⟩
 ·exact .inl e
 ·exact .inr ⟨hr.congr fun i hi=>by have:=e3 i hi; show f i=((f i).toNat:Int); omega,fun i hi=>by have:=e3 i hi; show (f i).toNat<P; omega⟩
def CheckPost (p:Prop) (w:World) (e:Ending) (w':World):Prop:=∃ v:Int,e=.returned (.int .i64 v)/\((v=0/\p)∨(v=1/\¬ p))/\Below w.heap.size w w'
theorem zcd {p:Prop} {w w':World} (h:p) (hB:Below w.heap.size w w'):CheckPost p w (.returned (.int .i64 0)) w':=⟨0,rfl,.inl ⟨rfl,h⟩,hB⟩
theorem zaJ {p:Prop} {w w':World} (h:¬ p) (hB:Below w.heap.size w w'):CheckPost p w (.returned (.int .i64 1)) w':=⟨1,rfl,.inr ⟨rfl,h⟩,hB⟩
theorem zda (P M:Int) (A:Option Addr) (k c:Nat) (f:Nat->Int) (w:World) (hr:IntsR w w.heap.size A k f) :
  Calls Tryz.prog 60 #[.agg #[.int .i64 P,.int .i64 M,.slice A k c]] w (CheckPost (GoodF P M k f) w):=by
 have hB:Below w.heap.size w (w.alloc (.cells #[.int .i64 P,.int .i64 M,.slice A k c] 24)):=(Below.refl _ _).alloc (Nat.le_refl _) _
 have rf:=zad (w:=w) (a:=.int .i64 P) (b:=.int .i64 M) (c:=.slice A k c) (T := 24)
 obtain ⟨w0,hw0⟩:∃ W,W=w.alloc (.cells #[.int .i64 P,.int .i64 M,.slice A k c] 24):=⟨_,rfl⟩
 rw [<-hw0] at hB rf
 go_enter Tryz.func60, Tryz.ntmps60
 go_upto_region 1 with fail
 rw [<-hw0];clear hw0
 have q0:=qc0 rf
 have q1:=qc1 rf
 have q2:=qc2 rf
 go_wp2_with fail
 refine (zbB P M A k c _).mono ?_
 rintro e w1 ⟨rfl,kb⟩
 replace rf:=zaa rf kb;replace hB:=onS hB kb;clear kb q0 q1 q2
 by_cases h0:ordV P M=0
 ·have hno:Hid (¬ GoodF P M k f):=by
   rintro ⟨P',M',rfl,rfl,h3,_⟩
   rw [zbS h3] at h0
   have:=Nat.pow_pos (n:=M') (show 0<P' by have:=h3.1; omega)
   omega
  rw [h0];clear h0 rf
  go_wp2
  go_ret
  exact zaJ hno.out hB
 ·obtain ⟨P,M,rfl,rfl,hf⟩:=zh1 h0
  obtain ⟨v,hv⟩:∃ v,v=ordV (P:Int) (M:Int):=⟨_,rfl⟩
  rw [<-hv] at h0;rw [<-hv]
  have hv0:(v == 0)=false:=by simpa using h0
  have hP2:=hf.1
  have hPl:=hf.P_le
  have hM1:=hf.2.1
  have hM8:=hf.2.2.1
  have hq:=hf.2.2.2
  have HF:=hid hf
  clear hv hf
  have q0:=qc0 rf
  have q1:=qc1 rf
  have q2:=qc2 rf
  go_wp2_with fail
  refine (zhg P _ hPl).mono ?_
  rintro e w2 ⟨b,rfl,hb,rfl⟩
  have HBP:=hid hb
  clear hb h0 hv0
  cases b
  ·have hno:Hid (¬ GoodF (P:Int) (M:Int) k f):=by
    rintro ⟨P',M',e1,e2,h3,h4,_⟩
    obtain rfl:P=P':=by omega
    have:=HBP.out.2 h4
    cases this
   go_wp2
   go_ret
   exact zaJ hno.out hB
  ·have hp : Hid (PrimeB P) := HBP.out.1 rfl
   clear HBP
   by_cases hM:M=1
   ·subst hM
    by_cases hk0:k=0
    ·subst hk0
     have hyes:Hid (GoodF (P:Int) ((1:Nat):Int) 0 f):=⟨P,1,rfl,rfl,HF.out,hp.out,.inl ⟨rfl,rfl⟩⟩
     go_wp2
     go_ret
     exact zcd hyes.out hB
    ·have hk0':((k:Int) != 0)=true:=by simp; omega
     have hno:Hid (¬ GoodF (P:Int) ((1:Nat):Int) k f):=by
      rintro ⟨P',M',e1,e2,h3,h4,⟨e3,e4⟩ | ⟨e3,_⟩⟩
      ·exact hk0 e4
      ·omega
     go_wp2
     go_ret
     exact zaJ hno.out hB
   ·have hM' : ((M : Int) == 1) = false := by simp; omega
    by_cases hkM:k=M
    ·subst hkM
     have hkk:((k:Int) != (k:Int))=false:=by simp
     have hk2:2<=k:=by omega
     go_wp2
     clear q0 q1 q2 hM' hkk
     go_loopg [3] k (fun gg iv wx=>∃ i:Nat,iv=.int .i64 (i:Nat)/\i<=k/\k<=i+gg/\(∀ i',i'<i->0<=f i'/\f i'<P)/\wx.rowIs w.heap.size 24 3 (fldCell (.int .i64 (P:Nat)) (.int .i64 (k:Nat)) (.slice A k c))/\Below w.heap.size w wx)
     case atStart=>exact ⟨0,rfl,by omega,by omega,fun i' h=>by omega,rf,hB⟩
     case round =>
      clear rf hB
      obtain ⟨i,rfl,hi,hig,hg,rf,hB⟩:=hrel
      have HG:=hid hg
      clear hg
      have hi0:(0:Int)<=(i:Int):=by omega
      have q0:=qc0 rf
      have q1:=qc1 rf
      have q2:=qc2 rf
      by_cases hlt:i<k
      ·have hlt':(i:Int)<(k:Int):=by omega
       obtain ⟨b,o,rfl,hb,e0⟩:=(hr.on hB).at hlt
       obtain ⟨x,hx⟩:∃ x,x=f i:=⟨_,rfl⟩
       rw [<-hx] at e0
       have HX:=hid hx
       clear hx
       have hno:Hid (x<0∨(P:Int)<=x->¬ GoodF (P:Int) (k:Int) k f):=by
        rintro hc ⟨P',M',e1,e2,h3,h4,⟨e3,e4⟩ | ⟨e3,e4,e5,_⟩⟩
        ·omega
        ·have:=e5 i (by omega)
         rw [<-HX.out] at this
         omega
       by_cases hx0:x<0
       ·have hd:decide (x<0)=true:=by simpa using hx0
        go_wp2
        go_quiet (fail)
        go_wp2
        go_ret
        exact zaJ (hno.out (.inl hx0)) (zac hB _)
       ·have hd:decide (x<0)=false:=by simpa using hx0
        by_cases hxP:(P:Int)<=x
        ·have hd2:decide ((P:Int)<=x)=true:=by simpa using hxP
         go_wp2
         go_quiet (fail)
         go_wp2
         go_ret
         exact zaJ (hno.out (.inr hxP)) (zac hB _)
        ·have hd2:decide ((P:Int)<=x)=false:=by simpa using hxP
         have hnx:Hid (∀ i',i'<i+1->0<=f i'/\f i'<P):=fun i' h=>by
          by_cases e:i'=i
          ·rw [e,<-HX.out]; omega
          ·exact HG.out i' (by omega)
         clear hno
         go_wp2
         go_quiet (fail)
         go_wp2
         go_roundg (gk - 1)
         case measure=>omega
         case rel=>exact ⟨i+1,by go_num,by omega,by omega,hnx.out,zbi rf _,zac hB _⟩
      ·obtain rfl:i=k:=by omega
       have hlt':¬ (i:Int)<(i:Int):=by omega
       have hint:IntsR wr wr.heap.size A i (fun t=>((f t).toNat:Nat)):=(hr.on hB).congr fun t ht=>by have:=HG.out t ht; omega
       have hml:Hid (∀ t,t<i->(f t).toNat<P):=fun t ht=>by have:=HG.out t ht; omega
       go_wp2_with fail
       refine (zc1 P i A c _ wr hP2 hPl hk2 hM8 hq hint hml).mono ?_
       rintro e w2 ⟨b,rfl,hb,kb⟩
       replace hB:=onS hB kb
       have HBI:=hid hb
       clear kb q0 q1 q2 hint hml hb rf
       cases b
       ·have hno:Hid (¬ GoodF (P:Int) (i:Int) i f):=by
         rintro ⟨P',M',e1,e2,h3,h4,⟨e3,e4⟩ | ⟨e3,e4,e5,e6⟩⟩
         ·omega
         ·obtain rfl:P=P':=by omega
          subst e4
          have:=HBI.out.2 e6
          cases this
        go_wp2
        go_ret
        exact zaJ hno.out hB
       ·have hyes:Hid (GoodF (P:Int) (i:Int) i f):=⟨P,i,rfl,rfl,HF.out,hp.out,.inr ⟨hk2,rfl,HG.out,HBI.out.1 rfl⟩⟩
        go_wp2
        go_ret
        exact zcd hyes.out hB
    ·have hkM':((k:Int) != (M:Int))=true:=by simp; omega
     have hno:Hid (¬ GoodF (P:Int) (M:Int) k f):=by
      rintro ⟨P',M',e1,e2,h3,h4,⟨e3,e4⟩ | ⟨e3,e4,_⟩⟩
      ·omega
      ·omega
     go_wp2
     go_ret
     exact zaJ hno.out hB
def negF (P M x:Nat):Nat:=valN P (fun i=>(P - dig P x i) % P) M
theorem za7 {P M x:Nat} (hP:0<P):negF P M x<P ^ M:=za9 fun _ _=>Nat.mod_lt _ hP
theorem zaR {P M x:Nat} (hP:0<P):addF P M x (negF P M x)=0:=by
 have hlt:addF P M x (negF P M x)<P ^ M:=za9 fun _ _=>Nat.mod_lt _ hP
 refine zd3 hP hlt (Nat.pow_pos hP) fun j hj=>?_
 unfold addF
 rw [za6 (fun i _=>Nat.mod_lt _ hP) j hj]
 unfold negF
 rw [za6 (fun i _=>Nat.mod_lt _ hP) j hj]
 have h0:dig P 0 j=0:=by unfold dig; simp
 rw [h0]
 have h1:=zbT hP x j
 obtain ⟨d,hd⟩:∃ d,d=dig P x j:=⟨_,rfl⟩
 rw [<-hd] at h1 ⊢
 rcases Nat.eq_zero_or_pos d with h2 | h2
 ·subst h2; simp
 ·rw [Nat.mod_eq_of_lt (show P - d<P by omega),show d+(P - d)=P by omega,Nat.mod_self]
theorem zav {w w':World} {P M:Nat} {A:Option Addr} {m:Nat->Nat} (h:ModOk w P M A m) (hb:Below w.heap.size w w'):ModOk w' P M A m:=by
 rcases h with h | ⟨h1,h2⟩
 ·exact .inl h
 ·exact .inr ⟨h1.on hb,h2⟩
theorem zcx (P M:Nat) (A:Option Addr) (k c:Nat) (x:Int) (w:World) (hf:FldOk P M) :
  Calls Tryz.prog 157 #[.agg #[.int .i64 (P:Nat),.int .i64 (M:Nat),.slice A k c],.int .i64 x] w fun e w'=>e=.returned (.int .i64 (negF P M (inV (P ^ M) x):Nat))/\Below w.heap.size w w':=by
 have hP2:=hf.1
 have hP:=hf.P_le
 have hM8:=hf.2.2.1
 have hq:=hf.2.2.2
 have hB:Below w.heap.size w (w.alloc (.cells #[.int .i64 (P:Nat),.int .i64 (M:Nat),.slice A k c] 24)):=(Below.refl _ _).alloc (Nat.le_refl _) _
 have rf:=zad (w:=w) (a:=.int .i64 (P:Nat)) (b:=.int .i64 (M:Nat)) (c:=.slice A k c) (T := 24)
 obtain ⟨w0,hw0⟩:∃ W,W=w.alloc (.cells #[.int .i64 (P:Nat),.int .i64 (M:Nat),.slice A k c] 24):=⟨_,rfl⟩
 rw [<-hw0] at hB rf
 go_enter Tryz.func157, Tryz.ntmps157
 go_upto_region 1 with fail
 rw [<-hw0];clear hw0
 have hw0:=rf.lt
 have q0:=qc0 rf
 have q1:=qc1 rf
 have q2:=qc2 rf
 go_wp2_with fail
 refine (za3 P M A k c x _ hf).mono ?_
 rintro e w1 ⟨ga,rfl,hga,ra,kb⟩
 replace rf:=zaa rf kb
 have hga':=hB.size
 replace hB:=onS hB kb;clear kb q0 q1 q2
 obtain ⟨X,hX⟩:∃ X,X=inV (P ^ M) x:=⟨_,rfl⟩
 rw [<-hX] at ra
 have HX:=hid hX
 clear hX
 have hgfa:w.heap.size≠ga:=by omega
 have hgaB:w.heap.size<=ga:=by omega
 clear hga hga' hw0
 go_wp2
 go_loopg [6] M (fun gg iv wx=>∃ i:Nat,iv=.int .i64 (i:Nat)/\i<=M/\M<=i+gg/\wx.rowIs ga 3 M (fun t=>.int .i64 (if t<i then ((P - dig P X t) % P:Nat) else (dig P X t:Nat):Nat))/\wx.rowIs w.heap.size 24 3 (fldCell (.int .i64 (P:Nat)) (.int .i64 (M:Nat)) (.slice A k c))/\Below w.heap.size w wx)
 case atStart=>exact ⟨0,rfl,by omega,by omega,ra.congr fun t _=>rfl,rf,hB⟩
 case round =>
  clear ra rf hB
  obtain ⟨i,rfl,hi,hig,ra,rf,hB⟩:=hrel
  have hi0:(0:Int)<=(i:Int):=by omega
  by_cases hlt:i<M
  ·have hlt':(i:Int)<(M:Int):=by omega
   have hda:=zbT (p:=P) (by omega) X i
   have ca:wr.cell? ⟨ga,i,none⟩=some (.int .i64 (dig P X i:Nat)):=by have:=ra.cell hlt; simpa using this
   have q0:=qc0 rf
   have za:=ra.frozen i
   obtain ⟨R,hR⟩:∃ R,R=(P - dig P X i) % P:=⟨_,rfl⟩
   have hRP:R<P:=by rw [hR]; exact Nat.mod_lt _ (by omega)
   have ra2:(wr.setCell ⟨ga,i,none⟩ (.int .i64 (R:Int))).rowIs ga 3 M (fun t=>.int .i64 (if t<i+1 then ((P - dig P X t) % P:Nat) else (dig P X t:Nat):Nat)):=(ra.set i _).congr fun t ht=>by
    by_cases e:t=i
    ·subst e
     rw [if_pos rfl,if_pos (by omega),hR]
    ·rw [if_neg e]
     by_cases e2:t<i
     ·rw [if_pos e2,if_pos (by omega)]
     ·rw [if_neg e2,if_neg (by omega)]
   have rf2:=rf.setOther (a:=⟨ga,i,none⟩) (by simpa using hgfa) (.int .i64 (R:Int))
   have hB2:Below w.heap.size w (wr.setCell ⟨ga,i,none⟩ (.int .i64 (R:Int))):=hB.setCell hgaB _
   have RA:=hid ra2
   have RF:=hid rf2
   have HB:=hid hB2
   obtain ⟨D,hD⟩:∃ D,D=dig P X i:=⟨_,rfl⟩
   rw [<-hD] at ca hda hR;clear ra2 rf2 hB2 hD ra rf hB
   have hP0:¬ (P:Int)=0:=by omega
   have hPn:¬ P=0:=by omega
   have hsum0:(0:Int)<=(P:Int) - (D:Int):=by omega
   have hcast:((P:Int) - (D:Int))=((P - D:Nat):Int):=by omega
   have hem:((P:Int) - (D:Int)) % (P:Int)=(R:Int):=by rw [hR,hcast]; rfl
   have htm:((P:Int) - (D:Int)).tmod (P:Int)=(R:Int):=by rw [Int.tmod_eq_emod_of_nonneg hsum0]; exact hem
   have hws:IntKind.i64.wrap ((P:Int) - (D:Int))=(P:Int) - (D:Int):=IntWalk.i64_in _ (by omega)
   have hwm:IntKind.i64.wrap (R:Int)=(R:Int):=IntWalk.i64_in _ (by omega)
   clear hR hcast
   go_wp2
   go_still_tail 13,(by kernel_rfl)
   change wpList _ _ _ _ _ wr.drew
   go_wp2
   clear htm hws hwm hem
   go_roundg (gk - 1)
   case measure=>omega
   case rel=>exact ⟨i+1,by go_num,by omega,by omega,RA.out,RF.out,HB.out.drew⟩
  ·obtain rfl:M=i:=by omega
   have hlt':¬ (M:Int)<(M:Int):=by omega
   have hr:wr.rowIs ga 3 M (fun t=>.int .i64 ((P - dig P X t) % P:Nat)):=ra.congr fun t ht=>by rw [if_pos ht]
   have hint:=rowInts hr
   have hval:Hid (valN P (fun t=>(P - dig P X t) % P) M=negF P M (inV (P ^ M) x)):=by rw [HX.out]; rfl
   have hlts:Hid (∀ t,t<M->(P - dig P X t) % P<P):=fun t _=>Nat.mod_lt _ (by omega)
   clear ra hr
   have q0:=qc0 rf
   have q1:=qc1 rf
   have q2:=qc2 rf
   go_wp2_with fail
   refine (zb8 P M A k c (some ⟨ga,0,none⟩) M M _ _ hP2 hP hint hlts hq hM8).mono ?_
   rintro e w3 ⟨rfl,kb⟩
   replace hB:=onS hB kb;clear kb q0 q1 q2 rf;rw [hval.out]
   obtain ⟨R,hR⟩:∃ R,R=negF P M (inV (P ^ M) x):=⟨_,rfl⟩
   rw [<-hR]
   have HR:=hid hR
   clear hR hint
   go_wp2
   go_ret
   exact ⟨by rw [HR.out]; rfl,hB⟩
def InvPost (q:Nat) (mul:Nat->Nat->Nat) (x:Nat) (w:World) (e:Ending) (w':World):Prop :=
 ∃ y:Nat,e=.returned (.int .i64 (y:Nat))/\Below w.heap.size w w'/\y<q/\((∃ z,1<=z/\z<q/\mul x z=1)->mul x y=1)
theorem zdt (P M:Nat) (A:Option Addr) (k c:Nat) (m:Nat->Nat) (x:Int) (w:World) (hf:FldOk P M) (hm:ModOk w P M A m) (hkM:M=1∨k=M) :
  Calls Tryz.prog 218 #[.agg #[.int .i64 (P:Nat),.int .i64 (M:Nat),.slice A k c],.int .i64 x] w (InvPost (P ^ M) (mulF P M m) (inV (P ^ M) x) w):=by
 have hP2:=hf.1
 have hq:=hf.2.2.2
 have hq2:0<P ^ M:=Nat.pow_pos (by omega)
 have hB:Below w.heap.size w (w.alloc (.cells #[.int .i64 (P:Nat),.int .i64 (M:Nat),.slice A k c] 24)):=(Below.refl _ _).alloc (Nat.le_refl _) _
 have rf:=zad (w:=w) (a:=.int .i64 (P:Nat)) (b:=.int .i64 (M:Nat)) (c:=.slice A k c) (T := 24)
 obtain ⟨w0,hw0⟩:∃ W,W=w.alloc (.cells #[.int .i64 (P:Nat),.int .i64 (M:Nat),.slice A k c] 24):=⟨_,rfl⟩
 rw [<-hw0] at hB rf
 obtain ⟨q,hqq⟩:∃ q,q=P ^ M:=⟨_,rfl⟩
 have HQ:=hid hqq
 have hord:ordV (P:Int) (M:Int)=(q:Nat):=by
  unfold ordV
  rw [if_pos ⟨by omega,by have:=hf.2.1; omega,by have:=hf.2.2.1; omega,by simpa using hq⟩,hqq]
  simp
 rw [<-hqq] at hq hq2 ⊢
 have HORD:=hid hord
 obtain ⟨X,hX⟩:∃ X,X=inV q x:=⟨_,rfl⟩
 rw [<-hX]
 have HX:=hid hX
 clear hX hord hqq
 go_enter Tryz.func218, Tryz.ntmps218
 go_upto_region 1 with fail
 rw [<-hw0];clear hw0
 go_wp2
 go_loopg [5] q (fun gg iv wx=>∃ i:Nat,iv=.int .i64 (i:Nat)/\1<=i/\i<=q/\q<=i+gg/\(∀ z,1<=z->z<i->mulF P M m X z≠1)/\wx.rowIs w.heap.size 24 3 (fldCell (.int .i64 (P:Nat)) (.int .i64 (M:Nat)) (.slice A k c))/\Below w.heap.size w wx)
 case atStart=>exact ⟨1,rfl,by omega,by omega,by omega,fun z h1 h2=>absurd h2 (by omega),rf,hB⟩
 case round =>
  clear rf hB
  obtain ⟨i,rfl,hi1,hi,hig,hno,rf,hB⟩:=hrel
  have hi0:(0:Int)<=(i:Int):=by omega
  have HNO:=hid hno
  clear hno
  have q0:=qc0 rf
  have q1:=qc1 rf
  have q2:=qc2 rf
  go_wp2_with fail
  refine (zbB (P:Int) (M:Int) A k c wr).mono ?_
  rintro e w1 ⟨rfl,kb⟩
  rw [HORD.out];replace rf:=zaa rf kb;replace hB:=onS hB kb;clear kb q0 q1 q2
  have q0:=qc0 rf
  have q1:=qc1 rf
  have q2:=qc2 rf
  by_cases hlt:i<q
  ·have hlt':(i:Int)<(q:Int):=by omega
   go_wp2_with fail
   refine (zdi P M A k c m x (i:Nat) w1 hf (zav hm hB) hkM).mono ?_
   rintro e w2 ⟨rfl,kb⟩
   rw [<-HQ.out,<-HX.out]
   have hiv:inV q (i:Nat)=i:=by unfold inV; rw [if_pos ⟨by omega,by omega⟩]; omega
   rw [hiv];replace rf:=zaa rf kb;replace hB:=onS hB kb;clear kb q0 q1 q2 hiv
   obtain ⟨r,hr⟩:∃ r,r=mulF P M m X i:=⟨_,rfl⟩
   rw [<-hr]
   have HR:=hid hr
   clear hr
   by_cases h1:r=1
   ·have hc:((r:Int) == 1)=true:=by simp [h1]
    have HR1:Hid (mulF P M m X i=1):=by rw [<-HR.out]; exact h1
    clear h1
    go_wp2
    go_ret
    exact ⟨i,rfl,hB,hlt,fun _=>HR1.out⟩
   ·have hc:((r:Int) == 1)=false:=by simp; omega
    have HR1:Hid (mulF P M m X i≠1):=by rw [<-HR.out]; exact h1
    clear h1
    go_wp2
    go_roundg (gk - 1)
    case measure=>omega
    case rel =>
     refine ⟨i+1,by go_num,by omega,by omega,by omega,fun z hz1 hz2=>?_,rf,hB⟩
     by_cases e:z=i
     ·subst e; exact HR1.out
     ·exact HNO.out z hz1 (by omega)
  ·have hlt':¬ (i:Int)<(q:Int):=by omega
   go_wp2
   go_ret
   refine ⟨0,rfl,hB,hq2,fun ⟨z,h1,h2,h3⟩=>absurd h3 (HNO.out z h1 (by omega))⟩
theorem zbh {w:World} {p q:Addr} {u v:Value} (h:w.cell? q=some v) (hne:q≠p):(w.setCell p u).cell? q=some v :=
 (World.cell?_setCell_other w p q u (fun e=>hne (by rw [e]))).trans h
theorem zcs {w:World} {b i:Nat} {u v:Value} (h:w.cell? ⟨b,i,none⟩=some v):(w.setCell ⟨b,i,none⟩ u).cell? ⟨b,i,none⟩=some u:=by
 unfold World.cell? at h
 split at h
 ·rename_i c e fr hb
  have hb:w.heap[b]?=some (.cells c e fr):=hb
  simp only [Option.isSome_none,Bool.false_eq_true,if_false] at h
  have hi:i<c.size:=(Array.getElem?_eq_some_iff.1 h).1
  simp [World.cell?,World.setCell,Array.getElem?_modify,hb,hi]
 ·cases h
theorem zab {w:World} {p q:Addr} {u v:Value} (h:w.cell? q=some v) (hne:q.block≠p.block):(w.setCell p u).cell? q=some v :=
 (World.cell?_setCell_other w p q u (fun e=>hne (by rw [e]))).trans h
theorem ziz {w wr:World} {o1 o2:Obj} (h:Below (w.heap.size+2) ((w.alloc o1).alloc o2) wr):Below (w.heap.size+1) (w.alloc o1) wr:=((Below.refl _ _).alloc (by simp) _).trans (h.mono (by omega))
theorem zcG {w wr:World} {o1:Obj} {cs:Array Value} {T:TypeId} (h:Below (w.heap.size+2) ((w.alloc o1).alloc (.cells cs T)) wr):wr.rowIs (w.heap.size+1) T cs.size (fun i=>cs.getD i undef):=by
 have h1:=World.rowIs_alloc (w.alloc o1) cs T (fun i=>cs.getD i undef) (fun i hi=>by simp [hi])
 simp only [World.size_alloc] at h1
 exact h1.of_block (h.block _ (by omega))
structure TabOwn (w:World) (g base te e s m:Nat) (F:Nat->Value) (n:Nat->Nat) (f:Nat->Nat->Nat->Value):Prop where
 row:w.rowIs g te m F
 own:∀ v,v<m->Own w base e s (F v) (n v) (f v)
 apart:∀ v u,v<m->u<m->v≠u->(F v).ownBlock=none∨(F v).ownBlock≠(F u).ownBlock
section
variable {w w':World} {g base te e s m:Nat} {F:Nat->Value} {n:Nat->Nat} {f:Nat->Nat->Nat->Value}
theorem TabOwn.put (h:TabOwn w g base te e s m F n f) (hgb:g<base) {v:Nat} (hv:v<m) {v':Value} {n':Nat} {f':Nat->Nat->Value} (hown:Own w' base e s v' n' f') (hg:w.grownBy w' (F v).ownBlock) (hat:v'.ownBlock=(F v).ownBlock∨v'.ownBlock=some w.heap.size) :
  TabOwn (w'.setCell ⟨g,v,none⟩ v') g base te e s m (fun u=>if u=v then v' else F u) (fun u=>if u=v then n' else n u) (fun u=>if u=v then f' else f u):=by
 have hlt:∀ u,u<m->∀ k,(F u).ownBlock=some k->base<=k/\k<w.heap.size:=fun u hu=>(h.own u hu).lt
 have hgw:g<w.heap.size:=h.row.lt
 refine ⟨?_,fun u hu=>?_,fun a b ha hb hab=>?_⟩
 ·have:w'.rowIs g te m F:=h.row.of_block (hg.block g hgw (fun e=>by have:=(hlt v hv g e.symm).1; omega))
  exact (this.set v v').congr fun u _=>by split <;> rfl
 ·by_cases e:u=v
  ·subst e
   simp only [if_true]
   exact hown.setCell (fun e=>by have:=(hown.lt _ e).1; simp at this; omega) _
  ·simp only [if_neg e]
   have hk:Own w' base _ s (F u) (n u) (f u):=(h.own u hu).kept hg (h.apart u v hu hv e)
   exact hk.setCell (fun e=>by have:=(hk.lt _ e).1; simp at this; omega) _
 ·by_cases ea:a=v
  ·have eb:¬ b=v:=fun e=>hab (by rw [ea,e])
   simp only [if_pos ea,if_neg eb]
   subst ea
   rcases hat with h1 | h1
   ·rw [h1]; exact h.apart a b ha hb hab
   ·right
    rw [h1]
    intro e2
    have:=(hlt b hb _ e2.symm).2
    omega
  ·simp only [if_neg ea]
   by_cases eb:b=v
   ·simp only [if_pos eb]
    subst eb
    rcases hat with h1 | h1
    ·rw [h1]; exact h.apart a b ha hb hab
    ·rw [h1]
     cases hfa:(F a).ownBlock with
     | none=>exact .inl rfl
     | some k =>
      right
      intro e2
      injection e2 with e2
      have:=(hlt a ha k hfa).2
      omega
   ·simp only [if_neg eb]; exact h.apart a b ha hb hab
end
def atF (P M:Nat) (m:Nat->Nat) (a:Nat) (v u:Nat->Nat) (t:Nat):Nat:=if u t=0 then v t else addF P M (v t) (mulF P M m a (u t))
theorem zdu (P M:Nat) (A:Option Addr) (k c:Nat) (m:Nat->Nat) (a:Nat) (V:Option Addr) (n d:Nat) (v:Nat->Nat) (w:World) (hf:FldOk P M) (hm:ModOk w P M A m) (hkM:M=1∨k=M) (ha:a<P ^ M)
  (h:IntsR w w.heap.size V n (fun i=>(v i:Nat))) (hv:∀ i,i<n->v i<P ^ M) (hn:n<=1048576) :
  Calls Tryz.prog 217 #[.agg #[.int .i64 (P:Nat),.int .i64 (M:Nat),.slice A k c],.int .i64 (a:Nat),.slice V n d] w (RowPost n (fun i=>.int .i64 (mulF P M m a (v i):Nat)) w):=by
 have hB:Below w.heap.size w (w.alloc (.cells #[.int .i64 (P:Nat),.int .i64 (M:Nat),.slice A k c] 24)):=(Below.refl _ _).alloc (Nat.le_refl _) _
 have rf:=zad (w:=w) (a:=.int .i64 (P:Nat)) (b:=.int .i64 (M:Nat)) (c:=.slice A k c) (T := 24)
 obtain ⟨w0,hw0⟩:∃ W,W=w.alloc (.cells #[.int .i64 (P:Nat),.int .i64 (M:Nat),.slice A k c] 24):=⟨_,rfl⟩
 rw [<-hw0] at hB rf
 have hmk:=fun W=>zaf (P:=Tryz.prog) 22 3 _ 8 Tryz.underlying22 Tryz.infoInt rfl (n:Int) (by omega) (by omega) (by omega) W
 simp only [Int.toNat_natCast] at hmk
 go_enter Tryz.func217, Tryz.ntmps217
 go_upto_region 1 with fail
 rw [<-hw0];clear hw0
 go_upto_region 2 with fail
 have kb:=(Below.refl w0.heap.size w0).alloc (Nat.le_refl _) (Obj.cells (madeCells #[Value.int .i64 0] n) 3)
 have ra:=World.rowIs_made w0 (.int .i64 0) n 3
 have hfl:=rf.lt
 have hgz:=hB.size
 obtain ⟨w1,hw1⟩:∃ W,W=w0.alloc (Obj.cells (madeCells #[Value.int .i64 0] n) 3):=⟨_,rfl⟩
 obtain ⟨g,hg⟩:∃ b,b=w0.heap.size:=⟨_,rfl⟩
 rw [<-hw1] at kb ra ⊢;rw [<-hg] at ra hfl hgz ⊢;replace rf:=zaa rf kb;replace hB:=onS hB kb
 have hfg:w.heap.size≠g:=by omega
 have hgB:w.heap.size<=g:=by omega
 clear kb hw1 hg hmk hfl
 have hia:=zaE ha
 have HV:=hid h
 have HVL:=hid hv
 clear h hv
 go_wp2
 go_loopg [8] n (fun gg iv wx=>∃ i:Nat,iv=.int .i64 (i:Nat)/\i<=n/\n<=i+gg/\wx.rowIs g 3 n (fun t=>.int .i64 ((if t<i then mulF P M m a (v t) else 0:Nat):Int))/\wx.rowIs w.heap.size 24 3 (fldCell (.int .i64 (P:Nat)) (.int .i64 (M:Nat)) (.slice A k c))/\Below w.heap.size w wx)
 case atStart=>exact ⟨0,rfl,by omega,by omega,ra.congr fun t _=>by rw [if_neg (by omega)]; rfl,rf,hB⟩
 case round =>
  clear ra rf hB
  obtain ⟨i,rfl,hi,hig,ra,rf,hB⟩:=hrel
  have hi0:(0:Int)<=(i:Int):=by omega
  by_cases hlt:i<n
  ·have hlt':(i:Int)<(n:Int):=by omega
   obtain ⟨vb,vo,rfl,hvb,x0⟩:=HV.out.at hlt
   have hvg:vb≠g:=by omega
   replace x0:=(hB.cell (p:=⟨vb,vo+i,none⟩) hvb).trans x0
   obtain ⟨x,hx⟩:∃ x,x=v i:=⟨_,rfl⟩
   have hix:inV (P ^ M) (x:Nat)=x:=by rw [hx]; exact zaE (HVL.out i hlt)
   rw [<-hx] at x0
   have HX:=hid hx
   clear hx
   have q0:=qc0 rf
   have q1:=qc1 rf
   have q2:=qc2 rf
   obtain ⟨w1,hw1⟩:∃ W,W=wr:=⟨_,rfl⟩
   subst hw1
   go_wp2
   refine wp_region_held_drew (S:=fun w'=>w'.cell? ⟨w.heap.size,0,none⟩=some (.int .i64 (P:Nat))/\w'.cell? ⟨w.heap.size,1,none⟩=some (.int .i64 (M:Nat))/\w'.cell? ⟨w.heap.size,2,none⟩=some (.slice A k c)/\w'.cell? ⟨vb,vo+i,none⟩=some (.int .i64 (x:Nat))) (by kernel_rfl) ⟨cellS (Below.refl _ _).drew q0,cellS (Below.refl _ _).drew q1,cellS (Below.refl _ _).drew q2,cellS (Below.refl _ _).drew x0⟩ (fun hHeld=>?_)
   obtain ⟨w2,hw⟩:∃ W,W=World.drew w1:=⟨_,rfl⟩
   have kb:Below w1.heap.size w1 w2:=by rw [hw]; exact (Below.refl _ _).drew
   rw [<-hw] at hHeld ⊢;clear hw;replace ra:=zaa ra kb;replace rf:=zaa rf kb;replace hB:=onS hB kb;replace q0:=cellS kb q0;replace q1:=cellS kb q1;replace q2:=cellS kb q2;replace x0:=cellS kb x0;clear kb
   refine tkq 0 (h:=tkq 1 (h:=tkq 2 (h:=tkq 3 (h:=tkq 4 (h:=tkq 5 (h:=tkq 6 (h:=tkq 7 (h:=?_))))))))
   refine rdq 8 (h:=fun K hK=>?_)
   go_simp
   go_wp2_with fail
   refine (zdi P M A k c m (a:Nat) (x:Nat) w2 hf (zav hm hB) hkM).mono ?_
   rintro e w3 ⟨rfl,kb⟩
   replace ra:=zaa ra kb;replace rf:=zaa rf kb;replace hB:=onS hB kb;replace q0:=cellS kb q0;replace q1:=cellS kb q1;replace q2:=cellS kb q2;replace x0:=cellS kb x0;clear kb;rw [hia,hix]
   obtain ⟨r,hr⟩:∃ r,r=mulF P M m a x:=⟨_,rfl⟩
   rw [<-hr]
   have HR:=hid hr
   clear hr
   refine bkq hK ⟨q0,q1,q2,x0⟩ (h:=fun hHeld=>?_)
   clear hK K
   refine tkq 9 (h:=?_)
   refine rdq 10 (h:=fun K hK=>?_)
   have y0:=ra.cell hlt
   have z0:=ra.frozen i
   have ra9:=ra.set i (.int .i64 (r:Nat))
   have rf9:=rf.setOther (a:=⟨g,i,none⟩) (by simpa using hfg) (.int .i64 (r:Nat))
   have hB9:=hB.setCell (p:=⟨g,i,none⟩) hgB (.int .i64 (r:Nat))
   have q09:=zab (p:=⟨g,i,none⟩) (u:=.int .i64 (r:Nat)) q0 hfg
   have q19:=zab (p:=⟨g,i,none⟩) (u:=.int .i64 (r:Nat)) q1 hfg
   have q29:=zab (p:=⟨g,i,none⟩) (u:=.int .i64 (r:Nat)) q2 hfg
   have x09:=zab (p:=⟨g,i,none⟩) (u:=.int .i64 (r:Nat)) x0 hvg
   have RA:=hid ra9
   have RF:=hid rf9
   have HB9:=hid hB9
   have Hq0:=hid q09
   have Hq1:=hid q19
   have Hq2:=hid q29
   have Hx0:=hid x09
   clear ra rf hB ra9 rf9 hB9 q0 q1 q2 x0 q09 q19 q29 x09
   go_simp
   clear y0 z0
   refine bkq hK ⟨Hq0.out,Hq1.out,Hq2.out,Hx0.out⟩ (h:=fun hHeld=>?_)
   clear hK K
   refine wpAnyH_done (by kernel_rfl) ?_ _
   clear hHeld
   go_wp2
   go_roundg (gk - 1)
   case measure=>omega
   case rel =>
    refine ⟨i+1,by go_num,by omega,by omega,RA.out.congr fun t ht=>?_,RF.out,HB9.out⟩
    show (if t=i then Value.int .i64 (r:Nat) else .int .i64 ((if t<i then mulF P M m a (v t) else 0:Nat):Int))=.int .i64 ((if t<i+1 then mulF P M m a (v t) else 0:Nat):Int)
    by_cases e:t=i
    ·subst e; rw [if_pos rfl,if_pos (by omega),HR.out,HX.out]
    ·rw [if_neg e]
     by_cases e2:t<i
     ·rw [if_pos e2,if_pos (by omega)]
     ·rw [if_neg e2,if_neg (by omega)]
  ·have hlt':¬ (i:Int)<(n:Int):=by omega
   obtain rfl:i=n:=by omega
   have hr:=ra.congr (g:=fun t=>.int .i64 (mulF P M m a (v t):Nat)) fun t ht=>by rw [if_pos ht]
   clear ra
   go_wp2
   go_ret
   exact ⟨g,rfl,hgB,hr,hB⟩
theorem zb0 (P M:Nat) (A:Option Addr) (k c:Nat) (m:Nat->Nat) (a:Nat) (V U:Option Addr) (n d n' d':Nat) (v u:Nat->Nat) (w:World) (hf:FldOk P M) (hm:ModOk w P M A m) (hkM:M=1∨k=M) (ha:a<P ^ M)
  (h:IntsR w w.heap.size V n (fun i=>(v i:Nat))) (hv:∀ i,i<n->v i<P ^ M) (h2:IntsR w w.heap.size U n' (fun i=>(u i:Nat))) (hu:∀ i,i<n->u i<P ^ M) (hnn:n<=n') (hn:n<=1048576) :
  Calls Tryz.prog 195 #[.agg #[.int .i64 (P:Nat),.int .i64 (M:Nat),.slice A k c],.slice V n d,.int .i64 (a:Nat),.slice U n' d'] w (RowPost n (fun i=>.int .i64 (atF P M m a v u i:Nat)) w):=by
 have hB:Below w.heap.size w (w.alloc (.cells #[.int .i64 (P:Nat),.int .i64 (M:Nat),.slice A k c] 24)):=(Below.refl _ _).alloc (Nat.le_refl _) _
 have rf:=zad (w:=w) (a:=.int .i64 (P:Nat)) (b:=.int .i64 (M:Nat)) (c:=.slice A k c) (T := 24)
 obtain ⟨w0,hw0⟩:∃ W,W=w.alloc (.cells #[.int .i64 (P:Nat),.int .i64 (M:Nat),.slice A k c] 24):=⟨_,rfl⟩
 rw [<-hw0] at hB rf
 have hmk:=fun W=>zaf (P:=Tryz.prog) 22 3 _ 8 Tryz.underlying22 Tryz.infoInt rfl (n:Int) (by omega) (by omega) (by omega) W
 simp only [Int.toNat_natCast] at hmk
 go_enter Tryz.func195, Tryz.ntmps195
 go_upto_region 1 with fail
 rw [<-hw0];clear hw0
 go_upto_region 2 with fail
 have kb:=(Below.refl w0.heap.size w0).alloc (Nat.le_refl _) (Obj.cells (madeCells #[Value.int .i64 0] n) 3)
 have ra:=World.rowIs_made w0 (.int .i64 0) n 3
 have hfl:=rf.lt
 have hgz:=hB.size
 obtain ⟨w1,hw1⟩:∃ W,W=w0.alloc (Obj.cells (madeCells #[Value.int .i64 0] n) 3):=⟨_,rfl⟩
 obtain ⟨g,hg⟩:∃ b,b=w0.heap.size:=⟨_,rfl⟩
 rw [<-hw1] at kb ra ⊢;rw [<-hg] at ra hfl hgz ⊢;replace rf:=zaa rf kb;replace hB:=onS hB kb
 have hfg:w.heap.size≠g:=by omega
 have hgB:w.heap.size<=g:=by omega
 clear kb hw1 hg hmk hfl
 have hia:=zaE ha
 have HV:=hid h
 have HVL:=hid hv
 have HU:=hid h2
 have HUL:=hid hu
 clear h hv h2 hu
 go_wp2
 go_loopg [10] n (fun gg iv wx=>∃ i:Nat,iv=.int .i64 (i:Nat)/\i<=n/\n<=i+gg/\wx.rowIs g 3 n (fun t=>.int .i64 ((if t<i then atF P M m a v u t else 0:Nat):Int))/\wx.rowIs w.heap.size 24 3 (fldCell (.int .i64 (P:Nat)) (.int .i64 (M:Nat)) (.slice A k c))/\Below w.heap.size w wx)
 case atStart=>exact ⟨0,rfl,by omega,by omega,ra.congr fun t _=>by rw [if_neg (by omega)]; rfl,rf,hB⟩
 case round =>
  clear ra rf hB
  obtain ⟨i,rfl,hi,hig,ra,rf,hB⟩:=hrel
  have hi0:(0:Int)<=(i:Int):=by omega
  by_cases hlt:i<n
  ·have hlt':(i:Int)<(n:Int):=by omega
   have hltn:(i:Int)<(n':Int):=by omega
   obtain ⟨vb,vo,rfl,hvb,x0⟩:=HV.out.at hlt
   obtain ⟨ub,uo,rfl,hub,u0⟩:=HU.out.at (i:=i) (by omega)
   have hvg:vb≠g:=by omega
   have hug:ub≠g:=by omega
   replace x0:=(hB.cell (p:=⟨vb,vo+i,none⟩) hvb).trans x0;replace u0:=(hB.cell (p:=⟨ub,uo+i,none⟩) hub).trans u0
   obtain ⟨x,hx⟩:∃ x,x=v i:=⟨_,rfl⟩
   have hix:inV (P ^ M) (x:Nat)=x:=by rw [hx]; exact zaE (HVL.out i hlt)
   rw [<-hx] at x0
   have HX:=hid hx
   obtain ⟨y,hy⟩:∃ y,y=u i:=⟨_,rfl⟩
   have hiy:inV (P ^ M) (y:Nat)=y:=by rw [hy]; exact zaE (HUL.out i hlt)
   rw [<-hy] at u0
   have HY:=hid hy
   clear hx hy
   have y9:=ra.cell hlt
   have z9:=ra.frozen i
   go_upto_region 6 with fail
   have ra2:=ra.set i (.int .i64 (x:Nat))
   have rf2:=rf.setOther (a:=⟨g,i,none⟩) (by simpa using hfg) (.int .i64 (x:Nat))
   have hB2:=hB.setCell (p:=⟨g,i,none⟩) hgB (.int .i64 (x:Nat))
   have x2:=zab (p:=⟨g,i,none⟩) (u:=.int .i64 (x:Nat)) x0 hvg
   have u2:=zab (p:=⟨g,i,none⟩) (u:=.int .i64 (x:Nat)) u0 hug
   obtain ⟨w2,hw2⟩:∃ W,W=wr.setCell ⟨g,i,none⟩ (.int .i64 (x:Nat)):=⟨_,rfl⟩
   rw [<-hw2] at ra2 rf2 hB2 x2 u2 ⊢;clear hw2 ra rf hB x0 u0 y9 z9
   have ra:=ra2
   have rf:=rf2
   have hB:=hB2
   have x0:=x2
   have u0:=u2
   clear ra2 rf2 hB2 x2 u2
   by_cases hy0:y=0
   ·have hc:((y:Int) != 0)=false:=by simp [hy0]
    have HY0:=hid hy0
    have RA:=hid ra
    clear hy0 ra
    go_wp2
    go_roundg (gk - 1)
    case measure=>omega
    case rel =>
     refine ⟨i+1,by go_num,by omega,by omega,RA.out.congr fun t ht=>?_,rf,hB⟩
     by_cases e:t=i
     ·subst e; rw [if_pos rfl,if_pos (by omega)]; show _=Value.int .i64 ((atF P M m a v u t:Nat):Int); unfold atF; rw [if_pos (by rw [<-HY.out]; exact HY0.out),HX.out]
     ·rw [if_neg e]
      by_cases e2:t<i
      ·rw [if_pos e2,if_pos (by omega)]
      ·rw [if_neg e2,if_neg (by omega)]
   ·have hc:((y:Int) != 0)=true:=by simp; omega
    have q0:=qc0 rf
    have q1:=qc1 rf
    have q2:=qc2 rf
    go_wp2
    refine wp_region_held_drew (S:=fun w'=>w'.cell? ⟨w.heap.size,0,none⟩=some (.int .i64 (P:Nat))/\w'.cell? ⟨w.heap.size,1,none⟩=some (.int .i64 (M:Nat))/\w'.cell? ⟨w.heap.size,2,none⟩=some (.slice A k c)/\w'.cell? ⟨vb,vo+i,none⟩=some (.int .i64 (x:Nat))/\w'.cell? ⟨ub,uo+i,none⟩=some (.int .i64 (y:Nat))) (by kernel_rfl) ⟨cellS (Below.refl _ _).drew q0,cellS (Below.refl _ _).drew q1,cellS (Below.refl _ _).drew q2,cellS (Below.refl _ _).drew x0,cellS (Below.refl _ _).drew u0⟩ (fun hHeld=>?_)
    obtain ⟨w3,hw⟩:∃ W,W=World.drew w2:=⟨_,rfl⟩
    have kb:Below w2.heap.size w2 w3:=by rw [hw]; exact (Below.refl _ _).drew
    rw [<-hw] at hHeld ⊢;clear hw;replace ra:=zaa ra kb;replace rf:=zaa rf kb;replace hB:=onS hB kb;replace q0:=cellS kb q0;replace q1:=cellS kb q1;replace q2:=cellS kb q2;replace x0:=cellS kb x0;replace u0:=cellS kb u0;clear kb
    refine tkq 0 (h:=tkq 1 (h:=tkq 2 (h:=tkq 3 (h:=tkq 4 (h:=tkq 5 (h:=tkq 6 (h:=tkq 7 (h:=tkq 8 (h:=tkq 9 (h:=tkq 10 (h:=tkq 11 (h:=tkq 12 (h:=?_)))))))))))))
    refine rdq 13 (h:=fun K hK=>?_)
    go_simp
    go_wp2_with fail
    refine (zdi P M A k c m (a:Nat) (y:Nat) w3 hf (zav hm hB) hkM).mono ?_
    rintro e w4 ⟨rfl,kb⟩
    replace ra:=zaa ra kb;replace rf:=zaa rf kb;replace hB:=onS hB kb;replace q0:=cellS kb q0;replace q1:=cellS kb q1;replace q2:=cellS kb q2;replace x0:=cellS kb x0;replace u0:=cellS kb u0;clear kb;rw [hia,hiy]
    obtain ⟨r,hr⟩:∃ r,r=mulF P M m a y:=⟨_,rfl⟩
    have hrq:inV (P ^ M) (r:Nat)=r:=by rw [hr]; exact zaE (zaU (by have:=hf.1; omega) _ _)
    rw [<-hr]
    have HR:=hid hr
    clear hr
    refine bkq hK ⟨q0,q1,q2,x0,u0⟩ (h:=fun hHeld=>?_)
    clear hK K
    refine rdq 14 (h:=fun K hK=>?_)
    go_simp
    go_wp2_with fail
    refine (zhh P M A k c (x:Nat) (r:Nat) w4 hf).mono ?_
    rintro e w5 ⟨rfl,kb⟩
    replace ra:=zaa ra kb;replace rf:=zaa rf kb;replace hB:=onS hB kb;replace q0:=cellS kb q0;replace q1:=cellS kb q1;replace q2:=cellS kb q2;replace x0:=cellS kb x0;replace u0:=cellS kb u0;clear kb;rw [hix,hrq]
    obtain ⟨s,hs⟩:∃ s,s=addF P M x r:=⟨_,rfl⟩
    rw [<-hs]
    have HSS:=hid hs
    clear hs hrq
    refine bkq hK ⟨q0,q1,q2,x0,u0⟩ (h:=fun hHeld=>?_)
    clear hK K
    refine tkq 15 (h:=?_)
    refine rdq 16 (h:=fun K hK=>?_)
    have y0:=ra.cell hlt
    have z0:=ra.frozen i
    have ra9:=ra.set i (.int .i64 (s:Nat))
    have rf9:=rf.setOther (a:=⟨g,i,none⟩) (by simpa using hfg) (.int .i64 (s:Nat))
    have hB9:=hB.setCell (p:=⟨g,i,none⟩) hgB (.int .i64 (s:Nat))
    have q09:=zab (p:=⟨g,i,none⟩) (u:=.int .i64 (s:Nat)) q0 hfg
    have q19:=zab (p:=⟨g,i,none⟩) (u:=.int .i64 (s:Nat)) q1 hfg
    have q29:=zab (p:=⟨g,i,none⟩) (u:=.int .i64 (s:Nat)) q2 hfg
    have x09:=zab (p:=⟨g,i,none⟩) (u:=.int .i64 (s:Nat)) x0 hvg
    have u09:=zab (p:=⟨g,i,none⟩) (u:=.int .i64 (s:Nat)) u0 hug
    have RA:=hid ra9
    have RF:=hid rf9
    have HB9:=hid hB9
    have Hq0:=hid q09
    have Hq1:=hid q19
    have Hq2:=hid q29
    have Hx0:=hid x09
    have Hu0:=hid u09
    clear ra rf hB ra9 rf9 hB9 q0 q1 q2 x0 u0 q09 q19 q29 x09 u09
    go_simp
    clear y0 z0
    refine bkq hK ⟨Hq0.out,Hq1.out,Hq2.out,Hx0.out,Hu0.out⟩ (h:=fun hHeld=>?_)
    clear hK K
    refine wpAnyH_done (by kernel_rfl) ?_ _
    clear hHeld
    go_wp2
    go_roundg (gk - 1)
    case measure=>omega
    case rel =>
     refine ⟨i+1,by go_num,by omega,by omega,RA.out.congr fun t ht=>?_,RF.out,HB9.out⟩
     by_cases e:t=i
     ·subst e; rw [if_pos rfl,if_pos (by omega)]; show _=Value.int .i64 ((atF P M m a v u t:Nat):Int); unfold atF; rw [if_neg (by rw [<-HY.out]; omega),HSS.out,HR.out,HX.out,HY.out]
     ·rw [if_neg e]
      by_cases e2:t<i
      ·rw [if_neg e,if_pos e2,if_pos (by omega)]
      ·rw [if_neg e,if_neg e2,if_neg (by omega)]
  ·have hlt':¬ (i:Int)<(n:Int):=by omega
   obtain rfl:i=n:=by omega
   have hr:=ra.congr (g:=fun t=>.int .i64 (atF P M m a v u t:Nat)) fun t ht=>by rw [if_pos ht]
   clear ra
   go_wp2
   go_ret
   exact ⟨g,rfl,hgB,hr,hB⟩
theorem Tryz.infoInts:(Tryz.prog.info? 22).map (fun i=>(i.zero,i.size,i.bytes))=some (some (.slice none 0 0),1,24):=by kernel_rfl
def listCell (l:List Int) (k _j:Nat):Value:=.int .i64 (l.getD k 0)
def OwnL (w:World) (base:Nat) (R:Value) (l:List Int):Prop:=Own w base 3 1 R l.length (listCell l)
def TabL (w:World) (base:Nat) (v:Value) (L:List (List Int)):Prop :=
 ∃ R:Nat->Value,Own w base 22 1 v L.length (fun i _=>R i)/\∀ i,i<L.length->OwnL w base (R i) (L.getD i [])
theorem OwnL.on {w w':World} {base:Nat} {R:Value} {l:List Int} (h:OwnL w base R l) (hb:Below w.heap.size w w'):OwnL w' base R l:=Own.on h hb
theorem TabL.on {w w':World} {base:Nat} {v:Value} {L:List (List Int)} (h:TabL w base v L) (hb:Below w.heap.size w w'):TabL w' base v L:=by
 obtain ⟨R,h1,h2⟩:=h
 exact ⟨R,h1.on hb,fun i hi=>(h2 i hi).on hb⟩
theorem TabL.shape {w:World} {base:Nat} {v:Value} {L:List (List Int)} (h:TabL w base v L):∃ A c,v=.slice A L.length c:=h.choose_spec.1.shape
theorem Own.capL {w:World} {base e s n c:Nat} {A:Option Addr} {f:Nat->Nat->Value} (h:Own w base e s (.slice A n c) n f):n<=c/\c<=maxLen:=by
 rcases h with ⟨h,_⟩ | ⟨g,o,cap,cur,h1,_,_,h4,h5,_⟩
 ·injection h with h1 h2 h3
  subst h2 h3
  exact ⟨Nat.le_refl _,by unfold maxLen; omega⟩
 ·injection h1 with h1 h2 h3
  subst h3
  exact ⟨h4,h5⟩
theorem zc2 {w:World} {base e e' s s' n n':Nat} {v v':Value} {f f':Nat->Nat->Value} (h:Own w base e s v n f) (h':Own w base e' s' v' n' f') (hne:e≠e'):v'.ownBlock=none∨v'.ownBlock≠v.ownBlock:=by
 rcases h' with ⟨rfl,_⟩ | ⟨g',o',cap',cur',rfl,_,hg',_⟩
 ·exact .inl rfl
 ·refine .inr fun e1=>?_
  rcases h with ⟨rfl,_⟩ | ⟨g,o,cap,cur,rfl,_,hg,_⟩
  ·simp [Value.ownBlock] at e1
  ·simp [Value.ownBlock] at e1
   subst e1
   rw [hg] at hg'
   injection hg' with h1
   injection h1 with _ h1
   exact hne h1
theorem zaw {w:World} {o:Obj} {k:Nat} (h:k=w.heap.size):(w.alloc o).heap[k]?=some o:=by subst h; exact heap_alloc_new w o
def Cloned (e:TypeId) (s n:Nat) (f:Nat->Nat->Value) (w:World) (E:Ending) (w':World):Prop :=
 ∃ A c,E=.returned (.slice A n c)/\Own w' w.heap.size e s (.slice A n c) n f/\Below w.heap.size w w'
theorem zbx (A:Option Addr) (nn c:Nat) (f:Nat->Int) (w:World) (h:IntsR w w.heap.size A nn f) (hc:nn<=c) (hn:nn<=1048576) :
  Calls Tryz.prog 104 #[.slice A nn c] w (Cloned 3 1 nn (fun i _=>.int .i64 (f i)) w):=by
 obtain ⟨i0,qi0,qz0,qz1,qz2⟩:=info_parts Tryz.infoInt
 have hq:=fun (W:World) (a:Option Addr)=>Lib.run_eql_slice_nil (P:=Tryz.prog) W 22 3 a nn c 0 0 Tryz.underlying22
 cases A with
 | none =>
  have h0:nn=0:=by
   rcases Nat.eq_zero_or_pos nn with h0 | h0
   ·exact h0
   ·obtain ⟨b,o,e,_⟩:=h.at h0; cases e
  have H0:=hid h0
  clear h0
  go_enter Tryz.func104, Tryz.ntmps104
  go_wp2
  go_ret
  exact ⟨none,0,by rw [H0.out]; rfl,by rw [H0.out]; exact Own.nil _ _ _ _ _,Below.refl _ _⟩
 | some a =>
  obtain ⟨ab,ao,ap⟩:=a
  rcases Nat.eq_zero_or_pos nn with h0 | h0
  ·have H0:=hid h0
   obtain ⟨n,hn'⟩:∃ n,n=nn:=⟨_,rfl⟩
   have HN:=hid hn'
   rw [<-hn'] at h0 hc hn hq ⊢;clear hn' h
   subst h0
   go_enter Tryz.func104, Tryz.ntmps104
   go_wp2_with (first | (at_builtin; (refine zaD rfl (.tmp 5) (.tmp 6) _ rfl 3 i0 Tryz.underlying22 qi0 w.heap.size 0 rfl (some ⟨ab,ao,ap⟩) c rfl ?_)))
   go_ret
   exact ⟨_,_,rfl,.inr ⟨_,0,0,#[],rfl,Nat.le_refl _,zaw rfl,Nat.le_refl _,by unfold maxLen; omega,by simp,fun i hi=>absurd hi (by omega)⟩,(Below.refl _ _).alloc (Nat.le_refl _) _⟩
  ·have n3:Hid (nn<=maxLen):=by show _<=_; unfold maxLen; omega
   have n4:Hid (nn*8<=140737488355328):=by show _<=_; omega
   have NR:Hid (∀ o1,Rd (w.alloc o1) (w.alloc o1).heap.size (some ⟨ab,ao,ap⟩) nn 1 (fun i _=>.int .i64 (f i))):=fun o1=>(Rd.alloc h (Nat.le_refl _) o1).mono (by simp)
   go_enter Tryz.func104, Tryz.ntmps104
   go_wp2_with (first | (at_builtin; (refine zal rfl (.tmp 5) (.tmp 6) _ rfl 3 i0 _ 1 8 Tryz.underlying22 qi0 qz0 qz1 qz2 rfl (by omega) _ rfl (some ⟨ab,ao,ap⟩) nn c (fun i _=>.int .i64 (f i)) rfl (NR.out _) h0 (fun _ _ _ _=>rfl) n3.out n4.out ?_); intro cap cur k1 k2 k3 k4))
   go_ret
   have hO:=Own.new (w:=w.alloc (Obj.cells #[] 3)) (base:=w.heap.size) (e := 3) (by simp) k1 k2 k3 k4
   simp only [World.size_alloc] at hO
   exact ⟨_,_,rfl,hO.drew,(((Below.refl _ _).alloc (Nat.le_refl _) _).alloc (by simp) _).drew⟩
def MTab (w:World) (base:Nat) (v:Value) (n k:Nat) (W:Nat->Nat->Nat):Prop :=
 ∃ R:Nat->Value,Own w base 22 1 v n (fun i _=>R i)/\∀ i,i<n->Own w base 3 1 (R i) k (fun j _=>.int .i64 (W i j:Nat))
section
variable {w w':World} {base n k:Nat} {v:Value} {W W':Nat->Nat->Nat}
theorem MTab.nil (w:World) (base k:Nat) (W:Nat->Nat->Nat):MTab w base (.slice none 0 0) 0 k W:=⟨fun _=>undef,Own.nil _ _ _ _ _,fun i hi=>absurd hi (by omega)⟩
theorem MTab.on (h:MTab w base v n k W) (hb:Below w.heap.size w w'):MTab w' base v n k W:=by
 obtain ⟨R,h1,h2⟩:=h
 exact ⟨R,h1.on hb,fun i hi=>(h2 i hi).on hb⟩
theorem MTab.mono {b':Nat} (h:MTab w base v n k W) (hb:b'<=base):MTab w b' v n k W:=by
 obtain ⟨R,h1,h2⟩:=h
 exact ⟨R,h1.mono hb,fun i hi=>(h2 i hi).mono hb⟩
theorem MTab.shape (h:MTab w base v n k W):∃ A c,v=.slice A n c:=h.choose_spec.1.shape
theorem MTab.congr (h:MTab w base v n k W) (e:∀ i,i<n->∀ j,j<k->W i j=W' i j):MTab w base v n k W':=by
 obtain ⟨R,h1,h2⟩:=h
 exact ⟨R,h1,fun i hi=>(h2 i hi).congr fun j hj _ _=>by rw [e i hi j hj]⟩
theorem MTab.row {A:Option Addr} {N c i:Nat} (h:MTab w base (.slice A N c) n k W) (hi:i<n):∃ b o RA rc,A=some ⟨b,o,none⟩/\base<=b/\b<w.heap.size/\w.cell? ⟨b,o+i,none⟩=some (.slice RA k rc)/\w.frozen? ⟨b,o+i,none⟩=false/\Own w base 3 1 (.slice RA k rc) k (fun j _=>.int .i64 (W i j:Nat)):=by
 obtain ⟨R,h1,h2⟩:=h
 obtain ⟨A1,c1,e1⟩:=h1.shape
 injection e1 with e1 e2 e3
 subst e1 e2 e3
 obtain ⟨g,o,cap,e,hb1,hb2,_,_,hc⟩:=h1.form (by omega)
 injection e with e e3 e4
 subst e e4
 have g1:=hc i hi 0 (by omega)
 rw [Nat.mul_one,Nat.add_zero] at g1
 have hr:=h2 i hi
 obtain ⟨RA,rc,hR⟩:=hr.shape
 rw [hR] at hr
 exact ⟨g,o,RA,rc,rfl,hb1,hb2,by rw [g1,<-hR],h1.frozen _,hr⟩
theorem MTab.set {b o c i:Nat} {r:Value} {x:Nat->Nat} (h:MTab w base (.slice (some ⟨b,o,none⟩) n c) n k W) (hi:i<n) (hr:Own w base 3 1 r k (fun j _=>.int .i64 (x j:Nat))) :
  MTab (w.setCell ⟨b,o+i,none⟩ r) base (.slice (some ⟨b,o,none⟩) n c) n k (fun u=>if u=i then x else W u):=by
 obtain ⟨R,h1,h2⟩:=h
 have hs:=h1.set hi (by omega:0<1) r
 rw [Nat.mul_one,Nat.add_zero] at hs
 have hne:∀ v f,Own w base 3 1 v k f->v.ownBlock≠some b:=fun v f hv e=>by
  rcases zc2 h1 hv (by decide) with h3 | h3
  ·rw [h3] at e; cases e
  ·exact h3 (by rw [e]; rfl)
 refine ⟨fun u=>if u=i then r else R u,hs.congr fun u _ q hq=>?_,fun u hu=>?_⟩
 ·show (if u=i/\q=0 then r else R u)=if u=i then r else R u
  by_cases e:u=i
  ·rw [if_pos ⟨e,by omega⟩,if_pos e]
  ·rw [if_neg (fun h=>e h.1),if_neg e]
 ·show Own _ base _ 1 (if u=i then r else R u) k _
  by_cases e:u=i
  ·rw [if_pos e]
   simp only [if_pos e]
   exact hr.setCell (hne _ _ hr) r
  ·rw [if_neg e]
   simp only [if_neg e]
   exact (h2 u hu).setCell (hne _ _ (h2 u hu)) r
theorem zaz {ops:Array Oper} {rest:List Oper} {o:Oper} {a:Act} {Q:Exit->Act->World->Prop} (hgd:o.guard=none) (sl x:Operand)
  (ho:o.op=.call { callee:=.builtin .append,args:=#[sl,x],argTypes:=#[25, 25] })
  (h:MTab w base v n k W) (hv:a.eval sl=v) {ad:Addr} {c:Nat} {r:Value} {y:Nat->Nat} (hx:a.eval x=.slice (some ad) 1 c)
  (hcell:w.cell? (ad.add 0)=some r) (h1:r.oneCell'=true) (hrow:Own w base 3 1 r k (fun j _=>.int .i64 (y j:Nat))) (hbase:base<=w.heap.size) (hN:n<=1048576)
  (K:∀ v' w',MTab w' base v' (n+1) k (fun u=>if u=n then y else W u)->w.grownBy w' v.ownBlock->(∀ q,v.ownBlock=some q->base<=q)->wpList Tryz.prog ops Q rest (a.put o.dst v') w'):wpList Tryz.prog ops Q (o :: rest) a w:=by
 obtain ⟨R,hA,hB⟩:=h
 obtain ⟨i0,qi0,qz0,qz1,qz2⟩:=info_parts Tryz.infoInts
 have hown:Own w base 22 1 v n (fun i _=>if i=n then r else R i):=hA.congr fun i hi _ _=>by rw [if_neg (by omega)]
 refine zaK w hgd sl x _ ho base 22 i0 _ 1 24 Tryz.underlying25 qi0 qz0 qz1 qz2 rfl (by omega) v n _ hv hown ad c hx (fun j hj=>by
   obtain rfl:j=0:=by omega
   rw [if_pos rfl]
   exact hcell) (fun _ _=>by rw [if_pos rfl]; exact h1) (by unfold maxLen; omega) (by omega) hbase ?_
 intro v' w3 hown3 hg3 _
 have ne:(22 : Nat) ≠ 3 := by decide
 refine K v' w3 ⟨fun i=>if i=n then r else R i,hown3,fun i hi=>?_⟩ hg3 (fun q e=>(hA.lt q e).1)
 show Own w3 base _ 1 (if i=n then r else R i) k _
 by_cases e:i=n
 ·rw [if_pos e]
  simp only [if_pos e]
  exact hrow.kept hg3 (zc2 hA hrow ne)
 ·rw [if_neg e]
  simp only [if_neg e]
  exact (hB i (by omega)).kept hg3 (zc2 hA (hB i (by omega)) ne)
end
theorem tbox2 {w:World} {v:Value} {t:TypeId}:(w.alloc (Obj.cells #[v] t)).cell? ((⟨w.heap.size,0,none⟩:Addr).add 0)=some v:=by
 show (w.alloc (Obj.cells #[v] t)).cell? ⟨w.heap.size,0,none⟩=some v
 simp
def MRows (w:World) (T:Option Addr) (n k:Nat) (W:Nat->Nat->Nat):Prop:=IntRows w T n (fun _=>k) (fun i j=>(W i j:Nat))
def MPost (n k:Nat) (W:Nat->Nat->Nat) (w:World) (e:Ending) (w':World):Prop:=∃ v,e=.returned v/\MTab w' w.heap.size v n k W/\Below w.heap.size w w'
theorem zge (T:Option Addr) (n k c:Nat) (W:Nat->Nat->Nat) (w:World) (h:MRows w T n k W) (hk:0<k) (hk2:k<=1048576) (hn:n<=1048576) :
  Calls Tryz.prog 216 #[.slice T n c] w (MPost n k W w):=by
 have HR:=hid h
 have H0:=hid (MTab.nil w w.heap.size k W)
 obtain ⟨i0,qi0,qz0,qz1,qz2⟩:=info_parts Tryz.infoInt
 have n3:Hid (k<=maxLen):=by show _<=_; unfold maxLen; omega
 have n4:Hid (k*8<=140737488355328):=by show _<=_; omega
 clear h
 go_enter Tryz.func216, Tryz.ntmps216
 go_wp2
 obtain ⟨nv,hnv⟩:∃ x:Value,x=.slice none 0 0:=⟨_,rfl⟩
 rw [<-hnv] at H0 ⊢;clear hnv
 go_loopg [3,4] n (fun gg mv iv wx=>∃ i:Nat,iv=.int .i64 (i:Nat)/\i<=n/\n<=i+gg/\Hid (MTab wx w.heap.size mv i k W)/\Below w.heap.size w wx)
 case atStart=>exact ⟨0,rfl,by omega,by omega,H0,Below.refl _ _⟩
 case round =>
  clear H0
  obtain ⟨i,rfl,hi,hig,HM,hB⟩:=hrel
  have hi0:(0:Int)<=(i:Int):=by omega
  by_cases hlt:i<n
  ·have hlt':(i:Int)<(n:Int):=by omega
   obtain ⟨b,o,RA,rc,hT,hb,x0,_,_,hrow,_⟩:=HR.out i hlt
   subst hT
   have kb1:Below wr.heap.size wr (wr.alloc (Obj.cells #[] 3)):=(Below.refl _ _).alloc (Nat.le_refl _) _
   have hB1:=onS hB kb1
   have x1:=(hB1.cell (p:=⟨b,o+i,none⟩) hb).trans x0
   have hrd:Rd (wr.alloc (Obj.cells #[] 3)) (wr.alloc (Obj.cells #[] 3)).heap.size RA k 1 (fun j _=>.int .i64 (W i j:Nat)):=hrow.on hB1
   have HRD:=hid hrd
   have x2:=(hB.cell (p:=⟨b,o+i,none⟩) hb).trans x0
   clear hrd hrow x0 kb1
   have HL:Hid (i<=1048576):=by show _<=_; omega
   have hzz:=hB.size
   go_upto_region 4 with (first | (at_builtin; (refine zal rfl (.tmp 12) (.tmp 16) _ rfl 3 i0 _ 1 8 Tryz.underlying22 qi0 qz0 qz1 qz2 rfl (by omega) _ rfl RA k rc (fun j _=>.int .i64 (W i j:Nat)) rfl HRD.out hk (fun _ _ _ _=>rfl) n3.out n4.out ?_); intro cap cur k1 k2 k3 k4; obtain ⟨w2,hw2⟩:∃ W',W'=(wr.alloc (Obj.cells #[] 3)).drew.alloc (Obj.cells cur 3):=⟨_,rfl⟩; rw [<-hw2]; have hO:=Own.new (w:=(wr.alloc (Obj.cells #[] 3)).drew) (base:=w.heap.size) (e := 3) (s:=1) (f:=fun j _=>.int .i64 (W i j:Nat)) (by simp; omega) k1 k2 k3 k4; have hsz:(wr.alloc (Obj.cells #[] 3)).drew.heap.size=wr.heap.size+1:=(by show (wr.alloc (Obj.cells #[] 3)).heap.size=_; simp); rw [<-hw2,hsz] at hO; have kb2:Below wr.heap.size wr w2:=(by rw [hw2]; exact (((Below.refl wr.heap.size wr).alloc (Nat.le_refl _) _).drew).alloc (by simp) _); have kb3:Below w2.heap.size w2 (w2.alloc (Obj.cells #[.slice (some ⟨wr.heap.size+1,0,none⟩) k cap] 22)):=(Below.refl _ _).alloc (Nat.le_refl _) _; have HO2:=hid (hO.on kb3); have HM2:=hid ((HM.out.on kb2).on kb3); have HB2:=hid (onS (onS hB kb2) kb3); have HZ2:=hid HB2.out.size; have HC2:Hid ((w2.alloc (Obj.cells #[.slice (some ⟨wr.heap.size+1,0,none⟩) k cap] 22)).cell? ((⟨w2.heap.size,0,none⟩:Addr).add 0)=some (.slice (some ⟨wr.heap.size+1,0,none⟩) k cap)):=tbox2 ; clear hO kb2 kb3 hw2 hsz) | (at_builtin; (refine zaz rfl (.tmp 11) (.tmp 18) rfl HM2.out rfl (ad:=⟨w2.heap.size,0,none⟩) (c:=1) rfl HC2.out rfl HO2.out HZ2.out HL.out ?_); intro v9 w9 o1 o2 o3))
   have HM9:=hid (o1.congr (W':=W) fun u hu j _=>by
    by_cases e:u=i
    ·subst e; rw [if_pos rfl]
    ·rw [if_neg e])
   have HB9:=hid (HB2.out.grown o2 HZ2.out o3)
   clear o1 o2 o3
   go_wp2
   go_roundg (gk - 1)
   case measure=>omega
   case rel=>exact ⟨i+1,by go_num,by omega,by omega,HM9,HB9.out⟩
  ·have hlt':¬ (i:Int)<(n:Int):=by omega
   obtain rfl:i=n:=by omega
   go_wp2
   go_ret
   exact ⟨_,rfl,HM.out,hB⟩
theorem zau {w:World} {b n base:Nat} {t:TypeId} {F:Nat->Value} (h:w.rowIs b t n F) (hb:base<=b) (hn:n<=maxLen):Own w base t 1 (.slice (some ⟨b,0,none⟩) n n) n (fun i _=>F i):=by
 obtain ⟨cs,h1,h2,h3⟩:=h
 refine .inr ⟨b,0,n,cs,rfl,hb,h1,Nat.le_refl _,hn,by omega,fun i hi j hj=>?_⟩
 obtain rfl:j=0:=by omega
 have h4:=h3 i hi
 rw [show 0+i*1+0=i by omega]
 rw [h4]
def MTabX (w:World) (base:Nat) (v:Value) (n k:Nat) (W:Nat->Nat->Nat) (z:Value):Prop :=
 ∃ R:Nat->Value,Own w base 22 1 v n (fun i _=>R i)/\∀ i,i<n->Own w base 3 1 (R i) k (fun j _=>.int .i64 (W i j:Nat))/\((R i).ownBlock=none∨(R i).ownBlock≠z.ownBlock)
section
variable {w w':World} {base n k:Nat} {v z:Value} {W W':Nat->Nat->Nat}
theorem MTab.x (h:MTab w base v n k W) (hz:z.ownBlock=none):MTabX w base v n k W z:=by
 obtain ⟨R,h1,h2⟩:=h
 refine ⟨R,h1,fun i hi=>⟨h2 i hi,?_⟩⟩
 rw [hz]
 cases e:(R i).ownBlock with
 | none=>exact .inl rfl
 | some q=>exact .inr (by simp)
theorem MTabX.tab (h:MTabX w base v n k W z):MTab w base v n k W:=by
 obtain ⟨R,h1,h2⟩:=h
 exact ⟨R,h1,fun i hi=>(h2 i hi).1⟩
theorem MTabX.on (h:MTabX w base v n k W z) (hb:Below w.heap.size w w'):MTabX w' base v n k W z:=by
 obtain ⟨R,h1,h2⟩:=h
 exact ⟨R,h1.on hb,fun i hi=>⟨(h2 i hi).1.on hb,(h2 i hi).2⟩⟩
theorem MTabX.mono {b':Nat} (h:MTabX w base v n k W z) (hb:b'<=base):MTabX w b' v n k W z:=by
 obtain ⟨R,h1,h2⟩:=h
 exact ⟨R,h1.mono hb,fun i hi=>⟨(h2 i hi).1.mono hb,(h2 i hi).2⟩⟩
theorem MTabX.congr (h:MTabX w base v n k W z) (e:∀ i,i<n->∀ j,j<k->W i j=W' i j):MTabX w base v n k W' z:=by
 obtain ⟨R,h1,h2⟩:=h
 exact ⟨R,h1,fun i hi=>⟨(h2 i hi).1.congr fun j hj _ _=>by rw [e i hi j hj],(h2 i hi).2⟩⟩
theorem MTabX.row {A:Option Addr} {N c i:Nat} (h:MTabX w base (.slice A N c) n k W z) (hi:i<n):∃ b o RA rc,A=some ⟨b,o,none⟩/\base<=b/\b<w.heap.size/\w.cell? ⟨b,o+i,none⟩=some (.slice RA k rc)/\w.frozen? ⟨b,o+i,none⟩=false /\
  Own w base 3 1 (.slice RA k rc) k (fun j _=>.int .i64 (W i j:Nat))/\((Value.slice RA k rc).ownBlock=none∨(Value.slice RA k rc).ownBlock≠z.ownBlock):=by
 obtain ⟨R,h1,h2⟩:=h
 obtain ⟨A1,c1,e1⟩:=h1.shape
 injection e1 with e1 e2 e3
 subst e1 e2 e3
 obtain ⟨g,o,cap,e,hb1,hb2,_,_,hc⟩:=h1.form (by omega)
 injection e with e e3 e4
 subst e e4
 have g1:=hc i hi 0 (by omega)
 rw [Nat.mul_one,Nat.add_zero] at g1
 have hr:=h2 i hi
 obtain ⟨RA,rc,hR⟩:=hr.1.shape
 rw [hR] at hr
 exact ⟨g,o,RA,rc,rfl,hb1,hb2,by rw [g1,<-hR],h1.frozen _,hr.1,hr.2⟩
theorem MTabX.keep {b o c i m:Nat} {r u:Value} {f:Nat->Nat->Value} (h:MTabX w base (.slice (some ⟨b,o,none⟩) n c) n k W z) (hu:Own w base 3 1 u m f):Own (w.setCell ⟨b,o+i,none⟩ r) base 3 1 u m f:=by
 obtain ⟨R,h1,_⟩:=h
 refine hu.setCell (fun e=>?_) r
 rcases zc2 h1 hu (by decide) with h3 | h3
 ·rw [h3] at e; cases e
 ·exact h3 (by rw [e]; rfl)
theorem MTabX.set {b o c i:Nat} {r:Value} {x:Nat->Nat} (h:MTabX w base (.slice (some ⟨b,o,none⟩) n c) n k W z) (hi:i<n) (hr:Own w base 3 1 r k (fun j _=>.int .i64 (x j:Nat))) (hz:r.ownBlock=none∨r.ownBlock≠z.ownBlock) :
  MTabX (w.setCell ⟨b,o+i,none⟩ r) base (.slice (some ⟨b,o,none⟩) n c) n k (fun u=>if u=i then x else W u) z:=by
 have hk:=h
 obtain ⟨R,h1,h2⟩:=h
 have hs:=h1.set hi (by omega:0<1) r
 rw [Nat.mul_one,Nat.add_zero] at hs
 refine ⟨fun u=>if u=i then r else R u,hs.congr fun u _ q hq=>?_,fun u hu=>⟨?_,?_⟩⟩
 ·show (if u=i/\q=0 then r else R u)=if u=i then r else R u
  by_cases e:u=i
  ·rw [if_pos ⟨e,by omega⟩,if_pos e]
  ·rw [if_neg (fun h=>e h.1),if_neg e]
 ·show Own _ base _ 1 (if u=i then r else R u) k _
  by_cases e:u=i
  ·rw [if_pos e]
   simp only [if_pos e]
   exact hk.keep hr
  ·rw [if_neg e]
   simp only [if_neg e]
   exact hk.keep (h2 u hu).1
 ·show (if u=i then r else R u).ownBlock=none∨(if u=i then r else R u).ownBlock≠z.ownBlock
  split
  ·exact hz
  ·exact (h2 u hu).2
theorem MTabX.grown {z':Value} {m:Nat} {f:Nat->Nat->Value} (h:MTabX w base v n k W z) (hz:Own w base 3 1 z m f) (hg:w.grownBy w' z.ownBlock) (ha:z'.ownBlock=z.ownBlock∨z'.ownBlock=some w.heap.size):MTabX w' base v n k W z':=by
 obtain ⟨R,h1,h2⟩:=h
 have hne:v.ownBlock=none∨v.ownBlock≠z.ownBlock:=zc2 hz h1 (by decide)
 refine ⟨R,h1.kept hg hne,fun i hi=>⟨(h2 i hi).1.kept hg (h2 i hi).2,?_⟩⟩
 rcases ha with ha | ha
 ·rw [ha]; exact (h2 i hi).2
 ·cases e:(R i).ownBlock with
  | none=>exact .inl rfl
  | some q =>
   refine .inr ?_
   rw [ha]
   intro e2
   injection e2 with e2
   have:=((h2 i hi).1.lt q e).2
   omega
theorem zbE {w:World} {base m g n:Nat} {f:Nat->Nat->Value} (hz:Own w base 3 1 z m f) (hg:w.heap.size<=g):(Value.slice (some ⟨g,0,none⟩) n n).ownBlock=none∨(Value.slice (some ⟨g,0,none⟩) n n).ownBlock≠z.ownBlock:=by
 refine .inr fun e=>?_
 have:=(hz.lt g e.symm).2
 omega
end
theorem zaA {w:World} {ops:Array Oper} {rest:List Oper} {o:Oper} {a:Act} {Q:Exit->Act->World->Prop} (hgd:o.guard=none) (sl x:Operand)
  (ho:o.op=.call { callee:=.builtin .append,args:=#[sl,x],argTypes:=#[22, 22] })
  {base n:Nat} {v:Value} {p:Nat->Nat} (h:Own w base 3 1 v n (fun j _=>.int .i64 (p j:Nat))) (hv:a.eval sl=v) {ad:Addr} {c:Nat} {r:Nat} (hx:a.eval x=.slice (some ad) 1 c)
  (hcell:w.cell? (ad.add 0)=some (.int .i64 (r:Nat))) (hbase:base<=w.heap.size) (hN:n<=1048576)
  (K:∀ v' w',Own w' base 3 1 v' (n+1) (fun j _=>.int .i64 ((if j=n then r else p j:Nat):Nat))->w.grownBy w' v.ownBlock->(v'.ownBlock=v.ownBlock∨v'.ownBlock=some w.heap.size)->wpList Tryz.prog ops Q rest (a.put o.dst v') w'):wpList Tryz.prog ops Q (o :: rest) a w:=by
 obtain ⟨i0,qi0,qz0,qz1,qz2⟩:=info_parts Tryz.infoInt
 refine zaK w hgd sl x _ ho base 3 i0 _ 1 8 Tryz.underlying22 qi0 qz0 qz1 qz2 rfl (by omega) v n _ hv (h.congr fun i hi j _=>by rw [if_neg (by omega)]) ad c hx (fun j hj=>by
   obtain rfl:j=0:=by omega
   rw [if_pos rfl]
   exact hcell) (fun _ _=>rfl) (by unfold maxLen; omega) (by omega) hbase K
end Go.Proofs.YtioagplajkoohaaGreat