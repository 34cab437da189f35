/- Merged texts of a claim: Rank47, RankPl, Rank, FewT, From, Accepts47, RenMath, MinPl, PowS, PowPl, Fits, SecPl, SortLay. -/
import Derived.Test.YtgekjfpapmlndaaGreatTX13
import Derived.Shelf.SlSortCmp.WholeK
import Derived.Shelf.SlSortCmp.Whole1
import Derived.Shelf.SlSortCmp.NoneTotal
import Derived.Shelf.SlicesG.Cmp
import Derived.Ground.SlgcProg
namespace Go.Proofs.YtgekjfpapmlndaaGreat
set_option maxRecDepth 100000
set_option maxHeartbeats 32000000
open KA KB KC KD KE KF
open Go.RowKit Go.ChangeShapes Go.WideShapes Go.ChangeAt
theorem ziU {w:World} {B n m:Nat} {A:Option Addr} {f:Nat->Int} (h:IntsR w B A n f) (hm:m<=n):IntsR w B A m f:=fun i hi=>h i (by omega)
theorem ziV {w:World} {B n b o s:Nat} {f:Nat->Int} (h:IntsR w B (some ⟨b,o,none⟩) n f) (hs:s<=n):IntsR w B (some ⟨b,o+s,none⟩) (n - s) (fun j=>f (s+j)):=fun j hj=>by
 obtain ⟨b',o',e,hb,hc⟩:=h (s+j) (by omega)
 injection e with e
 injection e with e1 e2
 subst e1 e2
 refine ⟨b,o+s,rfl,hb,fun q hq=>?_⟩
 have h2:=hc q hq
 rw [show o+s+j*1+q=o+(s+j)*1+q by omega]
 exact h2
theorem zbb {w:World} {ops:Array Oper} {rest:List Oper} {o:Oper} {a:Act} {Q:Exit->Act->World->Prop} (hgd:o.guard=none) (sl x:Operand)
  (ho:o.op=.call { callee:=.builtin .append,args:=#[sl,x],argTypes:=#[25, 25] })
  {base n:Nat} {v:Value} {R:Nat->Value} (h:Own w base 22 1 v n (fun i _=>R i)) (hv:a.eval sl=v) {ad:Addr} {c:Nat} {r:Value} (hx:a.eval x=.slice (some ad) 1 c)
  (hcell:w.cell? (ad.add 0)=some r) (h1:r.oneCell'=true) (hbase:base<=w.heap.size) (hN:n<=1048576)
  (K:∀ v' w',Own w' base 22 1 v' (n+1) (fun i _=>if i=n then r else R i)->w.grownBy w' v.ownBlock->wpList Tryz.prog ops Q rest (a.put o.dst v') w'):wpList Tryz.prog ops Q (o :: rest) a w:=by
 obtain ⟨i0,qi0,qz0,qz1,qz2⟩:=info_parts Tryz.infoInts
 have b:Own w base 22 1 v n (fun i _=>if i=n then r else R i):=h.congr fun i hi _ _=>by rw [if_neg (by omega)]
 refine zah w hgd sl x _ ho base 22 i0 _ 1 24 Tryz.underlying25 qi0 qz0 qz1 qz2 rfl (by omega) v n _ hv b ad c hx (fun j hj=>by
   obtain rfl:j=0:=by omega
   rw [if_pos rfl]
   exact hcell) (fun _ _=>by rw [if_pos rfl]; exact h1) (by unfold maxLen; omega) (by omega) hbase ?_
 intro v' w3 hown3 hg3 _
 exact K v' w3 hown3 hg3
theorem zcI {w:World} {ops:Array Oper} {rest:List Oper} {o:Oper} {a:Act} {Q:Exit->Act->World->Prop} (hgd:o.guard=none) (sl x:Operand)
  (ho:o.op=.call { callee:=.builtin .append,args:=#[sl,x],argTypes:=#[22, 22] }) (b0 o0:Nat) (hv:a.eval sl=.slice (some ⟨b0,o0,none⟩) 0 0)
  (A:Option Addr) (c:Nat) (hx:a.eval x=.slice A 0 c) (h:wpList Tryz.prog ops Q rest (a.put o.dst (.slice (some ⟨b0,o0,none⟩) 0 0)) w):wpList Tryz.prog ops Q (o :: rest) a w:=by
 obtain ⟨i0,qi0,qz0,qz1,qz2⟩:=info_parts Tryz.infoInt
 refine wpList_plain hgd fun K hK=>?_
 have b:=zaP (P:=Tryz.prog) w 22 o.type 3 i0 Tryz.underlying22 qi0 b0 o0 A c
 unfold Oper.wp execOp
 simp only [ho,resolve,invoke,builtin,Sem.run_bind,Sem.run_pure,Result.andThen_ok,List.map_toArray,List.map_cons,List.map_nil,hv,hx,b]
 exact hK _ _ h
theorem ziW (T:Option Addr) (n c:Nat) (W:Nat->Nat->Nat) (w:World) (h:MRows w T n 0 W) (hn:n<=1048576) :
  Calls Tryz.prog 224 #[.slice T n c] w fun e w'=>∃ A c',e=.returned (.slice A n c')/\n<=c'/\Below w.heap.size w w':=by
 have HR:=hid h
 have H0:Hid (∃ R:Nat->Value,Own w w.heap.size 22 1 (.slice none 0 0) 0 (fun i _=>R i)):=hid ⟨fun _=>undef,Own.nil _ _ _ _ _⟩
 clear h
 go_enter Tryz.func224, Tryz.ntmps224
 go_wp2
 obtain ⟨nv,k⟩:∃ x:Value,x=.slice none 0 0:=⟨_,rfl⟩
 rw [<-k] at H0 ⊢;clear k
 go_loopg [3,4] n (fun gg mv iv wx=>∃ i:Nat,iv=.int .i64 (i:Nat)/\i<=n/\n<=i+gg/\Hid (∃ R:Nat->Value,Own wx w.heap.size 22 1 mv i (fun i _=>R i))/\Below w.heap.size w wx)
 case atStart=>exact ⟨0,rfl,by omega,by omega,H0,Below.refl _ _⟩
 clear H0
 obtain ⟨i,rfl,hi,B,HM,hB⟩:=hrel
 have C:(0:Int)<=(i:Int):=by omega
 by_cases hlt:i<n
 rotate_left
 ·have g:¬ (i:Int)<(n:Int):=by omega
  obtain rfl:i=n:=by omega
  obtain ⟨R,hR⟩:=HM.out
  obtain ⟨A,c',rfl⟩:=hR.shape
  have u:=hR.capL
  go_wp2
  go_ret
  exact ⟨A,c',rfl,u.1,hB⟩
 have g:(i:Int)<(n:Int):=by omega
 obtain ⟨b,o,RA,rc,hT,hb,x0,_,_,s,_⟩:=HR.out i hlt
 subst hT
 have d:=aly wr (Obj.cells #[] 3)
 have j:=onS hB d
 have x1:=(j.cell (p:=⟨b,o+i,none⟩) hb).trans x0
 have x2:=(hB.cell (p:=⟨b,o+i,none⟩) hb).trans x0
 have a:Below (wr.alloc (Obj.cells #[] 3)).heap.size (wr.alloc (Obj.cells #[] 3)) ((wr.alloc (Obj.cells #[] 3)).alloc (Obj.cells #[.slice (some ⟨wr.heap.size,0,none⟩) 0 0] 22)):=(Below.refl _ _).alloc (Nat.le_refl _) _
 obtain ⟨R,hR⟩:=HM.out
 have m:=hid ((hR.on d).on a)
 have r:=hid (onS j a)
 have l:=hid r.out.size
 have y:Hid (((wr.alloc (Obj.cells #[] 3)).alloc (Obj.cells #[.slice (some ⟨wr.heap.size,0,none⟩) 0 0] 22)).cell? ((⟨wr.heap.size+1,0,none⟩:Addr).add 0)=some (.slice (some ⟨wr.heap.size,0,none⟩) 0 0)):=by
  have h1:(wr.alloc (Obj.cells #[] 3)).heap.size=wr.heap.size+1:=by simp
  rw [<-h1]
  exact hid tbox2
 have HL:Hid (i<=1048576):=by show _<=_; omega
 clear d a hR HM j
 go_upto_region 4 with (first | (at_builtin; (refine zcI rfl (.tmp 12) (.tmp 16) rfl wr.heap.size 0 rfl RA rc rfl ?_)) | (at_builtin; (refine zbb rfl (.tmp 11) (.tmp 18) rfl m.out rfl (ad:=⟨wr.heap.size+1,0,none⟩) (c:=1) rfl y.out rfl l.out HL.out ?_); intro v9 w9 o1 o2))
 have v:Hid (∃ R:Nat->Value,Own w9 w.heap.size 22 1 v9 (i+1) (fun i _=>R i)):=hid ⟨_,o1⟩
 have z:=hid (r.out.grown o2 l.out (fun q e=>(m.out.lt q e).1))
 clear o1 o2
 go_wp2
 go_roundg (gk - 1)
 case measure=>omega
 case rel=>exact ⟨i+1,by go_num,by omega,by omega,v,z.out⟩
theorem ziX (P M:Int) (A:Option Addr) (k c:Nat) (T:Option Addr) (n d:Nat) (W:Nat->Nat->Nat) (w:World) (h:MRows w T n 0 W) (hn:n<=1048576) :
  Calls Tryz.prog 191 #[.agg #[.int .i64 P,.int .i64 M,.slice A k c],.slice T n d,.int .i64 0] w fun e w'=>∃ A c',e=.returned (.tuple #[.slice A n c',.slice none 0 0])/\n<=c'/\Below w.heap.size w w':=by
 have HR:=hid h
 clear h
 have hB:=aly w (.cells #[.int .i64 P,.int .i64 M,.slice A k c] 24)
 obtain ⟨w0,a⟩:=exx (w.alloc (.cells #[.int .i64 P,.int .i64 M,.slice A k c] 24))
 rw [<-a] at hB
 have HB:=hid hB
 clear hB
 go_enter Tryz.func191, Tryz.ntmps191
 go_upto_region 1 with fail
 rw [<-a];clear a
 go_wp2_with fail
 refine (ziW T n d W w0 (IntRows.on HR.out HB.out) hn).mono ?_
 rintro e w1 ⟨A1,c1,rfl,b,kb⟩
 replace HB:=hid (onS HB.out kb)
 have i:=hid b
 clear kb b
 go_upto_region 5 with fail
 go_loopg [9,11] 0 (fun gg pv cv wx=>pv=.slice none 0 0/\cv=.int .i64 0/\wx=w1)
 case atStart=>exact ⟨rfl,rfl,rfl⟩
 obtain ⟨rfl,rfl,g⟩:=hrel
 obtain rfl:w1=wr:=g.symm
 go_wp2
 go_ret2
 exact ⟨A1,c1,rfl,i.out,HB.out⟩
theorem zhM (P M:Int) (A:Option Addr) (k c:Nat) (T:Option Addr) (n d:Nat) (W:Nat->Nat->Nat) (w:World) (h:MRows w T n 0 W) (hn:n<=1048576) :
  Calls Tryz.prog 136 #[.agg #[.int .i64 P,.int .i64 M,.slice A k c],.slice T n d,.int .i64 0] w fun e w'=>∃ v,e=.returned (.tuple #[v,.slice none 0 0])/\Below w.heap.size w w':=by
 have HR:=hid h
 clear h
 obtain ⟨w0,a,hB,rf⟩:=zaq w (.int .i64 P) (.int .i64 M) (.slice A k c) 24
 have HB:=hid hB
 clear hB
 go_enter Tryz.func136, Tryz.ntmps136
 go_upto_region 1 with fail
 rw [<-a];clear a
 have q0:=qc0 rf
 have q1:=qc1 rf
 have q2:=qc2 rf
 clear rf
 go_wp2_with fail
 refine (ziX P M A k c T n d W w0 (IntRows.on HR.out HB.out) hn).mono ?_
 rintro e w1 ⟨A1,c1,rfl,b,kb⟩
 replace HB:=hid (onS HB.out kb);clear kb q0 q1 q2
 have g:0<=c1:=Nat.zero_le _
 cases A1 with
 | none =>
  go_wp2
  go_ret2
  exact ⟨_,rfl,HB.out⟩
 | some a1 =>
  go_wp2
  go_ret2
  exact ⟨_,rfl,HB.out⟩
def RankIs (q:Nat) (add mul:Nat->Nat->Nat) (n:Nat) (V:Nat->Nat->Nat) (lo m a:Nat):Prop:=∃ p W,EchN q n m m a p W/\RowOps q add mul n m (fun i j=>V i (lo+j)) W
theorem zco (P M:Nat) (m:Nat->Nat) (A:Option Addr) (k c N:Nat) (T:Option Addr) (n d:Nat) (V:Nat->Nat->Nat) (lo hi:Nat) (w:World) (h:CodeR w P M m A k N T n V) (hlh:lo<=hi) (hhN:hi<=N) :
  Calls Tryz.prog 72 #[.agg #[.int .i64 (P:Nat),.int .i64 (M:Nat),.slice A k c,.int .i64 (N:Nat),.slice T n d],.int .i64 (lo:Nat),.int .i64 (hi:Nat)] w fun e w'=>∃ a:Nat,e=.returned (.int .i64 (a:Nat))/\RankIs (P ^ M) (addF P M) (mulF P M m) n V lo (hi - lo) a/\Below w.heap.size w w':=by
 have HC:=hid h
 have ac:=h.ln2
 have ai:=h.n_le
 clear h
 obtain ⟨w1,J,hB,rf⟩:=zaE w (.int .i64 (P:Nat)) (.int .i64 (M:Nat)) (.slice A k c) (.int .i64 (N:Nat)) (.slice T n d) 27
 go_enter Tryz.func72, Tryz.ntmps72
 go_upto_region 1 with fail
 rw [<-J];clear J
 obtain ⟨b0,D⟩:=exx w.heap.size
 rw [<-D] at rf;rw [<-D];clear D
 have H:Hid (∀ X,Below w1.heap.size w1 X->(X.cell? ⟨b0,0,none⟩=some (.int .i64 (P:Nat))/\X.cell? ⟨b0,1,none⟩=some (.int .i64 (M:Nat))/\X.cell? ⟨b0,2,none⟩=some (.slice A k c)/\X.cell? ⟨b0,3,none⟩=some (.int .i64 (N:Nat))/\X.cell? ⟨b0,4,none⟩=some (.slice T n d))):=hid fun X hx =>
  ⟨(zab rf hx).cell (i:=0) (by omega),(zab rf hx).cell (i:=1) (by omega),(zab rf hx).cell (i:=2) (by omega),(zab rf hx).cell (i:=3) (by omega),(zab rf hx).cell (i:=4) (by omega)⟩
 have HB:=hid hB
 clear hB rf
 go_upto_region 2 with fail
 have kb:=(Below.refl w1.heap.size w1).alloc (Nat.le_refl _) (Obj.cells #[] 22)
 have HO:Hid (Own (w1.alloc (Obj.cells #[] 22)) w1.heap.size 22 1 (.slice (some ⟨w1.heap.size,0,none⟩) 0 0) 0 (fun _ _=>undef)):=hid (Own.new (Nat.le_refl _) (Nat.le_refl _) (by unfold maxLen; omega) (by simp) fun k hk=>absurd hk (by omega))
 obtain ⟨w2,I⟩:=exx (w1.alloc (Obj.cells #[] 22))
 rw [<-I] at HO kb ⊢
 obtain ⟨v0,K⟩:∃ v:Value,v=.slice (some ⟨w1.heap.size,0,none⟩) 0 0:=⟨_,rfl⟩
 rw [<-K] at HO ⊢
 have K2:=hid kb
 clear kb I K
 go_upto_region 3 with fail
 go_loopg [7,8] n (fun gg tv iv wx=>∃ (i:Nat) (R:Nat->Value),iv=.int .i64 (i:Nat)/\i<=n/\n<=i+gg/\Hid (Own wx w1.heap.size 22 1 tv i (fun u _=>R u))/\Hid (∀ u,u<i->∃ X c,R u=.slice X (hi - lo) c/\hi - lo<=c/\c<=maxLen/\IntsR w1 w1.heap.size X (hi - lo) (fun j=>((V u (lo+j):Nat):Int)))/\Below w1.heap.size w1 wx)
 case atStart=>exact ⟨0,fun _=>undef,rfl,by omega,by omega,HO,hid fun _ h=>absurd h (by omega),K2.out⟩
 clear HO K2
 obtain ⟨i,R,rfl,al,aj,HO,E,U⟩:=hrel
 have ak:(0:Int)<=(i:Int):=by omega
 have K2:=hid U
 obtain ⟨w3,a4⟩:=exx wr
 subst a4
 clear U
 obtain ⟨q0,q1,q2,q3,q4⟩:=H.out _ K2.out
 by_cases hin:i<n
 ·have C:(i:Int)<(n:Int):=by omega
  obtain ⟨pb,po,RA,rc,aa,_,x0,s,S,g,z⟩:=(HC.out.on HB.out).rows i hin
  subst aa
  have g:IntsR w1 w1.heap.size RA N (fun j=>((V i j:Nat):Int)):=g
  replace x0:=cellS K2.out x0
  have s:N<=rc:=s
  have am:=HC.out.ln1
  obtain ⟨ab,ao,ae,_,_⟩:=g.at (i:=0) (by omega)
  subst ae
  have a7:(0:Int)<=(lo:Int):=by omega
  have Q:(lo:Int)<=(hi:Int):=by omega
  have a8:(hi:Int)<=(rc:Int):=by omega
  have F:=hid g
  have y:Hid (∀ v:Value,Below w3.heap.size w3 (w3.alloc (Obj.cells #[v] 22))):=hid fun v=>(Below.refl _ _).alloc (Nat.le_refl _) _
  have Y:Hid (∀ v:Value,Own (w3.alloc (Obj.cells #[v] 22)) w1.heap.size 22 1 u7 i (fun u _=>R u)):=hid fun v=>HO.out.on (y.out v)
  have x:Hid (∀ v:Value,w1.heap.size<=(w3.alloc (Obj.cells #[v] 22)).heap.size):=hid fun v=>Nat.le_trans K2.out.size (y.out v).size
  have a2:Hid (i<=1048576):=by show _<=_; omega
  have ag:Hid (rc<=maxLen):=hid S
  have G:Hid (N<=rc):=hid s
  clear g z s S
  by_cases hcl:lo=rc
  focus
   subst hcl
   go_upto_region 4 with (first | (at_builtin; (refine zbb rfl (.tmp 19) (.tmp 28) rfl (Y.out _) rfl (ad:=⟨w3.heap.size,0,none⟩) (c:=1) rfl tbox2 rfl (x.out _) a2.out ?_); intro v9 w9 o1 o2))
   have a1:=hid o1
   have a3:=hid (Below.grown (onS K2.out (y.out _)) o2 (x.out _) (fun q e=>(HO.out.lt q e).1))
   have r:Hid (∀ u,u<i+1->∃ X c,(if u=i then Value.slice (some ⟨ab,ao,none⟩) (hi - lo) 0 else R u)=.slice X (hi - lo) c/\hi - lo<=c/\c<=maxLen/\IntsR w1 w1.heap.size X (hi - lo) (fun j=>((V u (lo+j):Nat):Int))):=hid fun u hu=>by
    by_cases e:u=i
    ·refine ⟨_,_,if_pos e,by have:=G.out; omega,by unfold maxLen; omega,fun j hj=>absurd hj (by have:=G.out; omega)⟩
    ·rw [if_neg e]
     exact E.out u (by omega)
  rotate_left
  focus
   have a9:¬ rc=lo:=fun h=>hcl h.symm
   go_upto_region 4 with (first | (at_builtin; (refine zbb rfl (.tmp 19) (.tmp 28) rfl (Y.out _) rfl (ad:=⟨w3.heap.size,0,none⟩) (c:=1) rfl tbox2 rfl (x.out _) a2.out ?_); intro v9 w9 o1 o2))
   have a1:=hid o1
   have a3:=hid (Below.grown (onS K2.out (y.out _)) o2 (x.out _) (fun q e=>(HO.out.lt q e).1))
   have r:Hid (∀ u,u<i+1->∃ X c,(if u=i then Value.slice (some ⟨ab,ao+lo,none⟩) (hi - lo) (rc - lo) else R u)=.slice X (hi - lo) c/\hi - lo<=c/\c<=maxLen/\IntsR w1 w1.heap.size X (hi - lo) (fun j=>((V u (lo+j):Nat):Int))):=hid fun u hu=>by
    by_cases e:u=i
    ·refine ⟨_,_,if_pos e,by have:=G.out; omega,by have:=ag.out; omega,?_⟩
     rw [e]
     exact ziU (ziV F.out (by omega)) (by omega)
    ·rw [if_neg e]
     exact E.out u (by omega)
  rotate_left
  all_goals
   clear o1 o2 q0 q1 q2 q3 q4 x0
   go_wp2
   go_roundg (gk - 1)
   case measure=>omega
   case rel=>exact ⟨i+1,_,by go_num,by omega,by omega,a1,r,a3.out⟩
 have C:¬ (i:Int)<(n:Int):=by omega
 obtain rfl:i=n:=by omega
 obtain ⟨tA,tc,hT⟩:=HO.out.shape
 subst hT
 obtain ⟨m1,B⟩:=exx (hi - lo)
 have a5:wrap64 ((hi:Int) - (lo:Int))=(m1:Int):=by unfold wrap64; omega
 have L:IntKind.i64.wrap ((hi:Int) - (lo:Int))=(m1:Int):=by rw [IntWalk.i64_in _ (by omega)]; omega
 have Z:Hid (MRows w3 tA i m1 (fun u j=>V u (lo+j))):=hid fun u hu=>by
  obtain ⟨X,cc,hR,h1,h2,h3⟩:=E.out u hu
  obtain ⟨b,off,e,hb,l⟩:=HO.out.rd rfl u hu
  have o:=l 0 (by omega)
  rw [Nat.mul_one,Nat.add_zero] at o
  have o:w3.cell? ⟨b,off+u,none⟩=some (R u):=o
  rw [hR] at o
  subst B
  exact ⟨b,off,X,cc,e,hb,o,h1,h2,h3.on K2.out,fun j hj=>by
   have hj:j<hi - lo:=hj
   have:=HC.out.lt u hu (lo+j) (by omega)
   show -9223372036854775808<=((V u (lo+j):Nat):Int)/\((V u (lo+j):Nat):Int)<=9223372036854775807
   have:=HC.out.fld.1.2.2.2
   omega⟩
 have ah:Hid (∀ u,u<i->∀ j,j<m1->V u (lo+j)<P ^ M):=hid fun u hu j hj=>HC.out.lt u hu _ (by omega)
 have a6:m1<=64:=by omega
 have a0:=hid B
 clear B
 go_wp2_with fail
 by_cases hz:m1=0
 ·subst hz
  refine (zhM (P:Int) (M:Int) A k c tA i tc _ w3 Z.out (by omega)).mono ?_
  rintro e w4 ⟨v,rfl,kb⟩
  have K3:=hid (onS HB.out (onS K2.out kb))
  clear kb q0 q1 q2 q3 q4
  go_wp2
  go_ret
  rw [<-a0.out]
  refine ⟨0,rfl,⟨fun _=>0,fun u j=>V u (lo+j),?_,.refl⟩,K3.out⟩
  exact ⟨Nat.zero_le _,fun u hu j hj=>absurd hj (by omega),fun _ _ _ h=>absurd h (by omega),fun _ h=>absurd h (by omega),fun _ h=>absurd h (by omega),fun _ h=>absurd h (by omega),fun _ h=>absurd h (by omega),fun u _ _ j hj=>absurd hj (by omega)⟩
 have h1:=HC.out.on (onS HB.out K2.out)
 refine (zcY P M A k c m tA i tc m1 m1 (fun u j=>V u (lo+j)) w3 h1.fld h1.mod h1.km Z.out ah.out (Nat.le_refl _) (by omega) (by omega) (by omega)).mono ?_
 rintro e w4 ⟨lv,pv,a,p,W,rfl,_,O,kb,hE,hR⟩
 obtain ⟨pA,pc,rfl⟩:=O.shape
 have K3:=hid (onS HB.out (onS K2.out kb))
 have af:Hid (RankIs (P ^ M) (addF P M) (mulF P M m) i V lo m1 a):=hid ⟨p,W,hE,hR⟩
 clear kb q0 q1 q2 q3 q4 O hE hR h1 hz
 go_wp2
 go_ret
 rw [<-a0.out]
 exact ⟨a,rfl,af.out,K3.out⟩
def RanksTo (q:Nat) (add mul:Nat->Nat->Nat) (n N:Nat) (V:Nat->Nat->Nat) (t:Nat) (ra rb:Nat->Nat):Prop:=∀ i,i<t->RankIs q add mul n V 0 i (ra i)/\RankIs q add mul n V i (N - i) (rb i)
theorem RankIs.le {q:Nat} {add mul:Nat->Nat->Nat} {n:Nat} {V:Nat->Nat->Nat} {lo m a:Nat} (h:RankIs q add mul n V lo m a):a<=n:=by
 obtain ⟨p,W,hE,_⟩:=h
 exact hE.le
def ProfPost (q:Nat) (add mul:Nat->Nat->Nat) (n N:Nat) (V:Nat->Nat->Nat) (w:World) (e:Ending) (w':World):Prop :=
 ∃ g ra rb,e=.returned (.slice (some ⟨g,0,none⟩) (N+1) (N+1))/\w.heap.size<=g/\w'.rowIs g 3 (N+1) (fun i=>.int .i64 (((ra i+rb i:Nat):Int) - (n:Nat)))/\RanksTo q add mul n N V (N+1) ra rb/\Below w.heap.size w w'
theorem zhN (P M:Nat) (m:Nat->Nat) (A:Option Addr) (k c N:Nat) (T:Option Addr) (n d:Nat) (V:Nat->Nat->Nat) (w:World) (h:CodeR w P M m A k N T n V) :
  Calls Tryz.prog 28 #[.agg #[.int .i64 (P:Nat),.int .i64 (M:Nat),.slice A k c,.int .i64 (N:Nat),.slice T n d]] w (ProfPost (P ^ M) (addF P M) (mulF P M m) n N V w):=by
 have HC:=hid h
 have Y:=h.ln2
 have a6:=h.n_le
 clear h
 obtain ⟨w1,F,hB,rf⟩:=zaE w (.int .i64 (P:Nat)) (.int .i64 (M:Nat)) (.slice A k c) (.int .i64 (N:Nat)) (.slice T n d) 27
 have B:wrap64 ((N:Int)+1)=(N:Int)+1:=by unfold wrap64; omega
 have y:IntKind.i64.wrap ((N:Int)+1)=(N:Int)+1:=IntWalk.i64_in _ (by omega)
 have G:=fun W=>zag (P:=Tryz.prog) 22 3 _ 8 Tryz.underlying22 Tryz.infoInt rfl ((N:Int)+1) (by omega) (by omega) (by omega) W
 simp only [show ((N:Int)+1).toNat=N+1 by omega] at G
 go_enter Tryz.func28, Tryz.ntmps28
 go_upto_region 1 with fail
 rw [<-F];clear F
 obtain ⟨b0,q⟩:=exx w.heap.size
 rw [<-q] at rf;rw [<-q];clear q
 have g:Hid (∀ X,Below w1.heap.size w1 X->(X.cell? ⟨b0,0,none⟩=some (.int .i64 (P:Nat))/\X.cell? ⟨b0,1,none⟩=some (.int .i64 (M:Nat))/\X.cell? ⟨b0,2,none⟩=some (.slice A k c)/\X.cell? ⟨b0,3,none⟩=some (.int .i64 (N:Nat))/\X.cell? ⟨b0,4,none⟩=some (.slice T n d))):=hid fun X hx =>
  ⟨(zab rf hx).cell (i:=0) (by omega),(zab rf hx).cell (i:=1) (by omega),(zab rf hx).cell (i:=2) (by omega),(zab rf hx).cell (i:=3) (by omega),(zab rf hx).cell (i:=4) (by omega)⟩
 have HB:=hid hB
 have D:Hid (b0<w1.heap.size):=hid rf.lt
 clear hB rf
 obtain ⟨q0,q1,q2,q3,q4⟩:=g.out _ (Below.refl _ _)
 go_upto_region 2 with fail
 clear q0 q1 q2 q3 q4
 have rz:World.rowIs (World.alloc w1 (Obj.cells (madeCells #[Value.int .i64 0] (N+1)) 3)) w1.heap.size 3 (N+1) (fun _=>.int .i64 0):=World.rowIs_made _ (.int .i64 0) (N+1) 3
 have kb:=aly w1 (Obj.cells (madeCells #[Value.int .i64 0] (N+1)) 3)
 obtain ⟨w2,E⟩:=exx (World.alloc w1 (Obj.cells (madeCells #[Value.int .i64 0] (N+1)) 3))
 rw [<-E] at rz kb ⊢
 obtain ⟨go,s⟩:=exx w1.heap.size
 have x:w.heap.size<=go:=by rw [s]; exact HB.out.size
 have J:=hid s
 rw [<-s] at rz ⊢
 have K2:=hid kb
 clear kb E s G B y
 go_upto_region 3 with fail
 go_loopg [4] (N+1) (fun gg iv wx=>∃ (i:Nat) (ra rb:Nat->Nat),iv=.int .i64 (i:Nat)/\i<=N+1/\N+1<=i+gg/\Hid (RanksTo (P ^ M) (addF P M) (mulF P M m) n N V i ra rb)/\Hid (wx.rowIs go 3 (N+1) (fun t=>.int .i64 (if t<i then ((ra t+rb t:Nat):Int) - (n:Nat) else 0)))/\Below w1.heap.size w1 wx)
 case atStart=>exact ⟨0,fun _=>0,fun _=>0,rfl,by omega,by omega,hid fun _ h=>absurd h (by omega),rz.congr fun t _=>by rw [if_neg (by omega)],K2.out⟩
 clear rz K2
 obtain ⟨i,ra,rb,rfl,hi,a7,I,l,H⟩:=hrel
 have a8:(0:Int)<=(i:Int):=by omega
 have K2:=hid H
 obtain ⟨w3,L⟩:=exx wr
 subst L
 clear H
 by_cases hin:i<=N
 rotate_left
 ·have v:¬ (i:Int)<=(N:Int):=by omega
  obtain rfl:i=N+1:=by omega
  obtain ⟨q0,q1,q2,q3,q4⟩:=g.out _ K2.out
  have HF:Hid (w3.rowIs go 3 (N+1) (fun t=>.int .i64 (((ra t+rb t:Nat):Int) - (n:Nat)))):=hid (l.out.congr fun t ht=>by rw [if_pos ht])
  go_wp2
  go_ret
  exact ⟨go,ra,rb,rfl,x,HF.out,I.out,onS HB.out K2.out⟩
 have v:(i:Int)<=(N:Int):=by omega
 obtain ⟨q0,q1,q2,q3,q4⟩:=g.out _ K2.out
 go_upto_region 5 with fail
 clear q0 q1 q2 q3 q4
 refine wp_region_held_drew (S:=fun X=>(X.cell? ⟨b0,0,none⟩=some (.int .i64 (P:Nat))/\X.cell? ⟨b0,1,none⟩=some (.int .i64 (M:Nat))/\X.cell? ⟨b0,2,none⟩=some (.slice A k c)/\X.cell? ⟨b0,3,none⟩=some (.int .i64 (N:Nat))/\X.cell? ⟨b0,4,none⟩=some (.slice T n d))) (by kernel_rfl) (g.out _ (onS K2.out (Below.refl _ _).drew)) (fun hHeld=>?_)
 obtain ⟨w4,hw,kb⟩:=dwx w3
 rw [<-hw] at hHeld ⊢;clear hw
 have K3:=hid kb
 clear kb
 refine tkq 0 (h:=tkq 1 (h:=tkq 2 (h:=tkq 3 (h:=tkq 5 (h:=tkq 6 (h:=tkq 7 (h:=tkq 8 (h:=tkq 11 (h:=tkq 12 (h:=tkq 13 (h:=?_)))))))))))
 clear hHeld
 refine rdq 4 (h:=fun K hK=>?_)
 go_simp
 go_wp2_with fail
 refine (zco P M m A k c N T n d V 0 i w4 (HC.out.on (onS HB.out (onS K2.out K3.out))) (Nat.zero_le _) hin).mono ?_
 rintro e w5 ⟨a,rfl,ha,kb⟩
 have a5:=hid ha
 have aa:=ha.le
 replace K3:=hid (onS K3.out kb);clear kb ha
 refine bkq hK (g.out _ (onS K2.out K3.out)) (h:=fun hHeld=>?_)
 clear hK K hHeld
 refine rdq 9 (h:=fun K hK=>?_)
 go_simp
 go_wp2_with fail
 refine (zco P M m A k c N T n d V i N w5 (HC.out.on (onS HB.out (onS K2.out K3.out))) hin (Nat.le_refl _)).mono ?_
 rintro e w6 ⟨b,rfl,hb,kb⟩
 have Z:=hid hb
 have a9:=hb.le
 replace K3:=hid (onS K3.out kb);clear kb hb
 refine bkq hK (g.out _ (onS K2.out K3.out)) (h:=fun hHeld=>?_)
 clear hK K
 have U:wrap64 ((a:Int)+(b:Int))=(a:Int)+(b:Int):=by unfold wrap64; omega
 have R:IntKind.i64.wrap ((a:Int)+(b:Int))=(a:Int)+(b:Int):=IntWalk.i64_in _ (by omega)
 obtain ⟨z,hz⟩:∃ z:Int,z=((a+b:Nat):Int) - (n:Nat):=⟨_,rfl⟩
 have Q:wrap64 ((a:Int)+(b:Int) - (n:Int))=z:=by unfold wrap64; omega
 have O:IntKind.i64.wrap ((a:Int)+(b:Int) - (n:Int))=z:=by rw [IntWalk.i64_in _ (by omega)]; omega
 have ac:(i:Int)<((N+1:Nat):Int):=by omega
 have ab:(i:Int)<(N:Int)+1:=by omega
 have HZ:=hid hz
 clear hz
 refine tkq 10 (h:=tkq 14 (h:=tkq 15 (h:=?_)))
 clear hHeld U R Q O
 refine rdq 16 (h:=fun K hK=>?_)
 have u0:=(zab l.out K3.out).cell (i:=i) (by omega)
 have u1:=(zab l.out K3.out).frozen i
 go_simp
 clear u0 u1
 have j:=(zab l.out K3.out).set i (.int .i64 z)
 have kb:=(onS K2.out K3.out).setCell (p:=⟨go,i,none⟩) (by show _<=go; rw [J.out]; exact Nat.le_refl _) (.int .i64 z)
 have q:=g.out _ (onS K2.out K3.out)
 have o:b0≠go:=by rw [J.out]; exact Nat.ne_of_lt D.out
 obtain ⟨a0,a1,a2,a3,a4⟩:=q
 replace a0:=zaa (p:=⟨go,i,none⟩) (u:=.int .i64 z) a0 o;replace a1:=zaa (p:=⟨go,i,none⟩) (u:=.int .i64 z) a1 o;replace a2:=zaa (p:=⟨go,i,none⟩) (u:=.int .i64 z) a2 o;replace a3:=zaa (p:=⟨go,i,none⟩) (u:=.int .i64 z) a3 o;replace a4:=zaa (p:=⟨go,i,none⟩) (u:=.int .i64 z) a4 o
 obtain ⟨w7,hw⟩:=exx (w6.setCell ⟨go,i,none⟩ (.int .i64 z))
 rw [<-hw] at j kb a0 a1 a2 a3 a4 ⊢
 have r:Hid (w7.rowIs go 3 (N+1) (fun t=>.int .i64 (if t<i+1 then (((if t=i then a else ra t)+(if t=i then b else rb t):Nat):Int) - (n:Nat) else 0))):=hid (j.congr fun t _=>by
  by_cases et:t=i
  ·rw [if_pos et,if_pos (by omega),if_pos et,if_pos et,HZ.out]
  have h1:(t<i)↔(t<i+1):=by omega
  rw [if_neg et,if_neg et,if_neg et]
  simp only [h1])
 have C:Hid (RanksTo (P ^ M) (addF P M) (mulF P M m) n N V (i+1) (fun t=>if t=i then a else ra t) (fun t=>if t=i then b else rb t)):=hid fun t ht=>by
  by_cases et:t=i
  ·subst et
   simp only [if_true]
   exact ⟨a5.out,Z.out⟩
  ·simp only [if_neg et]
   exact I.out t (by omega)
 have K9:=hid kb
 clear j kb hw o
 refine bkq hK ⟨a0,a1,a2,a3,a4⟩ (h:=fun hHeld=>?_)
 clear hK K a0 a1 a2 a3 a4
 refine wpAnyH_done (by kernel_rfl) ?_ _
 clear hHeld
 go_wp2
 go_roundg (gk - 1)
 case measure=>omega
 case rel=>exact ⟨i+1,_,_,by go_num,by omega,by omega,C,r,K9.out⟩
def cntB (D:Nat->Bool):Nat->Nat
 | 0=>0
 | n+1=>cntB D n+if D n then 1 else 0
theorem zk6 (D:Nat->Bool):∀ n,cntB D n<=n
 | 0=>Nat.le_refl _
 | n+1=>by
  have:=zk6 D n
  show cntB D n+(if D n then 1 else 0)<=n+1
  split <;> omega
theorem zeQ {D E:Nat->Bool}:∀ n,(∀ s,s<n->D s=E s)->cntB D n=cntB E n
 | 0,_=>rfl
 | n+1,h=>by
  show cntB D n+(if D n then 1 else 0)=cntB E n+if E n then 1 else 0
  rw [zeQ n fun s hs=>h s (by omega),h n (by omega)]
theorem zeb {A B:Nat->Bool}:∀ n,(∀ s,s<n->A s=true∨B s=true)->cntB A n+cntB B n=cntB (fun s=>A s && B s) n+n
 | 0,_=>rfl
 | n+1,h=>by
  have ih:=zeb n fun s hs=>h s (by omega)
  have h1:=h n (by omega)
  show cntB A n+(if A n then 1 else 0)+(cntB B n+if B n then 1 else 0)=cntB (fun s=>A s && B s) n+(if (A n && B n) then 1 else 0)+(n+1)
  cases hA:A n <;> cases hB:B n
  ·rw [hA,hB] at h1; simp at h1
  ·simp; omega
  ·simp; omega
  ·simp; omega
def packB (q:Nat) (D:Nat->Bool) (c:Nat->Nat):Nat->Nat
 | 0=>0
 | n+1=>if D n then packB q D c n*q+c n else packB q D c n
theorem zbN {q:Nat} {D:Nat->Bool} {c:Nat->Nat}:∀ n,(∀ s,s<n->c s<q)->packB q D c n<q ^ cntB D n
 | 0,_=>by show 0<q ^ 0; simp
 | n + 1, h => by
  have ih:=zbN (D:=D) n fun s hs=>h s (by omega)
  have h1:=h n (by omega)
  show (if D n then packB q D c n*q+c n else packB q D c n)<q ^ (cntB D n+if D n then 1 else 0)
  split
  ·rw [Nat.pow_succ]
   have:=Nat.mul_le_mul_right q (show packB q D c n+1<=q ^ cntB D n from ih)
   rw [Nat.add_mul,Nat.one_mul] at this
   omega
  ·exact ih
theorem zc1 {q:Nat} {D:Nat->Bool} {c c':Nat->Nat}:∀ n,(∀ s,s<n->c s<q)->(∀ s,s<n->c' s<q)->packB q D c n=packB q D c' n->∀ s,s<n->D s=true->c s=c' s
 | 0,_,_,_,s,hs,_=>absurd hs (by omega)
 | n + 1, h, h', e, s, hs, hD => by
  have e:(if D n then packB q D c n*q+c n else packB q D c n)=if D n then packB q D c' n*q+c' n else packB q D c' n:=e
  have h1:=h n (by omega)
  have h2:=h' n (by omega)
  have ih:=zc1 (D:=D) (c:=c) (c':=c') n (fun s hs=>h s (by omega)) (fun s hs=>h' s (by omega))
  by_cases hn:D n=true
  ·rw [if_pos hn,if_pos hn] at e
   have e1:c n=c' n:=by
    have:=congrArg (· % q) e
    simp only [Nat.mul_add_mod_self_right,Nat.mod_eq_of_lt h1,Nat.mod_eq_of_lt h2] at this
    exact this
   have e2:packB q D c n=packB q D c' n:=by
    rw [e1] at e
    exact Nat.eq_of_mul_eq_mul_right (show 0<q by omega) (by omega)
   by_cases en:s=n
   ·rw [en]; exact e1
   ·exact ih e2 s (by omega) hD
  ·rw [if_neg hn,if_neg hn] at e
   by_cases en:s=n
   ·rw [en] at hD; exact absurd hD hn
   ·exact ih e s (by omega) hD
theorem zaV {q:Nat} {D:Nat->Bool} {c c':Nat->Nat}:∀ n,(∀ s,s<n->D s=true->c s=c' s)->packB q D c n=packB q D c' n
 | 0,_=>rfl
 | n+1,h=>by
  show (if D n then packB q D c n*q+c n else packB q D c n)=if D n then packB q D c' n*q+c' n else packB q D c' n
  rw [zaV n fun s hs=>h s (by omega)]
  by_cases hn:D n=true
  ·rw [if_pos hn,if_pos hn,h n (by omega) hn]
  ·rw [if_neg hn,if_neg hn]
theorem zaN {q:Nat} (hq:0<q) {D:Nat->Bool}:∀ n y,y<q ^ cntB D n->∃ c:Nat->Nat,(∀ s,c s<q)/\(∀ s,D s=false->c s=0)/\packB q D c n=y
 | 0,y,h=>by
  have h:y<q ^ 0:=h
  rw [Nat.pow_zero] at h
  exact ⟨fun _=>0,fun _=>hq,fun _ _=>rfl,by show 0=y; omega⟩
 | n + 1, y, h => by
  have h:y<q ^ (cntB D n+if D n then 1 else 0):=h
  by_cases hn:D n=true
  ·rw [if_pos hn,Nat.pow_succ] at h
   obtain ⟨c,h1,h2,h3⟩:=zaN hq (D:=D) n (y / q) (Nat.div_lt_of_lt_mul (by rw [Nat.mul_comm]; exact h))
   refine ⟨fun s=>if s=n then y % q else c s,fun s=>?_,fun s hs=>?_,?_⟩
   ·show (if s=n then y % q else c s)<q
    split
    ·exact Nat.mod_lt _ hq
    ·exact h1 s
   ·show (if s=n then y % q else c s)=0
    rw [if_neg (fun e=>by rw [e,hn] at hs; cases hs)]
    exact h2 s hs
   ·show (if D n then packB q D (fun s=>if s=n then y % q else c s) n*q+(if n=n then y % q else c n) else _)=y
    rw [if_pos hn,if_pos rfl,zaV (c':=c) n fun s hs _=>if_neg (by omega),h3]
    exact Nat.div_add_mod' y q
  ·rw [if_neg hn,Nat.add_zero] at h
   obtain ⟨c,h1,h2,h3⟩:=zaN hq (D:=D) n y h
   refine ⟨c,h1,h2,?_⟩
   show (if D n then packB q D c n*q+c n else packB q D c n)=y
   rw [if_neg hn]; exact h3
section
variable {q n N:Nat} {add mul:Nat->Nat->Nat}
theorem zhO (hL:FieldLaws q add mul) {x y z:Nat} (hx:x<q) (hy:y<q) (hz:z<q) (h:add x y=add x z):y=z:=by
 obtain ⟨w,hw,e⟩:=hL.neg x hx
 have h2:add w (add x y)=add w (add x z):=by rw [h]
 rw [<-hL.addAssoc w x y hw hx hy,<-hL.addAssoc w x z hw hx hz,hL.addComm w x,e,hL.zeroAdd y hy,hL.zeroAdd z hz] at h2
 exact h2
theorem zeR (hL:FieldLaws q add mul) {R:Nat->Nat->Nat} {c c':Nat->Nat} {j s:Nat}:∀ n,s<n->(∀ t,t<n->t≠s->mul (c t) (R t j)=mul (c' t) (R t j))->spE add mul R c n j=spE add mul R c' n j->mul (c s) (R s j)=mul (c' s) (R s j)
 | 0,h,_,_=>absurd h (by omega)
 | n + 1, h, ht, e => by
  have e:add (spE add mul R c n j) (mul (c n) (R n j))=add (spE add mul R c' n j) (mul (c' n) (R n j)):=e
  by_cases hn:s=n
  ·subst hn
   have h1:∀ m,m<=s->spE add mul R c m j=spE add mul R c' m j:=by
    intro m
    induction m with
    | zero=>intro _; rfl
    | succ m ih =>
     intro hm
     show add (spE add mul R c m j) (mul (c m) (R m j))=add (spE add mul R c' m j) (mul (c' m) (R m j))
     rw [ih (by omega),ht m (by omega) (by omega)]
   rw [h1 s (Nat.le_refl _)] at e
   exact zhO hL (za6 hL _ _ _) (hL.mulLt _ _) (hL.mulLt _ _) e
  ·rw [ht n (by omega) (by omega),hL.addComm _ (mul (c' n) (R n j)),hL.addComm _ (mul (c' n) (R n j))] at e
   exact zeR hL n (by omega) (fun t h1 h2=>ht t (by omega) h2) (zhO hL (hL.mulLt _ _) (za6 hL _ _ _) (za6 hL _ _ _) e)
theorem zbO {R:Nat->Nat->Nat} {c c':Nat->Nat} {j:Nat}:∀ n,(∀ t,t<n->mul (c t) (R t j)=mul (c' t) (R t j))->spE add mul R c n j=spE add mul R c' n j
 | 0,_=>rfl
 | n+1,h=>by
  show add (spE add mul R c n j) (mul (c n) (R n j))=add (spE add mul R c' n j) (mul (c' n) (R n j))
  rw [zbO n fun t ht=>h t (by omega),h n (by omega)]
theorem zf2 (hL:FieldLaws q add mul) {x y z:Nat} (hx:x<q) (hy:y<q) (hz:z<q) (hz0:z≠0) (h:mul x z=mul y z):x=y:=by
 obtain ⟨v,hv,e⟩:=hL.inv z hz hz0
 have h2:mul (mul x z) v=mul (mul y z) v:=by rw [h]
 rw [hL.mulAssoc x z v hx hz hv,hL.mulAssoc y z v hy hz hv,e,hL.mulOne hx,hL.mulOne hy] at h2
 exact h2
theorem zec {V:Nat->Nat->Nat} {c:Nat->Nat} {lo j:Nat}:∀ n,spE add mul (fun i j=>V i (lo+j)) c n j=spE add mul V c n (lo+j)
 | 0=>rfl
 | n+1=>by
  show add (spE add mul (fun i j=>V i (lo+j)) c n j) (mul (c n) (V n (lo+j)))=add (spE add mul V c n (lo+j)) (mul (c n) (V n (lo+j)))
  rw [zec n]
theorem SameSp.cut {V R:Nat->Nat->Nat} {n' lo m:Nat} (h:SameSp q add mul N n n' V R) (hlm:lo+m<=N):SameSp q add mul m n n' (fun i j=>V i (lo+j)) (fun i j=>R i (lo+j)):=by
 have a:∀ {n n':Nat} {V R:Nat->Nat->Nat},(∀ x,InSp q add mul n N V x->InSp q add mul n' N R x)->∀ x,InSp q add mul n m (fun i j=>V i (lo+j)) x->InSp q add mul n' m (fun i j=>R i (lo+j)) x:=fun {n n' V R} h x ⟨c,hc,hx⟩=>by
  obtain ⟨c2,d,b⟩:=h (spE add mul V c n) ⟨c,hc,fun _ _=>rfl⟩
  refine ⟨c2,d,fun j hj=>?_⟩
  rw [hx j hj,zec,zec,b (lo+j) (by omega)]
 exact fun x=>⟨a (fun x=>(h x).1) x,a (fun x=>(h x).2) x⟩
theorem zed (hL:FieldLaws q add mul) {m a:Nat} {R W:Nat->Nat->Nat} {p:Nat->Nat} {D:Nat->Bool} {κ μ:Nat->Nat} (hR:∀ s,s<n->∀ j,j<m->R s j<q)
  (hE:EchN q a m m a p W) (hS:SameSp q add mul m n a R W)
  (hκ:∀ s,s<n->D s=true->κ s<m/\R s (κ s)≠0) (htri:∀ s t,s<n->t<n->D s=true->t≠s->R t (κ s)=0∨(D t=true/\μ t<μ s)) (hz:∀ s,s<n->D s=false->∀ j,j<m->R s j=0) :
  a=cntB D n:=by
 have l:=hL.two
 have hq:0<q:=by omega
 have uniq:∀ c c':Nat->Nat,(∀ s,s<n->c s<q)->(∀ s,s<n->c' s<q)->(∀ j,j<m->spE add mul R c n j=spE add mul R c' n j)->∀ b s,μ s<b->s<n->D s=true->c s=c' s:=fun c c' hc hc' h b=>by
  induction b with
  | zero=>intro s hb; omega
  | succ b ih =>
   intro s hb hs hD
   obtain ⟨k1,k2⟩:=hκ s hs hD
   have e:=zeR hL (R:=R) (c:=c) (c':=c') (j:=κ s) (s:=s) n hs (fun t ht d=>by
    rcases htri s t hs ht hD d with e | ⟨e1,e2⟩
    ·rw [e,hL.mulZero (hc t ht),hL.mulZero (hc' t ht)]
    ·rw [ih t (by omega) ht e1]) (h _ k1)
   exact zf2 hL (hc s hs) (hc' s hs) (hR s hs _ k1) k2 e
 have uniq2:∀ c c':Nat->Nat,(∀ s,s<n->c s<q)->(∀ s,s<n->c' s<q)->(∀ j,j<m->spE add mul R c n j=spE add mul R c' n j)->∀ s,s<n->D s=true->c s=c' s:=fun c c' hc hc' h s hs hD=>uniq c c' hc hc' h (μ s+1) s (by omega) hs hD
 have same:∀ c c':Nat->Nat,(∀ s,s<n->c s<q)->(∀ s,s<n->c' s<q)->(∀ s,s<n->D s=true->c s=c' s)->∀ j,j<m->spE add mul R c n j=spE add mul R c' n j:=fun c c' hc hc' h j hj=>zbO n fun t ht=>by
  cases hD:D t with
  | true=>rw [h t ht hD]
  | false=>rw [hz t ht hD j hj,hL.mulZero (hc t ht),hL.mulZero (hc' t ht)]
 have pw:∀ i,∃ c,(∀ s,s<n->c s<q)/\∀ j,j<m->spE add mul W (msgD q a i) a j=spE add mul R c n j:=fun i=>by
  obtain ⟨c,hc,hx⟩:=(hS (spE add mul W (msgD q a i) a)).2 ⟨msgD q a i,fun _ _=>zbJ hq,fun _ _=>rfl⟩
  exact ⟨c,hc,hx⟩
 have le1:q ^ a<=q ^ cntB D n:=by
  refine pigeon (f:=fun i=>packB q D (pw i).choose n) (fun i _=>zbN n (pw i).choose_spec.1) fun i k hi hk e=>?_
  have h1:=zc1 n (pw i).choose_spec.1 (pw k).choose_spec.1 e
  have h2:∀ j,j<m->spE add mul W (msgD q a i) a j=spE add mul W (msgD q a k) a j:=fun j hj=>by
   rw [(pw i).choose_spec.2 j hj,(pw k).choose_spec.2 j hj]
   exact same _ _ (pw i).choose_spec.1 (pw k).choose_spec.1 h1 j hj
  refine zjs hq hi hk fun t ht=>?_
  have h3:=h2 (p (a - 1 - t)) (hE.pvlt _ (by omega))
  rw [hE.spE_pv hL (fun _ _=>zbJ hq) (by omega),hE.spE_pv hL (fun _ _=>zbJ hq) (by omega)] at h3
  unfold msgD at h3
  rwa [show a - 1 - (a - 1 - t)=t by omega] at h3
 have le2:q ^ cntB D n<=q ^ a:=by
  have sj:∀ y,∃ c:Nat->Nat,(∀ s,c s<q)/\(y<q ^ cntB D n->packB q D c n=y):=fun y=>by
   by_cases hy:y<q ^ cntB D n
   ·obtain ⟨c,h1,_,h3⟩:=zaN hq (D:=D) n y hy
    exact ⟨c,h1,fun _=>h3⟩
   ·exact ⟨fun _=>0,fun _=>hq,fun h=>absurd h hy⟩
  refine pigeon (f:=fun y=>code q (fun s=>spE add mul R (sj y).choose n (p s)) a) (fun y _=>zcL fun s _=>za6 hL _ _ _) fun y z hy hz2 e=>?_
  have e1:=zc8 (fun s _=>za6 hL _ _ _) (fun s _=>za6 hL _ _ _) e
  have g:∀ y,InSp q add mul a m W (spE add mul R (sj y).choose n):=fun y=>(hS _).1 ⟨_,fun s _=>(sj y).choose_spec.1 s,fun _ _=>rfl⟩
  have co:∀ y j,j<m->spE add mul R (sj y).choose n j=spE add mul W (fun s=>spE add mul R (sj y).choose n (p s)) a j:=fun y j hj=>(ziJ hL hE (fun j _=>za6 hL _ _ _)).1 (g y) j hj
  have h2:∀ j,j<m->spE add mul R (sj y).choose n j=spE add mul R (sj z).choose n j:=fun j hj=>by
   rw [co y j hj,co z j hj]
   exact zbW a fun s hs=>⟨e1 s hs,rfl⟩
  have h3:=uniq2 _ _ (fun s _=>(sj y).choose_spec.1 s) (fun s _=>(sj z).choose_spec.1 s) h2
  have h4:=zaV (q:=q) (D:=D) n h3
  rw [(sj y).choose_spec.2 hy,(sj z).choose_spec.2 hz2] at h4
  exact h4
 have h1:=(Nat.pow_le_pow_iff_right (show 1<q by omega)).1 le1
 have h2:=(Nat.pow_le_pow_iff_right (show 1<q by omega)).1 le2
 omega
theorem SpanF.ranks (hL:FieldLaws q add mul) {pv:Nat->Nat} {V R:Nat->Nat->Nat} (h:SpanF q n N pv R) (hV:∀ i,i<n->∀ j,j<N->V i j<q) (hS:SameSp q add mul N n n V R) (hd:∀ i j,i<j->j<n->lE (R i) N≠lE (R j) N)
  {i a b:Nat} (hi:i<=N) (ha:RankIs q add mul n V 0 i a) (hb:RankIs q add mul n V i (N - i) b):a+b=cntB (fun s=>decide (pv s<i) && decide ((i:Int)<=lE (R s) N)) n+n:=by
 obtain ⟨p1,W1,e,k⟩:=ha
 obtain ⟨p2,W2,d,f⟩:=hb
 have e1:SameSp q add mul i n a (fun s j=>R s (0+j)) W1:=fun x=>((hS.cut (lo:=0) (m:=i) (by omega) x).symm.trans ((RowOps.sp hL (fun s hs j hj=>hV s hs (0+j) (by omega)) k).1 x)).trans (EchN.sp_top hL e x)
 have e2:SameSp q add mul (N - i) n b (fun s j=>R s (i+j)) W2:=fun x=>((hS.cut (lo:=i) (m:=N - i) (by omega) x).symm.trans ((RowOps.sp hL (fun s hs j hj=>hV s hs (i+j) (by omega)) f).1 x)).trans (EchN.sp_top hL d x)
 have k1:a=cntB (fun s=>decide (pv s<i)) n:=by
  refine zed hL (κ:=pv) (μ:=fun s=>s) (fun s hs j hj=>h.lt s hs (0+j) (by omega)) e.top e1 (fun s hs hD=>?_) (fun s t hs ht hD hne=>?_) (fun s hs hD j hj=>?_)
  ·have hD:=of_decide_eq_true hD
   refine ⟨hD,?_⟩
   show R s (0+pv s)≠0
   rw [Nat.zero_add,h.one s hs]
   omega
  ·have hD:=of_decide_eq_true hD
   rcases Nat.lt_or_ge t s with g | g
   ·exact .inr ⟨decide_eq_true (by have:=h.inc t s g hs; omega),g⟩
   refine .inl ?_
   show R t (0+pv s)=0
   rw [Nat.zero_add]
   exact h.low t ht _ (h.inc s t (by omega) ht)
  have hD:=of_decide_eq_false hD
  show R s (0+j)=0
  rw [Nat.zero_add]
  exact h.low s hs j (by omega)
 have k2:b=cntB (fun s=>decide ((i:Int)<=lE (R s) N)) n:=by
  have c:=fun s=>ziN (u:=R s) N
  refine zed hL (κ:=fun s=>(lE (R s) N).toNat - i) (μ:=fun s=>N - (lE (R s) N).toNat) (fun s hs j hj=>h.lt s hs (i+j) (by omega)) d.top e2 (fun s hs hD=>?_) (fun s t hs ht hD hne=>?_) (fun s hs hD j hj=>?_)
  ·have hD:=of_decide_eq_true hD
   have h1:=c s
   have h2:=zkx (u:=R s) N (lE (R s) N).toNat (by omega)
   refine ⟨by omega,?_⟩
   show R s (i+((lE (R s) N).toNat - i))≠0
   rw [show i+((lE (R s) N).toNat - i)=(lE (R s) N).toNat by omega]
   exact h2.2
  rotate_left
  ·have hD:=of_decide_eq_false hD
   have h1:=c s
   show R s (i+j)=0
   exact zbv (n:=N) (by omega) (by omega)
  have hD:=of_decide_eq_true hD
  have h1:=c s
  have h2:=c t
  show R t (i+((lE (R s) N).toNat - i))=0∨_
  rw [show i+((lE (R s) N).toNat - i)=(lE (R s) N).toNat by omega]
  have l:lE (R s) N≠lE (R t) N:=by
   rcases Nat.lt_or_ge s t with g | g
   ·exact hd s t g ht
   ·exact (hd t s (by omega) hs).symm
  by_cases g:lE (R t) N<lE (R s) N
  ·exact .inl (zbv (n:=N) (by omega) (by omega))
  ·exact .inr ⟨decide_eq_true (by omega),by omega⟩
 rw [k1,k2]
 exact zeb n fun s hs=>by
  have h1:=h.pos hs
  by_cases g:pv s<i
  ·exact .inl (decide_eq_true g)
  ·exact .inr (decide_eq_true (by omega))
end
def rankOf (k:Nat->Nat) (n v:Nat):Nat:=(List.range n).countP fun u=>decide (k u<k v)
theorem zf3 {p q:Nat->Bool} {l:List Nat} (h:∀ x,x ∈ l->p x=true->q x=true) {y:Nat} (hy:y ∈ l) (hq:q y=true) (hp:p y=false):l.countP p<l.countP q:=by
 induction l with
 | nil=>cases hy
 | cons a l ih =>
  have b:∀ l:List Nat,(∀ x,x ∈ l->p x=true->q x=true)->l.countP p<=l.countP q:=fun l h=>List.countP_mono_left h
  rw [List.countP_cons,List.countP_cons]
  rcases List.mem_cons.1 hy with rfl | hm
  ·rw [hp,hq]
   have:=b l fun x hx=>h x (by simp [hx])
   simp
   omega
  ·have h1:=ih (fun x hx=>h x (by simp [hx])) hm
   have h2:(if p a=true then 1 else 0)<=if q a=true then 1 else 0:=by
    by_cases e:p a=true
    ·rw [if_pos e,if_pos (h a (by simp) e)]
     exact Nat.le_refl _
    ·rw [if_neg e]
     exact Nat.zero_le _
   omega
theorem zf4 {k:Nat->Nat} {n u v:Nat} (hu:u<n) (h:k u<k v):rankOf k n u<rankOf k n v:=by
 unfold rankOf
 exact zf3 (fun x _ hx=>by simp at hx ⊢; omega) (List.mem_range.2 hu) (by simpa using h) (by simp)
theorem zfu {k:Nat->Nat} {n v:Nat} (hv:v<n):rankOf k n v<n:=by
 have h:=zf3 (p:=fun u=>decide (k u<k v)) (q:=fun _=>true) (l:=List.range n) (fun _ _ _=>rfl) (List.mem_range.2 hv) rfl (by simp)
 unfold rankOf
 simpa using h
theorem zhP {k:Nat->Nat} {n u v:Nat} (hk:∀ a b,a<n->b<n->k a=k b->a=b) (hu:u<n) (hv:v<n) (h:rankOf k n u=rankOf k n v):u=v:=by
 rcases Nat.lt_trichotomy (k u) (k v) with h1 | h1 | h1
 ·have:=zf4 hu h1; omega
 ·exact hk u v hu hv h1
 ·have:=zf4 hv h1; omega
theorem zdq {k:Nat->Nat} {n:Nat} {l:List Nat} (hp:l.Perm (List.range n)) (hs:∀ p q,p<q->q<l.length->k (l.getD p 0)<k (l.getD q 0)) {p:Nat} (h:p<l.length):rankOf k n (l.getD p 0)=p:=by
 unfold rankOf
 rw [<-hp.countP_eq]
 have b : ∀ (m : List Nat) (c : Nat), (∀ i, i < m.length → (decide (k (m.getD i 0) < k (l.getD p 0)) = true ↔ i < c)) → c ≤ m.length → m.countP (fun u => decide (k u < k (l.getD p 0))) = c := by
  intro m
  induction m with
  | nil=>intro c _ hc; simp at hc; simp [hc]
  | cons a m ih =>
   intro c h1 hc
   rw [List.countP_cons]
   have h0:=h1 0 (by simp)
   by_cases e:c=0
   ·subst e
    have ha:decide (k a<k (l.getD p 0))=false:=by
     cases hd:decide (k a<k (l.getD p 0)) with
     | false=>rfl
     | true=>exact absurd (h0.1 (by simpa using hd)) (by omega)
    rw [ih 0 (fun i hi=>by
     have:=h1 (i+1) (by simp; omega)
     constructor
     ·intro h2
      have:=this.1 (by simpa using h2)
      omega
     ·intro h2; omega) (by omega),ha]
    simp
   ·have ha:decide (k a<k (l.getD p 0))=true:=by simpa using h0.2 (by omega)
    rw [ih (c - 1) (fun i hi=>by
     have:=h1 (i+1) (by simp; omega)
     constructor
     ·intro h2
      have:=this.1 (by simpa using h2)
      omega
     ·intro h2
      have:=this.2 (by omega)
      simpa using this) (by simp at hc; omega),ha]
    simp
    omega
 refine b l p (fun i hi=>?_) (by omega)
 rw [decide_eq_true_iff]
 constructor
 ·intro h1
  rcases Nat.lt_trichotomy i p with h2 | h2 | h2
  ·exact h2
  ·subst h2; omega
  ·have:=hs p i h2 hi; omega
 ·intro h1
  exact hs i p h1 h
def twoT:Trel:=⟨2,fun _=>1,1,fun _=>2,fun _ _=>0,fun _ j=>(j:Nat),fun _ _=>0⟩
theorem zgA:twoT.properE=0:=by decide +kernel
theorem zkg:twoT.fwd (fun _ _=>1) twoT.n 0=2:=by decide +kernel
theorem zhQ {w:World} {c d:Nat} {b1 b2 b3:Nat} (h1:w.cell? ⟨b1,0,none⟩=some (.int .i64 1)) (h2:w.cell? ⟨b1,1,none⟩=some (.int .i64 1))
  (h3:w.cell? ⟨b3,0,none⟩=some (.slice (some ⟨b2,0,none⟩) 2 c)) (hc:2<=c) (hc2:c<=maxLen)
  (h4:∀ j,j<2->w.cell? ⟨b2,j*3,none⟩=some (.int .i64 0)/\w.cell? ⟨b2,j*3+1,none⟩=some (.int .i64 (j:Nat))/\w.cell? ⟨b2,j*3+2,none⟩=some (.int .i64 0)) (_:d=1) :
  twoT.Reads w (some ⟨b1,0,none⟩) (some ⟨b3,0,none⟩):=by
 refine ⟨fun i hi=>⟨b1,0,rfl,World.block_lt_of_cell? _ _ h1,fun j hj=>?_⟩,fun i _=>⟨by show (-9223372036854775808:Int)<=1; omega,by show (1:Int)<=9223372036854775807; omega⟩,fun i hi=>?_,by show 2<=_; omega,by show 1<=_; omega,fun i _=>by show 2<=_; omega⟩
 ·obtain rfl:j=0:=by omega
  match i,hi with
  | 0,_=>exact h1
  | 1,_=>exact h2
 obtain rfl:i=0:=by have:i<1:=hi; omega
 refine ⟨b3,0,some ⟨b2,0,none⟩,c,rfl,World.block_lt_of_cell? _ _ h3,h3,hc,hc2,fun j hj=>⟨b2,0,rfl,World.block_lt_of_cell? _ _ (h4 0 (by omega)).1,fun q hq=>?_⟩,fun j hj=>⟨⟨by show (-9223372036854775808:Int)<=0; omega,by show (0:Int)<=9223372036854775807; omega⟩,⟨by show (-9223372036854775808:Int)<=(j:Nat); omega,by have:j<2:=hj; show ((j:Nat):Int)<=9223372036854775807; omega⟩,⟨by show (-9223372036854775808:Int)<=0; omega,by show (0:Int)<=9223372036854775807; omega⟩⟩⟩
 obtain ⟨k0,k1,k2⟩:=h4 j hj
 rw [Nat.zero_add]
 match q,hq with
 | 0,_=>exact k0
 | 1,_=>exact k1
 | 2,_=>exact k2
section
variable {w:World} {c1 c2 c3:Array Value} {t1 t2 t3:TypeId} {i:Nat} {v:Value}
theorem zf5 (h:c1[i]?=some v):(((w.alloc (.cells c1 t1)).alloc (.cells c2 t2)).alloc (.cells c3 t3)).cell? ⟨w.heap.size,i,none⟩=some v:=by
 rw [World.cell?_alloc_lt _ _ _ (by simp; omega),World.cell?_alloc_lt _ _ _ (by simp),World.cell?_alloc_at _ _ _ _ rfl]
 exact h
theorem zbY (h:c2[i]?=some v):(((w.alloc (.cells c1 t1)).alloc (.cells c2 t2)).alloc (.cells c3 t3)).cell? ⟨w.heap.size+1,i,none⟩=some v:=by
 rw [World.cell?_alloc_lt _ _ _ (by simp),World.cell?_alloc_at _ _ _ _ (by simp)]
 exact h
theorem zgB (h:c3[i]?=some v):(((w.alloc (.cells c1 t1)).alloc (.cells c2 t2)).alloc (.cells c3 t3)).cell? ⟨w.heap.size+1+1,i,none⟩=some v:=by
 rw [World.cell?_alloc_at _ _ _ _ (by simp)]
 exact h
end
theorem zdJ (w:World):Calls Tryz.prog 27 #[] w fun e w'=>e=.returned (.bool true)/\Below w.heap.size w w':=by
 go_enter Tryz.func27, Tryz.ntmps27
 go_wp2_with fail
 refine (zf0 twoT (some ⟨w.heap.size,0,none⟩) (some ⟨w.heap.size+1+1,0,none⟩) 2 1 _ ?_).mono ?_
 ·exact zhQ (d:=1) (b2:=w.heap.size+1) (c:=2) (zf5 rfl) (zf5 rfl) (zgB rfl) (by omega) (by unfold maxLen; omega) (fun j hj=>by
   match j,hj with
   | 0,_=>exact ⟨zbY rfl,zbY rfl,zbY rfl⟩
   | 1,_=>exact ⟨zbY rfl,zbY rfl,zbY rfl⟩) rfl
 rintro e w1 (⟨h0,_⟩ | ⟨_,A,c,rfl,h1,h2,h3,hb⟩)
 ·exact absurd zgA h0
 have hW:Below w.heap.size w w1:=onS ((((Below.refl _ _).alloc (Nat.le_refl _) _).alloc (by simp) _).alloc (by simp; omega) _) hb
 rw [zkg] at h1 h3 ⊢;clear hb
 have hd:dl 2=1:=zcs (by omega) (by omega)
 have b:=aly w1 (Obj.cells #[Value.int .u32 2] 109)
 have a:=zge A (some ⟨w1.heap.size,0,none⟩) c 1 2 (w1.alloc (Obj.cells #[Value.int .u32 2] 109)) (h3.on b) (zdN (w:=w1) 109 (x:=2) (by omega) (by omega)) (by omega)
 rw [hd] at a ⊢
 have HK:=hid a
 have g:=onS hW b
 clear hd h1 h2 h3 a b
 go_wp2_with fail
 refine HK.out.mono ?_
 rintro e w2 ⟨rfl,kb⟩
 have h:=onS g kb
 clear kb g HK
 go_wp2
 go_ret
 exact ⟨rfl,h⟩
theorem Trel.ord {T:Trel} {i:Nat} (h:T.secOk i):∀ q j,j<q->q<T.el i->T.fr i j<T.fr i q∨T.fr i j=T.fr i q/\T.lb i j<T.lb i q:=by
 intro q
 induction q with
 | zero=>intro j hj; omega
 | succ q ih =>
  intro j hj hq
  have h1:T.fr i q<T.fr i (q+1)∨T.fr i q=T.fr i (q+1)/\T.lb i q<T.lb i (q+1):=(h.1 (q+1) hq).2.2 (by omega)
  by_cases e:j=q
  ·subst e; exact h1
  ·have h2:=ih j (by omega) (by omega)
   omega
def grp (g:Nat->Nat) (e u:Nat):List Nat:=(List.range u).flatMap fun a=>(List.range e).filter fun j=>g j=a
def grpA (g:Nat->Nat) (e u j:Nat):List Nat:=grp g e u ++ (List.range j).filter fun q=>g q=u
theorem ziY (g:Nat->Nat) (e u:Nat):grpA g e u e=grpA g e (u+1) 0:=by
 unfold grpA grp
 rw [List.range_succ,List.flatMap_append]
 simp
theorem zkh {g:Nat->Nat} {e u j:Nat} (h:g j=u):grpA g e u (j+1)=grpA g e u j ++ [j]:=by
 unfold grpA
 rw [List.range_succ,List.filter_append,List.append_assoc]
 simp [h]
theorem zki {g:Nat->Nat} {e u j:Nat} (h:¬ g j=u):grpA g e u (j+1)=grpA g e u j:=by
 unfold grpA
 rw [List.range_succ,List.filter_append]
 simp [h]
theorem zkj (g:Nat->Nat) (e u:Nat):grpA g e u 0=grp g e u:=by unfold grpA; simp
theorem zhR {g:Nat->Nat} {e u j:Nat}:j ∈ grp g e u↔j<e/\g j<u:=by
 unfold grp
 simp only [List.mem_flatMap,List.mem_range,List.mem_filter,decide_eq_true_eq]
 constructor
 ·rintro ⟨a,h1,h2,h3⟩; exact ⟨h2,by omega⟩
 ·rintro ⟨h1,h2⟩; exact ⟨g j,h2,h1,rfl⟩
theorem zhS {g:Nat->Nat} {e u j q:Nat}:q ∈ grpA g e u j↔q<e/\g q<u∨q<j/\g q=u:=by
 unfold grpA
 rw [List.mem_append,zhR]
 simp
theorem zbE {g:Nat->Nat} {e u:Nat} {R:Nat->Nat->Prop} (h1:∀ a b,a<e->b<e->g a<g b->R a b) (h2:∀ a b,a<b->b<e->g a=g b->R a b):(grp g e u).Pairwise R:=by
 unfold grp
 rw [List.pairwise_flatMap]
 refine ⟨fun a _=>?_,?_⟩
 ·refine List.Pairwise.filter _ ?_ |>.imp_of_mem ?_ (R:=fun x y=>x<y)
  ·exact List.pairwise_lt_range
  intro x y hx hy hxy
  simp only [List.mem_filter,List.mem_range,decide_eq_true_eq] at hx hy
  exact h2 x y hxy hy.1 (by omega)
 refine List.pairwise_lt_range.imp ?_
 intro a b hab x hx y hy
 simp only [List.mem_filter,List.mem_range,decide_eq_true_eq] at hx hy
 exact h1 x y hx.1 hy.1 (by omega)
theorem zkk {g:Nat->Nat} {e u:Nat} (h:∀ j,j<e->g j<u):(grp g e u).Perm (List.range e):=by
 refine (List.perm_ext_iff_of_nodup ?_ List.nodup_range).2 fun j=>?_
 ·exact zbE (fun a b _ _ h e=>by subst e; omega) (fun a b h _ _ e=>by omega)
 ·rw [zhR,List.mem_range]
  exact ⟨fun h=>h.1,fun hj=>⟨hj,h j hj⟩⟩
def firsts (l:List Nat):List Nat:=l.foldl (fun a v=>if v ∈ a then a else a ++ [v]) []
theorem zdr (l:List Nat) (v:Nat):firsts (l ++ [v])=if v ∈ firsts l then firsts l else firsts l ++ [v]:=by
 unfold firsts
 rw [List.foldl_append]
 rfl
theorem zcp {l:List Nat} {v:Nat}:v ∈ firsts l↔v ∈ l:=by
 have b : ∀ m : List Nat, v ∈ firsts m.reverse ↔ v ∈ m.reverse := by
  intro m
  induction m with
  | nil=>exact Iff.rfl
  | cons a m ih =>
   rw [List.reverse_cons,zdr,List.mem_append,<-ih]
   by_cases h:a ∈ firsts m.reverse
   ·rw [if_pos h]
    constructor
    ·exact .inl
    ·rintro (h1 | h1)
     ·exact h1
     ·obtain rfl:v=a:=by simpa using h1
      exact h
   ·rw [if_neg h,List.mem_append]
 have:=b l.reverse
 rwa [List.reverse_reverse] at this
theorem zb2 {R:Nat->Nat->Prop} {f:Nat->Nat} {V:List Nat} (h:∀ A B j,V=A ++ j :: B->(∀ a,a ∈ A->f a≠f j)->∀ a,a ∈ A->R (f a) (f j)):(firsts (V.map f)).Pairwise R:=by
 have c:∀ (m B:List Nat),V=m.reverse ++ B->(firsts (m.reverse.map f)).Pairwise R:=by
  intro m
  induction m with
  | nil=>intro B _; exact List.Pairwise.nil
  | cons a m ih =>
   intro B hB
   rw [List.reverse_cons,List.append_assoc] at hB
   have h1:=ih _ hB
   rw [List.reverse_cons,List.map_append,List.map_singleton,zdr]
   by_cases hm:f a ∈ firsts (m.reverse.map f)
   ·rw [if_pos hm]; exact h1
   ·rw [if_neg hm,List.pairwise_append]
    refine ⟨h1,List.pairwise_singleton _ _,?_⟩
    intro x hx y hy
    obtain rfl:y=f a:=by simpa using hy
    rw [zcp,List.mem_map] at hx hm
    obtain ⟨q,hq,rfl⟩:=hx
    exact h m.reverse B a hB (fun b hb e=>hm ⟨b,hb,e⟩) q hq
 have:=c V.reverse [] (by simp)
 rwa [List.reverse_reverse] at this
theorem zbP:∀ {l m:List Nat},l.Nodup->(∀ x,x ∈ l->x ∈ m)->m.length<=l.length->l.Perm m:=by
 intro l
 induction l with
 | nil =>
  intro m _ _ h
  obtain rfl:m=[]:=List.length_eq_zero_iff.1 (by simpa using h)
  exact List.Perm.refl _
 | cons a l ih =>
  intro m h1 h2 h3
  have ha:=h2 a (by simp)
  rw [List.nodup_cons] at h1
  have hl:=List.length_erase_of_mem ha
  have hp:=ih (m:=m.erase a) h1.2 (fun x hx=>(List.mem_erase_of_ne (fun e:x=a=>h1.1 (by rw [<-e]; exact hx))).2 (h2 x (by simp [hx]))) (by simp at h3; omega)
  exact (hp.cons a).trans (List.perm_cons_erase ha).symm
def Trel.code (T:Trel) (f:Nat->Nat) (i j:Nat):Nat:=f (T.fr i j).toNat*256+(T.lb i j).toNat
def Trel.kt (T:Trel) (f:Nat->Nat) (i:Nat):Nat->Nat->Nat
 | 0,_=>1099511627776
 | j+1,v=>if (T.to i j).toNat=v/\T.code f i j<T.kt f i j v then T.code f i j else T.kt f i j v
def Trel.nm (T:Trel):Nat->Nat->Nat
 | 0,_=>0
 | i+1,v=>rankOf (T.kt (T.nm i) i (T.el i)) (T.W (i+1)).toNat v
def Trel.tri (T:Trel) (i j:Nat):Int × Int × Int:=((T.nm i (T.fr i j).toNat:Nat),T.lb i j,(T.nm (i+1) (T.to i j).toNat:Nat))
section
variable {T:Trel} {f:Nat->Nat} {i:Nat}
theorem Trel.kt_le:∀ {j q:Nat},q<j->T.kt f i j (T.to i q).toNat<=T.code f i q:=by
 intro j
 induction j with
 | zero=>intro q h; omega
 | succ j ih =>
  intro q h
  unfold Trel.kt
  by_cases e:q=j
  ·subst e
   split
   ·exact Nat.le_refl _
   ·rename_i h1
    simp at h1
    exact h1
  ·have h1:=ih (q:=q) (by omega)
   split
   ·omega
   ·exact h1
theorem Trel.kt_att:∀ {j v:Nat},T.kt f i j v=1099511627776∨∃ q,q<j/\(T.to i q).toNat=v/\T.kt f i j v=T.code f i q:=by
 intro j v
 induction j with
 | zero=>exact .inl rfl
 | succ j ih =>
  unfold Trel.kt
  split
  ·rename_i h
   exact .inr ⟨j,by omega,h.1,rfl⟩
  ·rcases ih with h | ⟨q,h1,h2,h3⟩
   ·exact .inl h
   ·exact .inr ⟨q,by omega,h2,h3⟩
end
section
variable {T:Trel} (h:T.Proper)
include h
theorem Trel.Proper.nm_lt {i v:Nat} (hi:i<=T.n) (hv:v<(T.W i).toNat):T.nm i v<(T.W i).toNat:=by
 match i with
 | 0=>rw [h.w0]; show 0<_; decide
 | i+1=>exact zfu hv
theorem Trel.Proper.frL {i j:Nat} (hi:i<T.n) (hj:j<T.el i):(T.fr i j).toNat<(T.W i).toNat/\(((T.fr i j).toNat:Nat):Int)=T.fr i j:=by
 have:=h.shape.ins i hi j hj
 unfold Trel.inside at this
 omega
theorem Trel.Proper.toL {i j:Nat} (hi:i<T.n) (hj:j<T.el i):(T.to i j).toNat<(T.W (i+1)).toNat/\(((T.to i j).toNat:Nat):Int)=T.to i j:=by
 have:=h.shape.ins i hi j hj
 unfold Trel.inside at this
 omega
theorem Trel.Proper.lbL {i j:Nat} (hi:i<T.n) (hj:j<T.el i):(T.lb i j).toNat<256/\(((T.lb i j).toNat:Nat):Int)=T.lb i j:=by
 have:=(h.sec i hi).1 j hj
 unfold Trel.edgeOk at this
 omega
theorem Trel.Proper.code_lt {i j:Nat} (hi:i<T.n) (hj:j<T.el i):T.code (T.nm i) i j<16777216:=by
 have h1:=h.nm_lt (by omega) (h.frL hi hj).1
 have h2:=(h.shape.wid (i:=i) (by omega)).2
 have h3:=(h.lbL hi hj).1
 unfold Trel.code
 omega
theorem Trel.Proper.kt_hit {i v:Nat} (hi:i<T.n) (hv:v<(T.W (i+1)).toNat):∃ q,q<T.el i/\(T.to i q).toNat=v/\T.kt (T.nm i) i (T.el i) v=T.code (T.nm i) i q:=by
 obtain ⟨j,hj,e⟩:=za2.1 ((h.sec i hi).2.2 v hv)
 have e2:(T.to i j).toNat=v:=by omega
 have h1:=Trel.kt_le (T:=T) (f:=T.nm i) (i:=i) hj
 have h2:=h.code_lt hi hj
 rw [e2] at h1
 rcases Trel.kt_att (T:=T) (f:=T.nm i) (i:=i) (j:=T.el i) (v:=v) with h3 | h3
 ·omega
 ·exact h3
theorem Trel.Proper.code_inj {i:Nat} (hi:i<T.n) (hn:∀ u v,u<(T.W i).toNat->v<(T.W i).toNat->T.nm i u=T.nm i v->u=v) {j q:Nat} (hj:j<T.el i) (hq:q<T.el i) (e:T.code (T.nm i) i j=T.code (T.nm i) i q):j=q:=by
 have h1:=h.lbL hi hj
 have h2:=h.lbL hi hq
 unfold Trel.code at e
 have e1:T.nm i (T.fr i j).toNat=T.nm i (T.fr i q).toNat:=by omega
 have e2:=hn _ _ (h.frL hi hj).1 (h.frL hi hq).1 e1
 have h3:=h.frL hi hj
 have h4:=h.frL hi hq
 rcases Nat.lt_trichotomy j q with h5 | h5 | h5
 ·have:=Trel.ord (h.sec i hi) q j h5 hq; omega
 ·exact h5
 ·have:=Trel.ord (h.sec i hi) j q h5 hj; omega
theorem Trel.Proper.key_inj {i:Nat} (hi:i<T.n) (hn:∀ u v,u<(T.W i).toNat->v<(T.W i).toNat->T.nm i u=T.nm i v->u=v) (u v:Nat) (hu:u<(T.W (i+1)).toNat) (hv:v<(T.W (i+1)).toNat)
  (e:T.kt (T.nm i) i (T.el i) u=T.kt (T.nm i) i (T.el i) v):u=v:=by
 obtain ⟨j,hj,e1,e2⟩:=h.kt_hit hi hu
 obtain ⟨q,hq,e3,e4⟩:=h.kt_hit hi hv
 have:=h.code_inj hi hn hj hq (by omega)
 subst this
 omega
theorem Trel.Proper.nm_inj:∀ {i:Nat},i<=T.n->∀ u v,u<(T.W i).toNat->v<(T.W i).toNat->T.nm i u=T.nm i v->u=v:=by
 intro i
 induction i with
 | zero=>intro _ u v hu hv _; rw [h.w0] at hu hv; have:(1:Int).toNat=1:=rfl; omega
 | succ i ih =>
  intro hi u v hu hv e
  exact zhP (fun a b ha hb hab=>h.key_inj (by omega) (ih (by omega)) a b ha hb hab) hu hv e
theorem Trel.Proper.keys {i:Nat} (hi:i<T.n) (u v:Nat) (hu:u<(T.W (i+1)).toNat) (hv:v<(T.W (i+1)).toNat)
  (e:T.kt (T.nm i) i (T.el i) u=T.kt (T.nm i) i (T.el i) v):u=v:=h.key_inj hi (h.nm_inj (by omega)) u v hu hv e
theorem Trel.Proper.tri_inj {i j q:Nat} (hi:i<T.n) (hj:j<T.el i) (hq:q<T.el i) (e1:(T.tri i j).1=(T.tri i q).1) (e2:(T.tri i j).2.1=(T.tri i q).2.1):j=q:=by
 have e1':T.nm i (T.fr i j).toNat=T.nm i (T.fr i q).toNat:=by
  have:((T.nm i (T.fr i j).toNat:Nat):Int)=(T.nm i (T.fr i q).toNat:Nat):=e1
  omega
 have e2':T.lb i j=T.lb i q:=e2
 refine h.code_inj hi (h.nm_inj (by omega)) hj hq ?_
 unfold Trel.code
 rw [e1',e2']
end
def SecRen (T:Trel) (i:Nat) (y:Nat->Int × Int × Int):Prop :=
 ((List.range (T.el i)).map y).Perm ((List.range (T.el i)).map (T.tri i))/\∀ p q,p<q->q<T.el i->ltE (y p) (y q)
def IsRen (T:Trel) (y:Nat->Nat->Int × Int × Int):Prop:=∀ i,i<T.n->SecRen T i (y i)
theorem ziZ {x y:Int × Int × Int} (h:ltE x y):¬ ltE y x:=by unfold ltE at *; omega
theorem zaj {α:Type} {R:α->α->Prop} {n:Nat} {y:Nat->α}:((List.range n).map y).Pairwise R↔∀ p q,p<q->q<n->R (y p) (y q):=by
 rw [List.pairwise_iff_getElem]
 constructor
 ·intro h p q hpq hq
  have:=h p q (by simp; omega) (by simpa using hq) hpq
  simpa using this
 intro h p q hp hq hpq
 have:=h p q hpq (by simpa using hq)
 simpa using this
theorem SecRen.of_sort {T:Trel} (h:T.Proper) {i:Nat} (hi:i<T.n) {y:Nat->Int × Int × Int} (hp:((List.range (T.el i)).map y).Perm ((List.range (T.el i)).map (T.tri i))) (hs:∀ p q,p<q->q<T.el i->¬ ltE (y q) (y p)):SecRen T i y:=by
 refine ⟨hp,fun p q hpq hq=>?_⟩
 have h1:(((List.range (T.el i)).map (T.tri i)).map fun t=>(t.1,t.2.1)).Nodup:=by
  rw [List.map_map]
  refine zaj.2 fun a b hab hb e=>?_
  simp only [Function.comp,Prod.mk.injEq] at e
  have:=h.tri_inj hi (by omega) hb e.1 e.2
  omega
 have h2:=((hp.map fun t=>(t.1,t.2.1)).nodup_iff).2 h1
 rw [List.map_map] at h2
 have h3:=zaj.1 h2 p q hpq hq
 have h4:=hs p q hpq hq
 simp only [Function.comp,ne_eq,Prod.mk.injEq] at h3
 unfold ltE at *
 omega
theorem SecRen.unique {T:Trel} {i:Nat} {y z:Nat->Int × Int × Int} (h1:SecRen T i y) (h2:SecRen T i z) {j:Nat} (hj:j<T.el i):y j=z j:=by
 have hp:=h1.1.trans h2.1.symm
 have e:=List.Perm.eq_of_pairwise (le:=ltE) (fun a b _ _ k1 k2=>absurd k2 (ziZ k1)) (zaj.2 h1.2) (zaj.2 h2.2) hp
 have e2:=congrArg (fun l=>l[j]?) e
 simpa [hj] using e2
def Trel.vis (T:Trel) (i:Nat):List Nat:=grp (fun j=>T.nm i (T.fr i j).toNat) (T.el i) (T.W i).toNat
section
variable {T:Trel} (h:T.Proper)
include h
theorem Trel.Proper.vis_perm {i:Nat} (hi:i<T.n):(T.vis i).Perm (List.range (T.el i)):=zkk fun _ hj=>h.nm_lt (by omega) (h.frL hi hj).1
theorem Trel.Proper.code_mono {i:Nat} (hi:i<T.n) {a b:Nat} (ha:a<T.el i) (hb:b<T.el i) (e:T.nm i (T.fr i a).toNat<T.nm i (T.fr i b).toNat∨T.nm i (T.fr i a).toNat=T.nm i (T.fr i b).toNat/\a<b):T.code (T.nm i) i a<T.code (T.nm i) i b:=by
 have h1:=h.lbL hi ha
 have h2:=h.lbL hi hb
 unfold Trel.code
 rcases e with e | ⟨e,h3⟩
 ·omega
 have e2:=h.nm_inj (by omega) _ _ (h.frL hi ha).1 (h.frL hi hb).1 e
 have h5:=h.frL hi ha
 have h6:=h.frL hi hb
 have:=Trel.ord (h.sec i hi) b a h3 hb
 omega
theorem Trel.Proper.vis_code {i:Nat} (hi:i<T.n):(T.vis i).Pairwise fun a b=>T.code (T.nm i) i a<T.code (T.nm i) i b :=
 zbE (fun _ _ ha hb e=>h.code_mono hi ha hb (.inl e)) (fun _ _ hab hb e=>h.code_mono hi (by omega) hb (.inr ⟨e,hab⟩))
theorem Trel.Proper.next_perm {i:Nat} (hi:i<T.n):(firsts ((T.vis i).map fun j=>(T.to i j).toNat)).Perm (List.range (T.W (i+1)).toNat) /\
  ∀ v,v<(T.W (i+1)).toNat->(firsts ((T.vis i).map fun j=>(T.to i j).toNat)).idxOf v=T.nm (i+1) v:=by
 have c:(firsts ((T.vis i).map fun j=>(T.to i j).toNat)).Pairwise fun a b=>T.kt (T.nm i) i (T.el i) a<T.kt (T.nm i) i (T.el i) b:=by
  refine zb2 (f:=fun j=>(T.to i j).toNat) ?_
  intro A B j hV hne a ha
  have c:=h.vis_code hi
  have hm:∀ x,x ∈ T.vis i->x<T.el i:=fun x hx=>by simpa using (h.vis_perm hi).mem_iff.1 hx
  rw [hV] at c hm
  have m:=hm a (by simp [ha])
  have l:=hm j (by simp)
  have h1:T.kt (T.nm i) i (T.el i) (T.to i a).toNat<=T.code (T.nm i) i a:=Trel.kt_le m
  have h2:T.code (T.nm i) i a<T.code (T.nm i) i j:=(List.pairwise_append.1 c).2.2 a ha j (by simp)
  obtain ⟨q,hq,e1,e2⟩:=h.kt_hit hi (h.toL hi l).1
  have g:q ∈ A ++ j :: B:=hV ▸ (h.vis_perm hi).mem_iff.2 (List.mem_range.2 hq)
  show T.kt (T.nm i) i (T.el i) (T.to i a).toNat<T.kt (T.nm i) i (T.el i) (T.to i j).toNat
  rw [e2]
  rcases List.mem_append.1 g with hqA | hqB
  ·exact absurd e1 (hne q hqA)
  rcases List.mem_cons.1 hqB with rfl | hqB
  ·omega
  ·have h3:=(List.pairwise_cons.1 (List.pairwise_append.1 c).2.1).1 q hqB
   omega
 have hp:(firsts ((T.vis i).map fun j=>(T.to i j).toNat)).Perm (List.range (T.W (i+1)).toNat):=by
  refine (List.perm_ext_iff_of_nodup (c.imp fun {a b} hab e=>by subst e; omega) List.nodup_range).2 fun v=>?_
  rw [zcp,List.mem_map,List.mem_range]
  constructor
  ·rintro ⟨j,hj,rfl⟩
   exact (h.toL hi (by simpa using (h.vis_perm hi).mem_iff.1 hj)).1
  intro hv
  obtain ⟨j,hj,e⟩:=za2.1 ((h.sec i hi).2.2 v hv)
  exact ⟨j,(h.vis_perm hi).mem_iff.2 (List.mem_range.2 hj),by omega⟩
 refine ⟨hp,fun v hv=>?_⟩
 have hm:=hp.mem_iff.2 (List.mem_range.2 hv)
 obtain ⟨N,hN⟩:=exx (firsts ((T.vis i).map fun j=>(T.to i j).toNat))
 rw [<-hN] at hm hp c ⊢
 have d:=List.idxOf_lt_length_iff.2 hm
 have hg:N.getD (N.idxOf v) 0=v:=by
  rw [List.getD_eq_getElem?_getD,List.getElem?_eq_getElem d,List.getElem_idxOf]
  rfl
 have h1:=zdq (k:=T.kt (T.nm i) i (T.el i)) hp (fun p q hpq hq=>by
  rw [List.getD_eq_getElem?_getD,List.getD_eq_getElem?_getD,List.getElem?_eq_getElem (by omega),List.getElem?_eq_getElem hq]
  exact List.pairwise_iff_getElem.1 c p q _ _ hpq) d
 rw [hg] at h1
 exact h1.symm
theorem Trel.Proper.vis_ren {i:Nat} (hi:i<T.n):SecRen T i fun p=>T.tri i ((T.vis i).getD p 0):=by
 have hl:(T.vis i).length=T.el i:=by have:=(h.vis_perm hi).length_eq; simpa using this
 have e:((List.range (T.el i)).map fun p=>T.tri i ((T.vis i).getD p 0))=(T.vis i).map (T.tri i):=by
  apply List.ext_getElem (by simp [hl])
  intro p h1 h2
  simp only [List.getElem_map,List.getElem_range]
  rw [List.getD_eq_getElem?_getD,List.getElem?_eq_getElem (by simpa using h2)]
  rfl
 refine ⟨?_,?_⟩
 ·rw [e]
  exact (h.vis_perm hi).map _
 refine zaj.1 ?_
 rw [e,List.pairwise_map]
 refine zbE (fun a b ha hb e=>.inl (by show ((T.nm i (T.fr i a).toNat:Nat):Int)<(T.nm i (T.fr i b).toNat:Nat); omega)) (fun a b hab hb e=>.inr ⟨by show ((T.nm i (T.fr i a).toNat:Nat):Int)=(T.nm i (T.fr i b).toNat:Nat); omega,?_⟩)
 show T.lb i a<T.lb i b
 have e2:=h.nm_inj (by omega) _ _ (h.frL hi (by omega)).1 (h.frL hi hb).1 e
 have h5:=h.frL (j:=a) hi (by omega)
 have h6:=h.frL (j:=b) hi hb
 have:=Trel.ord (h.sec i hi) b a hab hb
 omega
end
def actA (pv:Nat->Nat) (R:Nat->Nat->Nat) (N i s:Nat):Bool:=decide (pv s<i) && decide ((i:Int)<=lE (R s) N)
def actE (pv:Nat->Nat) (R:Nat->Nat->Nat) (N i s:Nat):Bool:=decide (pv s<=i) && decide ((i:Int)<=lE (R s) N)
def secE (q:Nat) (add mul:Nat->Nat->Nat) (pv:Nat->Nat) (R:Nat->Nat->Nat) (N t i:Nat) (c:Nat->Nat):Int × Int × Int :=
 (((packB q (actA pv R N i) c t:Nat):Int),((spE add mul R c t i:Nat):Int),((packB q (actA pv R N (i+1)) c t:Nat):Int))
def Trel.eD (T:Trel) (i j:Nat):Int × Int × Int:=(T.fr i j,T.lb i j,T.to i j)
structure MinT (q:Nat) (add mul:Nat->Nat->Nat) (n N:Nat) (pv:Nat->Nat) (R:Nat->Nat->Nat) (T:Trel):Prop where
 nN:T.n=N
 nw:T.nw=N+1
 w:∀ i,i<=N->T.W i=((q ^ cntB (actA pv R N i) n:Nat):Int)
 el:∀ i,i<N->T.el i=q ^ cntB (actE pv R N i) n
 out:∀ i,i<N->∀ c:Nat->Nat,(∀ s,c s<q)->∃ j,j<T.el i/\T.eD i j=secE q add mul pv R N n i c
 inn:∀ i,i<N->∀ j,j<T.el i->∃ c:Nat->Nat,(∀ s,c s<q)/\T.eD i j=secE q add mul pv R N n i c
 srt:∀ i,i<N->∀ a b,a<b->b<T.el i->ltE (T.eD i a) (T.eD i b)
section
variable {q n N:Nat} {add mul:Nat->Nat->Nat} {pv:Nat->Nat} {R:Nat->Nat->Nat}
theorem zfv (s:Nat):actA pv R N 0 s=false:=by simp [actA]
theorem zkl (s:Nat):actA pv R N N s=false:=by
 have h:=ziN (u:=R s) N
 have:¬ ((N:Int)<=lE (R s) N):=by omega
 simp [actA,this]
theorem zcq {D:Nat->Bool} (h:∀ s,D s=false):∀ n,cntB D n=0
 | 0=>rfl
 | n+1=>by
  show cntB D n+(if D n then 1 else 0)=0
  rw [zcq h n,h n]
  rfl
theorem zbQ (i s:Nat):actE pv R N i s=true↔pv s<=i/\(i:Int)<=lE (R s) N:=by simp [actE]
theorem zaM (i s:Nat):actA pv R N i s=true↔pv s<i/\(i:Int)<=lE (R s) N:=by simp [actA]
theorem zkm (hL:FieldLaws q add mul) (h:SpanF q n N pv R) {i:Nat} (hi:i<N) {c c':Nat->Nat} (hc:∀ s,c s<q) (hc':∀ s,c' s<q)
  (e1:(secE q add mul pv R N n i c).1=(secE q add mul pv R N n i c').1) (e2:(secE q add mul pv R N n i c).2.1=(secE q add mul pv R N n i c').2.1) :
  ∀ s,s<n->actE pv R N i s=true->c s=c' s:=by
 have e1:((packB q (actA pv R N i) c n:Nat):Int)=((packB q (actA pv R N i) c' n:Nat):Int):=e1
 have e2:((spE add mul R c n i:Nat):Int)=((spE add mul R c' n i:Nat):Int):=e2
 have a1:=zc1 (D:=actA pv R N i) n (fun s _=>hc s) (fun s _=>hc' s) (by omega)
 intro s hs hA
 obtain ⟨h1,h2⟩:=(zbQ i s).1 hA
 by_cases g:pv s<i
 ·exact a1 s hs ((zaM i s).2 ⟨g,h2⟩)
 obtain rfl:i=pv s:=by omega
 have a:=zeR hL (R:=R) (c:=c) (c':=c') (j:=pv s) (s:=s) n hs (fun t ht hne=>?_) (by omega)
 ·rw [h.one s hs,hL.mulOne (hc s),hL.mulOne (hc' s)] at a
  exact a
 rcases Nat.lt_trichotomy t s with g | g | g
 ·have b:=h.inc t s g hs
  by_cases k:((pv s:Nat):Int)<=lE (R t) N
  ·rw [a1 t ht ((zaM _ t).2 ⟨b,k⟩)]
  ·have:R t (pv s)=0:=zbv (n:=N) hi (by omega)
   rw [this,hL.mulZero (hc t),hL.mulZero (hc' t)]
 ·exact absurd g hne
 ·have:R t (pv s)=0:=h.low t ht _ (h.inc s t g ht)
  rw [this,hL.mulZero (hc t),hL.mulZero (hc' t)]
theorem zkn {c c':Nat->Nat} {i:Nat} (h:∀ s,s<n->actE pv R N i s=true->c s=c' s):packB q (actE pv R N i) c n=packB q (actE pv R N i) c' n:=zaV n h
variable {T:Trel}
theorem MinT.proper (hL:FieldLaws q add mul) (hq:q<=256) (hN:N<=64) (hM:MinT q add mul n N pv R T) (hW:T.sumW (N+1)<=65536) (hE:T.sumE N<=262144):T.Proper:=by
 have b:0<q:=by have:=hL.two; omega
 have d:∀ k,1<=q ^ k:=fun k=>Nat.pow_pos b
 have a:∀ i,i<N->∀ j,j<T.el i->∃ c:Nat->Nat,(∀ s,c s<q)/\T.fr i j=((packB q (actA pv R N i) c n:Nat):Int)/\T.lb i j=((spE add mul R c n i:Nat):Int)/\T.to i j=((packB q (actA pv R N (i+1)) c n:Nat):Int):=fun i hi j hj=>by
  obtain ⟨c,h1,h2⟩:=hM.inn i hi j hj
  simp only [Trel.eD,secE,Prod.mk.injEq] at h2
  exact ⟨c,h1,h2⟩
 have e:=hM.nN
 refine ⟨⟨by omega,by rw [hM.nw]; omega,fun i hi=>?_,by rw [hM.nN]; exact hW,by rw [hM.nN]; exact hE,fun i hi j hj=>?_⟩,?_,?_,fun i hi=>⟨fun j hj=>?_,fun v hv=>?_,fun v hv=>?_⟩⟩
 ·rw [hM.w i (by omega)]
  have:=d (cntB (actA pv R N i) n)
  omega
 ·obtain ⟨c,h1,h2,_,h4⟩:=a i (by omega) j hj
  have l1:=zbN (D:=actA pv R N i) n fun s _=>h1 s
  have l2:=zbN (D:=actA pv R N (i+1)) n fun s _=>h1 s
  unfold Trel.inside
  rw [h2,h4,hM.w i (by omega),hM.w (i+1) (by omega)]
  omega
 ·rw [hM.w 0 (by omega),zcq zfv]
  rfl
 ·rw [hM.nN,hM.w N (by omega),zcq zkl]
  rfl
 ·obtain ⟨c,h1,h2,h3,h4⟩:=a i (by omega) j hj
  have l1:=za6 hL (V:=R) c n i
  refine ⟨by rw [h3]; omega,by rw [h3]; omega,fun h0=>?_⟩
  exact hM.srt i (by omega) (j - 1) j (by omega) hj
 ·rw [hM.w i (by omega)] at hv
  obtain ⟨c,h1,_,h3⟩:=zaN b (D:=actA pv R N i) n v (by omega)
  obtain ⟨j,hj,e⟩:=hM.out i (by omega) c h1
  simp only [Trel.eD,secE,Prod.mk.injEq] at e
  exact za2.2 ⟨j,hj,by rw [e.1,h3]⟩
 rw [hM.w (i+1) (by omega)] at hv
 obtain ⟨c,h1,_,h3⟩:=zaN b (D:=actA pv R N (i+1)) n v (by omega)
 obtain ⟨j,hj,e⟩:=hM.out i (by omega) c h1
 simp only [Trel.eD,secE,Prod.mk.injEq] at e
 exact za2.2 ⟨j,hj,by rw [e.2.2,h3]⟩
end
section
variable {q n N:Nat} {add mul:Nat->Nat->Nat} {pv:Nat->Nat} {R:Nat->Nat->Nat} {T:Trel}
theorem MinT.edge (hM:MinT q add mul n N pv R T) {i:Nat} (hi:i<N) {c:Nat->Nat} (hc:∀ s,c s<q) :
  ∃ j,j<T.el i/\T.fr i j=((packB q (actA pv R N i) c n:Nat):Int)/\T.lb i j=((spE add mul R c n i:Nat):Int)/\T.to i j=((packB q (actA pv R N (i+1)) c n:Nat):Int):=by
 obtain ⟨j,hj,e⟩:=hM.out i hi c hc
 simp only [Trel.eD,secE,Prod.mk.injEq] at e
 exact ⟨j,hj,e⟩
end
def powS (q:Nat) (d:Nat->Nat):Nat->Nat
 | 0=>0
 | i+1=>powS q d i+q ^ d i
theorem zc2 {q:Nat} {d:Nat->Nat}:∀ i k,powS q d i<=powS q d (i+k)
 | _,0=>Nat.le_refl _
 | i,k+1=>Nat.le_trans (zc2 i k) (Nat.le_add_right _ _)
theorem zbR {q:Nat} {d d':Nat->Nat}:∀ m,(∀ i,i<m->d i=d' i)->powS q d m=powS q d' m
 | 0,_=>rfl
 | m+1,h=>by
  show powS q d m+q ^ d m=powS q d' m+q ^ d' m
  rw [zbR m fun i hi=>h i (by omega),h m (by omega)]
theorem zk7 {q:Nat} {d:Nat->Nat} {m i:Nat} (h:i<m):q ^ d i<=powS q d m:=by
 have h1:=zc2 (q:=q) (d:=d) (i+1) (m - (i+1))
 rw [show i+1+(m - (i+1))=m by omega] at h1
 have h2:powS q d (i+1)=powS q d i+q ^ d i:=rfl
 omega
def SizeIn (q n N:Nat) (pv:Nat->Nat) (R:Nat->Nat->Nat):Prop:=powS q (fun i=>cntB (actA pv R N i) n) (N+1)<=65536/\powS q (fun i=>cntB (actE pv R N i) n) N<=262144
section
variable {q n N:Nat} {add mul:Nat->Nat->Nat} {pv:Nat->Nat} {R:Nat->Nat->Nat} {T:Trel}
theorem MinT.sums (hM:MinT q add mul n N pv R T):T.sumW (N+1)=(powS q (fun i=>cntB (actA pv R N i) n) (N+1):Nat)/\T.sumE N=powS q (fun i=>cntB (actE pv R N i) n) N:=by
 constructor
 ·have:∀ m,m<=N+1->T.sumW m=(powS q (fun i=>cntB (actA pv R N i) n) m:Nat):=by
   intro m
   induction m with
   | zero=>intro _; rfl
   | succ m ih =>
    intro h
    show T.sumW m+T.W m=((powS q (fun i=>cntB (actA pv R N i) n) m+q ^ cntB (actA pv R N m) n:Nat):Int)
    rw [ih (by omega),hM.w m (by omega)]
    push_cast
    rfl
  exact this _ (Nat.le_refl _)
 have:∀ m,m<=N->T.sumE m=powS q (fun i=>cntB (actE pv R N i) n) m:=by
  intro m
  induction m with
  | zero=>intro _; rfl
  | succ m ih =>
   intro h
   show T.sumE m+T.el m=powS q (fun i=>cntB (actE pv R N i) n) m+q ^ cntB (actE pv R N m) n
   rw [ih (by omega),hM.el m (by omega)]
 exact this _ (Nat.le_refl _)
theorem MinT.proper_in (hL:FieldLaws q add mul) (hq:q<=256) (hN:N<=64) (hM:MinT q add mul n N pv R T) (h:SizeIn q n N pv R):T.Proper :=
 hM.proper hL hq hN (by rw [hM.sums.1]; have:=h.1; omega) (by rw [hM.sums.2]; exact h.2)
theorem SpanF.ranks2 (hL:FieldLaws q add mul) {pv:Nat->Nat} {V R:Nat->Nat->Nat} (h:SpanF q n N pv R) (hV:∀ i,i<n->∀ j,j<N->V i j<q) (hS:SameSp q add mul N n n V R) (hd:∀ i j,i<j->j<n->lE (R i) N≠lE (R j) N)
  {i1 i a b:Nat} (hi1:i1<=N) (hi:i<=i1) (ha:RankIs q add mul n V 0 i1 a) (hb:RankIs q add mul n V i (N - i) b):a+b=cntB (fun s=>decide (pv s<i1) && decide ((i:Int)<=lE (R s) N)) n+n:=by
 obtain ⟨p1,W1,e,k⟩:=ha
 obtain ⟨p2,W2,d,f⟩:=hb
 have e1:SameSp q add mul i1 n a (fun s j=>R s (0+j)) W1:=fun x=>((hS.cut (lo:=0) (m:=i1) (by omega) x).symm.trans ((RowOps.sp hL (fun s hs j hj=>hV s hs (0+j) (by omega)) k).1 x)).trans (EchN.sp_top hL e x)
 have e2:SameSp q add mul (N - i) n b (fun s j=>R s (i+j)) W2:=fun x=>((hS.cut (lo:=i) (m:=N - i) (by omega) x).symm.trans ((RowOps.sp hL (fun s hs j hj=>hV s hs (i+j) (by omega)) f).1 x)).trans (EchN.sp_top hL d x)
 have k1:a=cntB (fun s=>decide (pv s<i1)) n:=by
  refine zed hL (κ:=pv) (μ:=fun s=>s) (fun s hs j hj=>h.lt s hs (0+j) (by omega)) e.top e1 (fun s hs hD=>?_) (fun s t hs ht hD hne=>?_) (fun s hs hD j hj=>?_)
  ·have hD:=of_decide_eq_true hD
   refine ⟨hD,?_⟩
   show R s (0+pv s)≠0
   rw [Nat.zero_add,h.one s hs]
   omega
  ·have hD:=of_decide_eq_true hD
   rcases Nat.lt_or_ge t s with g | g
   ·exact .inr ⟨decide_eq_true (by have:=h.inc t s g hs; omega),g⟩
   refine .inl ?_
   show R t (0+pv s)=0
   rw [Nat.zero_add]
   exact h.low t ht _ (h.inc s t (by omega) ht)
  have hD:=of_decide_eq_false hD
  show R s (0+j)=0
  rw [Nat.zero_add]
  exact h.low s hs j (by omega)
 have k2:b=cntB (fun s=>decide ((i:Int)<=lE (R s) N)) n:=by
  have c:=fun s=>ziN (u:=R s) N
  refine zed hL (κ:=fun s=>(lE (R s) N).toNat - i) (μ:=fun s=>N - (lE (R s) N).toNat) (fun s hs j hj=>h.lt s hs (i+j) (by omega)) d.top e2 (fun s hs hD=>?_) (fun s t hs ht hD hne=>?_) (fun s hs hD j hj=>?_)
  ·have hD:=of_decide_eq_true hD
   have h1:=c s
   have h2:=zkx (u:=R s) N (lE (R s) N).toNat (by omega)
   refine ⟨by omega,?_⟩
   show R s (i+((lE (R s) N).toNat - i))≠0
   rw [show i+((lE (R s) N).toNat - i)=(lE (R s) N).toNat by omega]
   exact h2.2
  rotate_left
  ·have hD:=of_decide_eq_false hD
   have h1:=c s
   show R s (i+j)=0
   exact zbv (n:=N) (by omega) (by omega)
  have hD:=of_decide_eq_true hD
  have h1:=c s
  have h2:=c t
  show R t (i+((lE (R s) N).toNat - i))=0∨_
  rw [show i+((lE (R s) N).toNat - i)=(lE (R s) N).toNat by omega]
  have l:lE (R s) N≠lE (R t) N:=by
   rcases Nat.lt_or_ge s t with g | g
   ·exact hd s t g ht
   ·exact (hd t s (by omega) hs).symm
  by_cases g:lE (R t) N<lE (R s) N
  ·exact .inl (zbv (n:=N) (by omega) (by omega))
  ·exact .inr ⟨decide_eq_true (by omega),by omega⟩
 rw [k1,k2]
 exact zeb n fun s hs=>by
  have h1:=h.pos hs
  by_cases g:pv s<i1
  ·exact .inl (decide_eq_true g)
  ·exact .inr (decide_eq_true (by omega))
theorem SpanF.prof (hL:FieldLaws q add mul) {pv:Nat->Nat} {V R:Nat->Nat->Nat} (h:SpanF q n N pv R) (hV:∀ i,i<n->∀ j,j<N->V i j<q) (hS:SameSp q add mul N n n V R) (hd:∀ i j,i<j->j<n->lE (R i) N≠lE (R j) N)
  {i a b:Nat} (hi:i<=N) (ha:RankIs q add mul n V 0 i a) (hb:RankIs q add mul n V i (N - i) b):a+b=cntB (actA pv R N i) n+n:=SpanF.ranks hL h hV hS hd hi ha hb
theorem SpanF.sects (hL:FieldLaws q add mul) {pv:Nat->Nat} {V R:Nat->Nat->Nat} (h:SpanF q n N pv R) (hV:∀ i,i<n->∀ j,j<N->V i j<q) (hS:SameSp q add mul N n n V R) (hd:∀ i j,i<j->j<n->lE (R i) N≠lE (R j) N)
  {i a b:Nat} (hi:i<N) (ha:RankIs q add mul n V 0 (i+1) a) (hb:RankIs q add mul n V i (N - i) b):a+b=cntB (actE pv R N i) n+n:=by
 have:=SpanF.ranks2 hL h hV hS hd (i1:=i+1) (i:=i) (by omega) (by omega) ha hb
 rw [this]
 congr 1
 refine zeQ n fun s _=>?_
 unfold actE
 congr 1
 exact decide_eq_decide.2 (by omega)
end
theorem zko (q k:Nat) (w:World) (hq:2<=q) (hq2:q<=1048576) (hk:k<=1048576) :
  Calls Tryz.prog 148 #[.int .i64 (q:Nat),.int .i64 (k:Nat),.int .i64 0] w (ExpNPost q k 0 w):=by
 have hp:Hid (0<q ^ k):=hid (Nat.pow_pos (by omega))
 have c1:¬ ((q:Int)<0):=by omega
 have c2:¬ ((k:Int)<0):=by omega
 have c3:¬ ((0:Int)<0):=by omega
 have c4:((q:Int) == 0)=false:=by simp; omega
 have c5:((0:Int) == 0)=true:=by simp
 go_enter Tryz.func148, Tryz.ntmps148
 go_wp2
 go_ret2
 exact ⟨.inr ⟨hp.out,rfl⟩,Below.refl _ _⟩
theorem zeS (q k most:Nat) (w:World) (hq:2<=q) (hq2:q<=1048576) (hk:k<=1048576) (hm2:most<=1048576) :
  Calls Tryz.prog 148 #[.int .i64 (q:Nat),.int .i64 (k:Nat),.int .i64 (most:Nat)] w (ExpNPost q k most w):=by
 by_cases h:most=0
 ·subst h
  exact zko q k w hq hq2 hk
 ·exact zk1 q k most w hq hq2 hk (by omega) hm2
theorem zbF (D:Nat->Bool) (n:Nat):cntB D (n+1)=cntB D n+if D n then 1 else 0:=rfl
theorem zkp (q n N:Nat) (pv:Nat->Nat) (R:Nat->Nat->Nat) (T:Option Addr) (d:Nat) (w:World) (h:IntRows w T n (fun _=>N) (fun s j=>((R s j:Nat):Int))) (hS:SpanF q n N pv R) (hq:2<=q) (hq2:q<=256) (hn:n<=64) (hN:N<=64) :
  Calls Tryz.prog 75 #[.int .i64 (q:Nat),.int .i64 (N:Nat),.slice T n d] w fun e w'=>((SizeIn q n N pv R/\e=.returned (.int .i64 0))∨(¬ SizeIn q n N pv R/\e=.returned (.int .i64 8)))/\Below w.heap.size w w':=by
 have HR:=hid h
 have HS:=hid hS
 clear h hS
 obtain ⟨dA,z⟩:∃ dA:Nat->Nat,dA=fun i=>cntB (actA pv R N i) n:=⟨_,rfl⟩
 obtain ⟨dE,E⟩:∃ dE:Nat->Nat,dE=fun i=>cntB (actE pv R N i) n:=⟨_,rfl⟩
 have a7:=hid z
 have a6:=hid E
 have t:dA 0=0:=by rw [z]; exact zcq zfv n
 have F:Hid (SizeIn q n N pv R↔powS q dA (N+1)<=65536/\powS q dE N<=262144):=hid (by rw [z,E]; exact Iff.rfl)
 have a8:=hid t
 clear z E t
 go_enter Tryz.func75, Tryz.ntmps75
 go_upto_region 3 with fail
 go_loopg [7,8,21] N (fun gg nv ev iv wx=>∃ i nd ed:Nat,iv=.int .i64 (i:Nat)/\nv=.int .i64 (nd:Nat)/\ev=.int .i64 (ed:Nat)/\i<=N/\N<=i+gg/\Hid (nd=powS q dA (i+1))/\Hid (ed=powS q dE i)/\nd<=65536/\ed<=262144/\Below w.heap.size w wx)
 case atStart=>exact ⟨0,1,0,rfl,rfl,rfl,by omega,by omega,hid (by show 1=0+q ^ dA 0; rw [a8.out]; simp),hid rfl,by omega,by omega,Below.refl _ _⟩
 obtain ⟨i,nd,ed,rfl,rfl,rfl,hi,ac,M,O,ab,ae,v⟩:=hrel
 have ad:(0:Int)<=(i:Int):=by omega
 have HB:=hid v
 obtain ⟨w3,V⟩:=exx wr
 subst V
 clear v
 by_cases hlt:i<N
 rotate_left
 ·have D:¬ (i:Int)<(N:Int):=by omega
  obtain rfl:i=N:=by omega
  have a1:Hid (SizeIn q n i pv R):=hid (F.out.2 ⟨by have:=M.out; omega,by have:=O.out; omega⟩)
  go_wp2
  go_ret
  exact ⟨.inl ⟨a1.out,rfl⟩,HB.out⟩
 have D:(i:Int)<(N:Int):=by omega
 obtain ⟨gO,Y⟩:=exx gk
 subst Y
 go_upto_region 7 with fail
 go_loopg [10,11,26] n (fun gg av bv sv wx=>∃ s a b:Nat,sv=.int .i64 (s:Nat)/\av=.int .i64 (a:Nat)/\bv=.int .i64 (b:Nat)/\s<=n/\n<=s+gg/\Hid (a=cntB (actA pv R N (i+1)) s)/\Hid (b=cntB (actE pv R N i) s)/\a<=s/\b<=s/\Below w.heap.size w wx)
 case atStart=>exact ⟨0,0,0,rfl,rfl,rfl,by omega,by omega,hid rfl,hid rfl,by omega,by omega,HB.out⟩
 clear HB
 obtain ⟨s,a,b,rfl,rfl,rfl,hs,a9,HA,HE,ag,af,v⟩:=hrel
 have aa:(0:Int)<=(s:Int):=by omega
 have HB:=hid v
 obtain ⟨w4,U⟩:=exx wr
 subst U
 clear v
 by_cases hsn:s<n
 ·have B:(s:Int)<(n:Int):=by omega
  obtain ⟨b1,o1,RA,rc,a0,Z,x0,h1,h2,h3,h4⟩:=HR.out s hsn
  subst a0
  replace x0:=cellS HB.out x0
  have G:=hid h3
  clear h3 h4 h1 h2 Z
  go_wp2_with fail
  clear x0
  refine (zea RA N rc (R s) w4 (G.out.on HB.out) (by omega)).mono ?_
  rintro e w5 ⟨rfl,kb⟩
  replace HB:=hid (onS HB.out kb);clear kb;rw [HS.out.first hsn]
  have C:=HS.out.pos hsn
  have m:actA pv R N (i+1) s=true↔(pv s<=i/\(i:Int)<lE (R s) N):=by rw [zaM]; omega
  have c:actE pv R N i s=true↔(pv s<=i/\(i:Int)<=lE (R s) N):=zbQ i s
  obtain ⟨p,hp⟩:=exx (pv s)
  obtain ⟨l,hl⟩:=exx (lE (R s) N)
  rw [<-hp,<-hl] at C m c ⊢;clear hp hl
  by_cases g1:p<=i
  rotate_left
  ·have g1':¬ (p:Int)<=(i:Int):=by omega
   have g1d:decide ((p:Int)<=(i:Int))=false:=by simp; omega
   have r:actA pv R N (i+1) s=false:=by
    cases hb:actA pv R N (i+1) s with
    | false=>rfl
    | true=>exact absurd (m.1 hb).1 g1
   have o:Hid (a=cntB (actA pv R N (i+1)) (s+1)):=hid (by rw [zbF,r,<-HA.out]; rfl)
   have u:actE pv R N i s=false:=by
    cases hb:actE pv R N i s with
    | false=>rfl
    | true=>exact absurd (c.1 hb).1 g1
   have k:Hid (b=cntB (actE pv R N i) (s+1)):=hid (by rw [zbF,u,<-HE.out]; rfl)
   clear m c r u
   go_wp2
   go_roundg (gk - 1)
   case measure=>omega
   case rel=>exact ⟨s+1,a,b,by go_num,rfl,rfl,by omega,by omega,o,k,by omega,by omega,HB.out⟩
  have g1':(p:Int)<=(i:Int):=by omega
  have g1d:decide ((p:Int)<=(i:Int))=true:=by simp; omega
  by_cases g2:(i:Int)<l
  ·have g3:(i:Int)<=l:=by omega
   have g2d:decide ((i:Int)<l)=true:=by simp; omega
   have g3d:decide ((i:Int)<=l)=true:=by simp; omega
   have o:Hid (a+1=cntB (actA pv R N (i+1)) (s+1)):=hid (by rw [zbF,m.2 ⟨g1,g2⟩,<-HA.out]; rfl)
   have k:Hid (b+1=cntB (actE pv R N i) (s+1)):=hid (by rw [zbF,c.2 ⟨g1,g3⟩,<-HE.out]; rfl)
   clear m c
   go_wp2
   go_roundg (gk - 1)
   case measure=>omega
   case rel=>exact ⟨s+1,a+1,b+1,by go_num,by go_num,by go_num,by omega,by omega,o,k,by omega,by omega,HB.out⟩
  have g2d:decide ((i:Int)<l)=false:=by simp; omega
  have r:actA pv R N (i+1) s=false:=by
   cases hb:actA pv R N (i+1) s with
   | false=>rfl
   | true=>exact absurd (m.1 hb).2 g2
  have o:Hid (a=cntB (actA pv R N (i+1)) (s+1)):=hid (by rw [zbF,r,<-HA.out]; rfl)
  by_cases g3:(i:Int)<=l
  ·have g3d:decide ((i:Int)<=l)=true:=by simp; omega
   have k:Hid (b+1=cntB (actE pv R N i) (s+1)):=hid (by rw [zbF,c.2 ⟨g1,g3⟩,<-HE.out]; rfl)
   clear m c r
   go_wp2
   go_roundg (gk - 1)
   case measure=>omega
   case rel=>exact ⟨s+1,a,b+1,by go_num,rfl,by go_num,by omega,by omega,o,k,by omega,by omega,HB.out⟩
  have g3d:decide ((i:Int)<=l)=false:=by simp; omega
  have u:actE pv R N i s=false:=by
   cases hb:actE pv R N i s with
   | false=>rfl
   | true=>exact absurd (c.1 hb).2 g3
  have k:Hid (b=cntB (actE pv R N i) (s+1)):=hid (by rw [zbF,u,<-HE.out]; rfl)
  clear m c r u
  go_wp2
  go_roundg (gk - 1)
  case measure=>omega
  case rel=>exact ⟨s+1,a,b,by go_num,rfl,rfl,by omega,by omega,o,k,by omega,by omega,HB.out⟩
 have B:¬ (s:Int)<(n:Int):=by omega
 obtain rfl:s=n:=by omega
 obtain ⟨mo,K⟩:∃ mo:Nat,mo=65536 - nd:=⟨_,rfl⟩
 have m1:wrap64 ((65536:Int) - (nd:Int))=(mo:Int):=by unfold wrap64; omega
 have m2:IntKind.i64.wrap ((65536:Int) - (nd:Int))=(mo:Int):=by rw [IntWalk.i64_in _ (by omega)]; omega
 obtain ⟨me,L⟩:∃ me:Nat,me=262144 - ed:=⟨_,rfl⟩
 have m3:wrap64 ((262144:Int) - (ed:Int))=(me:Int):=by unfold wrap64; omega
 have m4:IntKind.i64.wrap ((262144:Int) - (ed:Int))=(me:Int):=by rw [IntWalk.i64_in _ (by omega)]; omega
 have a3:=hid K
 have a4:=hid L
 have W:mo<=65536:=by omega
 have X:me<=262144:=by omega
 have o:Hid (a=dA (i+1)):=hid (by rw [a7.out]; exact HA.out)
 have k:Hid (b=dE i):=hid (by rw [a6.out]; exact HE.out)
 clear K L HA HE
 go_wp2_with fail
 refine (zeS q a mo w4 hq (by omega) (by omega) (by omega)).mono ?_
 rintro e w5 ⟨hx,kb⟩
 have S:∃ x1 e1:Int,e=.returned (.tuple #[.int .i64 x1,.int .i64 e1])/\((q ^ a<=mo/\x1=(q ^ a:Nat)/\e1=0)∨(mo<q ^ a/\e1=8)):=by
  rcases hx with ⟨h1,h2⟩ | ⟨h1,h2⟩
  ·exact ⟨_,_,h2,.inl ⟨h1,rfl,rfl⟩⟩
  ·exact ⟨_,_,h2,.inr ⟨h1,rfl⟩⟩
 obtain ⟨x1,e1,rfl,J⟩:=S
 have HX:=hid J
 replace HB:=hid (onS HB.out kb);clear hx J kb
 go_wp2_with fail
 refine (zeS q b me w5 hq (by omega) (by omega) (by omega)).mono ?_
 rintro e w6 ⟨hy,kb⟩
 have Q:∃ y1 f1:Int,e=.returned (.tuple #[.int .i64 y1,.int .i64 f1])/\((q ^ b<=me/\y1=(q ^ b:Nat)/\f1=0)∨(me<q ^ b/\f1=8)):=by
  rcases hy with ⟨h1,h2⟩ | ⟨h1,h2⟩
  ·exact ⟨_,_,h2,.inl ⟨h1,rfl,rfl⟩⟩
  ·exact ⟨_,_,h2,.inr ⟨h1,rfl⟩⟩
 obtain ⟨y1,f1,rfl,I⟩:=Q
 have HY:=hid I
 replace HB:=hid (onS HB.out kb);clear hy I kb m1 m2 m3 m4
 have eA:powS q dA (i+2)=powS q dA (i+1)+q ^ dA (i+1):=rfl
 have eE:powS q dE (i+1)=powS q dE i+q ^ dE i:=rfl
 have mA:powS q dA (i+2)<=powS q dA (N+1):=by
  have:=zc2 (q:=q) (d:=dA) (i+2) (N+1 - (i+2))
  rwa [show i+2+(N+1 - (i+2))=N+1 by omega] at this
 have mE:powS q dE (i+1)<=powS q dE N:=by
  have:=zc2 (q:=q) (d:=dE) (i+1) (N - (i+1))
  rwa [show i+1+(N - (i+1))=N by omega] at this
 have b1:=M.out
 have b2:=O.out
 have b3:=o.out
 have b4:=k.out
 have b5:=a3.out
 have b6:=a4.out
 rcases HX.out with ⟨x2,rfl,rfl⟩ | ⟨x2,rfl⟩
 rotate_left
 ·have P:((8:Int) != 0)=true:=by simp
  have H:Hid (¬ SizeIn q s N pv R):=hid fun g=>by
   have:=(F.out.1 g).1
   rw [b3] at x2
   omega
  clear HX HY b1 b2 b3 b4 eA eE mA mE
  go_wp2
  go_ret
  exact ⟨.inr ⟨H.out,rfl⟩,HB.out⟩
 have hz:((0:Int) != 0)=false:=by simp
 rcases HY.out with ⟨y2,rfl,rfl⟩ | ⟨y2,rfl⟩
 ·obtain ⟨qa,y⟩:∃ qa,qa=q ^ a:=⟨_,rfl⟩
  obtain ⟨qb,x⟩:=exx (q ^ b)
  have a2:Hid (nd+qa=powS q dA (i+1+1)):=hid (by rw [y,b3,b1,<-b3]; rw [show i+1+1=i+2 by omega,eA,b3])
  have a5:Hid (ed+qb=powS q dE (i+1)):=hid (by rw [x,b4,b2]; exact eE.symm)
  rw [<-y] at x2;rw [<-x] at y2;rw [<-y,<-x];clear y x HX HY b1 b2 b3 b4 eA eE mA mE
  go_wp2
  go_roundg (gO - 1)
  case measure=>omega
  case rel=>exact ⟨i+1,nd+qa,ed+qb,by go_num,by go_num,by go_num,by omega,by omega,a2,a5,by omega,by omega,HB.out⟩
 have P:((8:Int) != 0)=true:=by simp
 have H:Hid (¬ SizeIn q s N pv R):=hid fun g=>by
  have:=(F.out.1 g).2
  rw [b4] at y2
  omega
 clear HX HY b1 b2 b3 b4 eA eE mA mE
 go_wp2
 go_ret
 exact ⟨.inr ⟨H.out,rfl⟩,HB.out⟩
def stepE (q:Nat) (add mul:Nat->Nat->Nat) (pv:Nat->Nat) (R:Nat->Nat->Nat) (N i t:Nat) (e:Int × Int × Int) (a:Nat):Int × Int × Int :=
 (if pv t<i then e.1*(q:Nat)+(a:Nat) else e.1,((add e.2.1.toNat (mul a (R t i)):Nat):Int),if (i:Int)<lE (R t) N then e.2.2*(q:Nat)+(a:Nat) else e.2.2)
def SecX (q:Nat) (add mul:Nat->Nat->Nat) (pv:Nat->Nat) (R:Nat->Nat->Nat) (N i t:Nat) (x:Nat->Int × Int × Int):Prop :=
 ∀ c:Nat->Nat,(∀ s,c s<q)->x (packB q (actE pv R N i) c t)=secE q add mul pv R N t i c
structure SecM (q:Nat) (add mul:Nat->Nat->Nat) (n N:Nat) (pv:Nat->Nat) (R:Nat->Nat->Nat) (i m:Nat) (y:Nat->Int × Int × Int):Prop where
 el:m=q ^ cntB (actE pv R N i) n
 out:∀ c:Nat->Nat,(∀ s,c s<q)->∃ j,j<m/\y j=secE q add mul pv R N n i c
 inn:∀ j,j<m->∃ c:Nat->Nat,(∀ s,c s<q)/\y j=secE q add mul pv R N n i c
 srt:∀ a b,a<b->b<m->ltE (y a) (y b)
section
variable {q n N:Nat} {add mul:Nat->Nat->Nat} {pv:Nat->Nat} {R:Nat->Nat->Nat} {i:Nat}
theorem zi0:SecX q add mul pv R N i 0 (fun _=>(0,0,0)):=fun _ _=>rfl
theorem zi1 (hL:FieldLaws q add mul) (h:SpanF q n N pv R) (hi:i<N) {t:Nat} (ht:t<n) {x:Nat->Int × Int × Int} (hA:actE pv R N i t=false) (hx:SecX q add mul pv R N i t x):SecX q add mul pv R N i (t+1) x:=by
 have hR:R t i=0:=by
  by_cases g1:pv t<=i
  ·by_cases g2:(i:Int)<=lE (R t) N
   ·rw [(zbQ i t).2 ⟨g1,g2⟩] at hA
    cases hA
   ·exact zbv (n:=N) hi (by omega)
  ·exact h.low t ht i (by omega)
 have hn:¬ (pv t<=i/\(i:Int)<=lE (R t) N):=fun g=>by rw [(zbQ i t).2 g] at hA; cases hA
 have h1:actA pv R N i t=false:=by
  cases hb:actA pv R N i t with
  | false=>rfl
  | true=>have:=(zaM i t).1 hb; exact absurd ⟨by omega,this.2⟩ hn
 have h2:actA pv R N (i+1) t=false:=by
  cases hb:actA pv R N (i+1) t with
  | false=>rfl
  | true=>have:=(zaM (i+1) t).1 hb; exact absurd ⟨by omega,by omega⟩ hn
 intro c hc
 have e0:packB q (actE pv R N i) c (t+1)=packB q (actE pv R N i) c t:=by
  show (if actE pv R N i t then packB q (actE pv R N i) c t*q+c t else packB q (actE pv R N i) c t)=_
  rw [hA]; rfl
 have e1:packB q (actA pv R N i) c (t+1)=packB q (actA pv R N i) c t:=by
  show (if actA pv R N i t then packB q (actA pv R N i) c t*q+c t else packB q (actA pv R N i) c t)=_
  rw [h1]; rfl
 have e2:packB q (actA pv R N (i+1)) c (t+1)=packB q (actA pv R N (i+1)) c t:=by
  show (if actA pv R N (i+1) t then packB q (actA pv R N (i+1)) c t*q+c t else packB q (actA pv R N (i+1)) c t)=_
  rw [h2]; rfl
 have e3:spE add mul R c (t+1) i=spE add mul R c t i:=by
  show add (spE add mul R c t i) (mul (c t) (R t i))=_
  rw [hR,hL.mulZero (hc t),hL.addComm,hL.zeroAdd _ (za6 hL _ _ _)]
 rw [e0,hx c hc]
 unfold secE
 rw [e1,e2,e3]
theorem zi2 {t:Nat} {x:Nat->Int × Int × Int} (hA:actE pv R N i t=true) (hx:SecX q add mul pv R N i t x):SecX q add mul pv R N i (t+1) (fun y=>stepE q add mul pv R N i t (x (y / q)) (y % q)):=by
 obtain ⟨g1,g2⟩:=(zbQ i t).1 hA
 intro c hc
 have hq:0<q:=by have:=hc 0; omega
 have e0:packB q (actE pv R N i) c (t+1)=packB q (actE pv R N i) c t*q+c t:=by
  show (if actE pv R N i t then packB q (actE pv R N i) c t*q+c t else packB q (actE pv R N i) c t)=_
  rw [hA]; rfl
 have d1:(packB q (actE pv R N i) c t*q+c t) / q=packB q (actE pv R N i) c t:=by
  rw [Nat.mul_comm,Nat.mul_add_div hq,Nat.div_eq_of_lt (hc t),Nat.add_zero]
 have d2:(packB q (actE pv R N i) c t*q+c t) % q=c t:=by
  rw [Nat.mul_add_mod_self_right,Nat.mod_eq_of_lt (hc t)]
 show stepE q add mul pv R N i t (x (packB q (actE pv R N i) c (t+1) / q)) (packB q (actE pv R N i) c (t+1) % q)=_
 rw [e0,d1,d2,hx c hc]
 unfold stepE secE
 have e1:packB q (actA pv R N i) c (t+1)=if pv t<i then packB q (actA pv R N i) c t*q+c t else packB q (actA pv R N i) c t:=by
  show (if actA pv R N i t then packB q (actA pv R N i) c t*q+c t else packB q (actA pv R N i) c t)=_
  by_cases g:pv t<i
  ·rw [(zaM i t).2 ⟨g,g2⟩,if_pos g]; rfl
  have:actA pv R N i t=false:=by
   cases hb:actA pv R N i t with
   | false=>rfl
   | true=>exact absurd ((zaM i t).1 hb).1 g
  rw [this,if_neg g]; rfl
 have e2:packB q (actA pv R N (i+1)) c (t+1)=if (i:Int)<lE (R t) N then packB q (actA pv R N (i+1)) c t*q+c t else packB q (actA pv R N (i+1)) c t:=by
  show (if actA pv R N (i+1) t then packB q (actA pv R N (i+1)) c t*q+c t else packB q (actA pv R N (i+1)) c t)=_
  by_cases g:(i:Int)<lE (R t) N
  ·rw [(zaM (i+1) t).2 ⟨by omega,by omega⟩,if_pos g]; rfl
  have:actA pv R N (i+1) t=false:=by
   cases hb:actA pv R N (i+1) t with
   | false=>rfl
   | true=>have:=((zaM (i+1) t).1 hb).2; omega
  rw [this,if_neg g]; rfl
 rw [e1,e2]
 refine Prod.ext ?_ (Prod.ext ?_ ?_)
 ·show (if pv t<i then _ else _)=_
  split <;> push_cast <;> rfl
 ·show ((add ((spE add mul R c t i:Nat):Int).toNat (mul (c t) (R t i)):Nat):Int)=((add (spE add mul R c t i) (mul (c t) (R t i)):Nat):Int)
  rw [Int.toNat_natCast]
 ·show (if (i:Int)<lE (R t) N then _ else _)=_
  split <;> push_cast <;> rfl
theorem zk8 (hL:FieldLaws q add mul) {t:Nat} {x:Nat->Int × Int × Int} (hx:SecX q add mul pv R N i t x) {y:Nat} (hy:y<q ^ cntB (actE pv R N i) t) :
  0<=(x y).1/\(x y).1<((q ^ cntB (actA pv R N i) t:Nat):Int)/\0<=(x y).2.1/\(x y).2.1<(q:Int)/\0<=(x y).2.2/\(x y).2.2<((q ^ cntB (actA pv R N (i+1)) t:Nat):Int):=by
 obtain ⟨c,h1,_,h3⟩:=zaN (by have:=hL.two; omega) t y hy
 have l1:=zbN (D:=actA pv R N i) t fun s _=>h1 s
 have l2:=zbN (D:=actA pv R N (i+1)) t fun s _=>h1 s
 have l3:=za6 hL (V:=R) c t i
 rw [<-h3,hx c h1]
 unfold secE
 refine ⟨by show (0:Int)<=((_:Nat):Int); omega,by show (((_:Nat):Int))<((_:Nat):Int); omega,by show (0:Int)<=((_:Nat):Int); omega,by show (((_:Nat):Int))<((_:Nat):Int); omega,by show (0:Int)<=((_:Nat):Int); omega,by show (((_:Nat):Int))<((_:Nat):Int); omega⟩
theorem zhT {D E:Nat->Bool} (h:∀ s,D s=true->E s=true):∀ t,cntB D t<=cntB E t
 | 0=>Nat.le_refl _
 | t+1=>by
  have ih:=zhT h t
  show cntB D t+(if D t then 1 else 0)<=cntB E t+if E t then 1 else 0
  cases hD:D t with
  | false=>cases E t <;> simp <;> omega
  | true=>rw [h t hD]; simp; omega
theorem zhU (D:Nat->Bool):∀ t d,cntB D t<=cntB D (t+d)
 | _,0=>Nat.le_refl _
 | t,d+1=>by
  have:=zhU D t d
  show cntB D t<=cntB D (t+d)+if D (t+d) then 1 else 0
  omega
theorem zk9 (hL:FieldLaws q add mul) (h:SpanF q n N pv R) (hi:i<N) {x y:Nat->Int × Int × Int} (hx:SecX q add mul pv R N i n x)
  (hp:((List.range (q ^ cntB (actE pv R N i) n)).map y).Perm ((List.range (q ^ cntB (actE pv R N i) n)).map x)) (hs:∀ a b,a<b->b<q ^ cntB (actE pv R N i) n->¬ ltE (y b) (y a)) :
  SecM q add mul n N pv R i (q ^ cntB (actE pv R N i) n) y:=by
 have hq:0<q:=by have:=hL.two; omega
 have d:∀ j,j<q ^ cntB (actE pv R N i) n->∃ c:Nat->Nat,(∀ s,c s<q)/\x j=secE q add mul pv R N n i c:=fun j hj=>by
  obtain ⟨c,h1,_,h3⟩:=zaN hq n j hj
  exact ⟨c,h1,by rw [<-h3,hx c h1]⟩
 have k:((((List.range (q ^ cntB (actE pv R N i) n)).map x)).map fun t=>(t.1,t.2.1)).Nodup:=by
  rw [List.map_map]
  refine zaj.2 fun a b hab hb e=>?_
  obtain ⟨c,h1,_,h3⟩:=zaN hq (D:=actE pv R N i) n a (by omega)
  obtain ⟨c',g,_,m⟩:=zaN hq (D:=actE pv R N i) n b hb
  simp only [Function.comp,Prod.mk.injEq] at e
  rw [<-h3,<-m,hx c h1,hx c' g] at e
  have:=zkn (q:=q) (zkm hL h hi h1 g e.1 e.2)
  omega
 have f:=((hp.map fun t=>(t.1,t.2.1)).nodup_iff).2 k
 rw [List.map_map] at f
 refine ⟨rfl,fun c hc=>?_,fun j hj=>?_,fun a b hab hb=>?_⟩
 ·have:=hp.mem_iff.2 (List.mem_map.2 ⟨packB q (actE pv R N i) c n,List.mem_range.2 (zbN n fun s _=>hc s),rfl⟩)
  obtain ⟨j,hj,e⟩:=List.mem_map.1 this
  exact ⟨j,List.mem_range.1 hj,by rw [e,hx c hc]⟩
 ·have:=hp.mem_iff.1 (List.mem_map.2 ⟨j,List.mem_range.2 hj,rfl⟩)
  obtain ⟨p,l,e⟩:=List.mem_map.1 this
  obtain ⟨c,h1,h2⟩:=d p (List.mem_range.1 l)
  exact ⟨c,h1,by rw [<-e,h2]⟩
 have h3:=zaj.1 f a b hab hb
 have h4:=hs a b hab hb
 simp only [Function.comp,ne_eq,Prod.mk.injEq] at h3
 unfold ltE at *
 omega
end
end Go.Proofs.YtgekjfpapmlndaaGreat
namespace Go.Proofs
open Go.Shelf
def Tryz.sortInts_ren:Go.Shelf.Ren:=⟨fun | 6 => 156 | 15 => 202 | 14 => 208 | 28 => 219 | 29 => 237 | 20 => 242 | 21 => 243 | 22 => 244 | 23 => 245 | 24 => 246 | 25 => 247 | 26 => 248 | 27 => 249 | 46 => 265 | 47 => 255 | 48 => 256 | 49 => 266 | 50 => 267 | 57 => 269 | n=>n,fun | 22 => 22 | 24 => 3 | 25 => 123 | 3 => 3 | 39 => 200 | 0 => 0 | 53 => 109 | 55 => 71 | 4 => 4 | 46 => 253 | 45 => 252 | 50 => 130 | 5 => 5 | 9 => 9 | 66 => 268 | 70 => 272 | 76 => 280 | 77 => 101 | n=>n,fun | n=>n⟩
theorem Tryz.sortInts:Go.Proofs.SlLaysF.n6 Tryz.prog Tryz.sortInts_ren:={
 mixed:=by kernel_rfl
 f6:=⟨Tryz.f156.name,by decide,Tryz.func156.trans (congrArg some (by kernel_rfl))⟩
 f14:=⟨Tryz.f208.name,by decide,Tryz.func208.trans (congrArg some (by kernel_rfl))⟩
 f15:=Tryz.func202.trans (congrArg some (by kernel_rfl))
 f20:=⟨Tryz.f242.name,by decide,Tryz.func242.trans (congrArg some (by kernel_rfl))⟩
 f21:=⟨Tryz.f243.name,by decide,Tryz.func243.trans (congrArg some (by kernel_rfl))⟩
 f22:=⟨Tryz.f244.name,by decide,Tryz.func244.trans (congrArg some (by kernel_rfl))⟩
 f23:=⟨Tryz.f245.name,by decide,Tryz.func245.trans (congrArg some (by kernel_rfl))⟩
 f24:=⟨Tryz.f246.name,by decide,Tryz.func246.trans (congrArg some (by kernel_rfl))⟩
 f25:=⟨Tryz.f247.name,by decide,Tryz.func247.trans (congrArg some (by kernel_rfl))⟩
 f26:=⟨Tryz.f248.name,by decide,Tryz.func248.trans (congrArg some (by kernel_rfl))⟩
 f27:=⟨Tryz.f249.name,by decide,Tryz.func249.trans (congrArg some (by kernel_rfl))⟩
 f28:=Tryz.func219.trans (congrArg some (by kernel_rfl))
 f29:=Tryz.func237.trans (congrArg some (by kernel_rfl))
 f46:=⟨Tryz.f265.name,by decide,Tryz.func265.trans (congrArg some (by kernel_rfl))⟩
 f47:=Tryz.func255.trans (congrArg some (by kernel_rfl))
 f48:=Tryz.func256.trans (congrArg some (by kernel_rfl))
 f49:=⟨Tryz.f266.name,by decide,Tryz.func266.trans (congrArg some (by kernel_rfl))⟩
 f50:=⟨Tryz.f267.name,by decide,Tryz.func267.trans (congrArg some (by kernel_rfl))⟩
 f57:=⟨Tryz.f269.name,by decide,Tryz.func269.trans (congrArg some (by kernel_rfl))⟩
 t0:=Tryz.underlying0
 a0:=Tryz.isAgg0
 z0:=Tryz.sizeOf0
 v0:=Tryz.zeroValue0
 t3:=Tryz.underlying3
 a3:=Tryz.isAgg3
 z3:=Tryz.sizeOf3
 v3:=Tryz.zeroValue3
 t4:=Tryz.underlying4
 a4:=Tryz.isAgg4
 z4:=Tryz.sizeOf4
 v4:=Tryz.zeroValue4
 t5:=Tryz.underlying5
 a5:=Tryz.isAgg5
 z5:=Tryz.sizeOf5
 v5:=Tryz.zeroValue5
 t9:=Tryz.underlying9
 a9:=Tryz.isAgg9
 z9:=Tryz.sizeOf9
 v9:=Tryz.zeroValue9
 t22:=Tryz.underlying22
 a22:=Tryz.isAgg22
 z22:=Tryz.sizeOf22
 v22:=Tryz.zeroValue22
 a24:=Tryz.isAgg3
 z24:=Tryz.sizeOf3
 t25:=Tryz.underlying123
 a25:=Tryz.isAgg123
 z25:=Tryz.sizeOf123
 v25:=Tryz.zeroValue123
 t39:=Tryz.underlying200
 a39:=Tryz.isAgg200
 z39:=Tryz.sizeOf200
 v39:=Tryz.zeroValue200
 t45:=Tryz.underlying252
 a45:=Tryz.isAgg252
 z45:=Tryz.sizeOf252
 v45:=Tryz.zeroValue252
 t46:=Tryz.underlying253
 a46:=Tryz.isAgg253
 z46:=Tryz.sizeOf253
 v46:=Tryz.zeroValue253
 t50:=Tryz.underlying130
 a50:=Tryz.isAgg130
 z50:=Tryz.sizeOf130
 v50:=Tryz.zeroValue130
 t53:=Tryz.underlying109
 a53:=Tryz.isAgg109
 z53:=Tryz.sizeOf109
 v53:=Tryz.zeroValue109
 t55:=Tryz.underlying71
 a55:=Tryz.isAgg71
 z55:=Tryz.sizeOf71
 v55:=Tryz.zeroValue71
 t66:=Tryz.underlying268
 a66:=Tryz.isAgg268
 z66:=Tryz.sizeOf268
 v66:=Tryz.zeroValue268
 t70:=Tryz.underlying272
 a70:=Tryz.isAgg272
 z70:=Tryz.sizeOf272
 v70:=Tryz.zeroValue272
 t76:=Tryz.underlying280
 a76:=Tryz.isAgg280
 z76:=Tryz.sizeOf280
 v76:=Tryz.zeroValue280
 t77:=Tryz.underlying101
 a77:=Tryz.isAgg101
 z77:=Tryz.sizeOf101
 v77:=Tryz.zeroValue101 }
def Tryz.sortEdges_ren:Go.Shelf.Ren:=⟨fun | 6 => 150 | 15 => 202 | 14 => 201 | 28 => 219 | 29 => 237 | 20 => 229 | 21 => 230 | 22 => 231 | 23 => 232 | 24 => 233 | 25 => 234 | 26 => 235 | 27 => 236 | 46 => 254 | 47 => 255 | 48 => 256 | 49 => 257 | 50 => 258 | 57 => 268 | n=>n,fun | 22 => 86 | 24 => 90 | 25 => 184 | 3 => 3 | 39 => 200 | 0 => 0 | 53 => 109 | 55 => 71 | 4 => 4 | 46 => 253 | 45 => 252 | 50 => 130 | 5 => 5 | 9 => 9 | 66 => 268 | 70 => 272 | 76 => 280 | 77 => 101 | n=>n,fun | n=>n⟩
theorem Tryz.sortEdges:Go.Proofs.SlLaysF0.n6 Tryz.prog Tryz.sortEdges_ren:={
 mixed:=by kernel_rfl
 f6:=⟨Tryz.f150.name,by decide,Tryz.func150.trans (congrArg some (by kernel_rfl))⟩
 f14:=⟨Tryz.f201.name,by decide,Tryz.func201.trans (congrArg some (by kernel_rfl))⟩
 f15:=Tryz.func202.trans (congrArg some (by kernel_rfl))
 f20:=⟨Tryz.f229.name,by decide,Tryz.func229.trans (congrArg some (by kernel_rfl))⟩
 f21:=⟨Tryz.f230.name,by decide,Tryz.func230.trans (congrArg some (by kernel_rfl))⟩
 f22:=⟨Tryz.f231.name,by decide,Tryz.func231.trans (congrArg some (by kernel_rfl))⟩
 f23:=⟨Tryz.f232.name,by decide,Tryz.func232.trans (congrArg some (by kernel_rfl))⟩
 f24:=⟨Tryz.f233.name,by decide,Tryz.func233.trans (congrArg some (by kernel_rfl))⟩
 f25:=⟨Tryz.f234.name,by decide,Tryz.func234.trans (congrArg some (by kernel_rfl))⟩
 f26:=⟨Tryz.f235.name,by decide,Tryz.func235.trans (congrArg some (by kernel_rfl))⟩
 f27:=⟨Tryz.f236.name,by decide,Tryz.func236.trans (congrArg some (by kernel_rfl))⟩
 f28:=Tryz.func219.trans (congrArg some (by kernel_rfl))
 f29:=Tryz.func237.trans (congrArg some (by kernel_rfl))
 f46:=⟨Tryz.f254.name,by decide,Tryz.func254.trans (congrArg some (by kernel_rfl))⟩
 f47:=Tryz.func255.trans (congrArg some (by kernel_rfl))
 f48:=Tryz.func256.trans (congrArg some (by kernel_rfl))
 f49:=⟨Tryz.f257.name,by decide,Tryz.func257.trans (congrArg some (by kernel_rfl))⟩
 f50:=⟨Tryz.f258.name,by decide,Tryz.func258.trans (congrArg some (by kernel_rfl))⟩
 f57:=⟨Tryz.f268.name,by decide,Tryz.func268.trans (congrArg some (by kernel_rfl))⟩
 t0:=Tryz.underlying0
 a0:=Tryz.isAgg0
 z0:=Tryz.sizeOf0
 v0:=Tryz.zeroValue0
 t3:=Tryz.underlying3
 a3:=Tryz.isAgg3
 z3:=Tryz.sizeOf3
 v3:=Tryz.zeroValue3
 t4:=Tryz.underlying4
 a4:=Tryz.isAgg4
 z4:=Tryz.sizeOf4
 v4:=Tryz.zeroValue4
 t5:=Tryz.underlying5
 a5:=Tryz.isAgg5
 z5:=Tryz.sizeOf5
 v5:=Tryz.zeroValue5
 t9:=Tryz.underlying9
 a9:=Tryz.isAgg9
 z9:=Tryz.sizeOf9
 v9:=Tryz.zeroValue9
 t22:=Tryz.underlying86
 a22:=Tryz.isAgg86
 z22:=Tryz.sizeOf86
 v22:=Tryz.zeroValue86
 t25:=Tryz.underlying184
 a25:=Tryz.isAgg184
 z25:=Tryz.sizeOf184
 v25:=Tryz.zeroValue184
 t39:=Tryz.underlying200
 a39:=Tryz.isAgg200
 z39:=Tryz.sizeOf200
 v39:=Tryz.zeroValue200
 t45:=Tryz.underlying252
 a45:=Tryz.isAgg252
 z45:=Tryz.sizeOf252
 v45:=Tryz.zeroValue252
 t46:=Tryz.underlying253
 a46:=Tryz.isAgg253
 z46:=Tryz.sizeOf253
 v46:=Tryz.zeroValue253
 t50:=Tryz.underlying130
 a50:=Tryz.isAgg130
 z50:=Tryz.sizeOf130
 v50:=Tryz.zeroValue130
 t53:=Tryz.underlying109
 a53:=Tryz.isAgg109
 z53:=Tryz.sizeOf109
 v53:=Tryz.zeroValue109
 t55:=Tryz.underlying71
 a55:=Tryz.isAgg71
 z55:=Tryz.sizeOf71
 v55:=Tryz.zeroValue71
 t66:=Tryz.underlying268
 a66:=Tryz.isAgg268
 z66:=Tryz.sizeOf268
 v66:=Tryz.zeroValue268
 t70:=Tryz.underlying272
 a70:=Tryz.isAgg272
 z70:=Tryz.sizeOf272
 v70:=Tryz.zeroValue272
 t76:=Tryz.underlying280
 a76:=Tryz.isAgg280
 z76:=Tryz.sizeOf280
 v76:=Tryz.zeroValue280
 t77:=Tryz.underlying101
 a77:=Tryz.isAgg101
 z77:=Tryz.sizeOf101
 v77:=Tryz.zeroValue101 }
def Tryz.cmpInt_ren:Go.Shelf.Ren:=⟨fun | 5 => 157 | 7 => 209 | n=>n,fun | 22 => 3 | 3 => 3 | 4 => 4 | n=>n,fun | n=>n⟩
theorem Tryz.cmpInt:Go.Proofs.SlLaysC2.n5 Tryz.prog Tryz.cmpInt_ren:={
 mixed:=by kernel_rfl
 f5:=⟨Tryz.f157.name,by decide,Tryz.func157.trans (congrArg some (by kernel_rfl))⟩
 f7:=⟨Tryz.f209.name,by decide,Tryz.func209.trans (congrArg some (by kernel_rfl))⟩
 t3:=Tryz.underlying3
 a3:=Tryz.isAgg3
 z3:=Tryz.sizeOf3
 v3:=Tryz.zeroValue3
 t4:=Tryz.underlying4
 a4:=Tryz.isAgg4
 z4:=Tryz.sizeOf4
 v4:=Tryz.zeroValue4
 t22:=Tryz.underlying3
 a22:=Tryz.isAgg3
 z22:=Tryz.sizeOf3
 v22:=Tryz.zeroValue3 }
end Go.Proofs