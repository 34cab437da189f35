/- Merged texts of a claim: Rank47, RankPl, NumTab, SeesW, Trel, Shape, Less, Counting. -/
import Derived.Test.YtgekjfpapmlndaaGreatTY9
import Derived.SizedLaws
namespace Go.Proofs.YtgekjfpapmlndaaGreat
set_option maxRecDepth 100000
set_option maxHeartbeats 32000000
open KA KB KC KD KE KF
open Go.RowKit Go.ChangeShapes Go.WideShapes Go.ChangeAt
theorem ziy {w:World} {B n m:Nat} {A:Option Addr} {f:Nat->Int} (h:IntsR w B A n f) (hm:m<=n):IntsR w B A m f:=fun i hi=>h i (by omega)
theorem ziz {w:World} {B n b o s:Nat} {f:Nat->Int} (h:IntsR w B (some ⟨b,o,none⟩) n f) (hs:s<=n):IntsR w B (some ⟨b,o+s,none⟩) (n - s) (fun j=>f (s+j)):=fun j hj=>by
 obtain ⟨b',o',e,hb,hc⟩:=h (s+j) (by omega)
 injection e with e
 injection e with e1 e2
 subst e1 e2
 refine ⟨b,o+s,rfl,hb,fun q hq=>?_⟩
 have h2:=hc q hq
 rw [show o+s+j*1+q=o+(s+j)*1+q by omega]
 exact h2
theorem za8 {w:World} {ops:Array Oper} {rest:List Oper} {o:Oper} {a:Act} {Q:Exit->Act->World->Prop} (hgd:o.guard=none) (sl x:Operand)
  (ho:o.op=.call { callee:=.builtin .append,args:=#[sl,x],argTypes:=#[25, 25] })
  {base n:Nat} {v:Value} {R:Nat->Value} (h:Own w base 22 1 v n (fun i _=>R i)) (hv:a.eval sl=v) {ad:Addr} {c:Nat} {r:Value} (hx:a.eval x=.slice (some ad) 1 c)
  (hcell:w.cell? (ad.add 0)=some r) (h1:r.oneCell'=true) (hbase:base<=w.heap.size) (hN:n<=1048576)
  (K:∀ v' w',Own w' base 22 1 v' (n+1) (fun i _=>if i=n then r else R i)->w.grownBy w' v.ownBlock->wpList Tryz.prog ops Q rest (a.put o.dst v') w'):wpList Tryz.prog ops Q (o :: rest) a w:=by
 obtain ⟨i0,qi0,qz0,qz1,qz2⟩:=info_parts Tryz.infoInts
 have b:Own w base 22 1 v n (fun i _=>if i=n then r else R i):=h.congr fun i hi _ _=>by rw [if_neg (by omega)]
 refine zah w hgd sl x _ ho base 22 i0 _ 1 24 Tryz.underlying25 qi0 qz0 qz1 qz2 rfl (by omega) v n _ hv b ad c hx (fun j hj=>by
   obtain rfl:j=0:=by omega
   rw [if_pos rfl]
   exact hcell) (fun _ _=>by rw [if_pos rfl]; exact h1) (by unfold maxLen; omega) (by omega) hbase ?_
 intro v' w3 hown3 hg3 _
 exact K v' w3 hown3 hg3
theorem zcz {w:World} {ops:Array Oper} {rest:List Oper} {o:Oper} {a:Act} {Q:Exit->Act->World->Prop} (hgd:o.guard=none) (sl x:Operand)
  (ho:o.op=.call { callee:=.builtin .append,args:=#[sl,x],argTypes:=#[22, 22] }) (b0 o0:Nat) (hv:a.eval sl=.slice (some ⟨b0,o0,none⟩) 0 0)
  (A:Option Addr) (c:Nat) (hx:a.eval x=.slice A 0 c) (h:wpList Tryz.prog ops Q rest (a.put o.dst (.slice (some ⟨b0,o0,none⟩) 0 0)) w):wpList Tryz.prog ops Q (o :: rest) a w:=by
 obtain ⟨i0,qi0,qz0,qz1,qz2⟩:=info_parts Tryz.infoInt
 refine wpList_plain hgd fun K hK=>?_
 have b:=zaR (P:=Tryz.prog) w 22 o.type 3 i0 Tryz.underlying22 qi0 b0 o0 A c
 unfold Oper.wp execOp
 simp only [ho,resolve,invoke,builtin,Sem.run_bind,Sem.run_pure,Result.andThen_ok,List.map_toArray,List.map_cons,List.map_nil,hv,hx,b]
 exact hK _ _ h
theorem ziA (T:Option Addr) (n c:Nat) (W:Nat->Nat->Nat) (w:World) (h:MRows w T n 0 W) (hn:n<=1048576) :
  Calls Tryz.prog 224 #[.slice T n c] w fun e w'=>∃ A c',e=.returned (.slice A n c')/\n<=c'/\Below w.heap.size w w':=by
 have HR:=hid h
 have H0:Hid (∃ R:Nat->Value,Own w w.heap.size 22 1 (.slice none 0 0) 0 (fun i _=>R i)):=hid ⟨fun _=>undef,Own.nil _ _ _ _ _⟩
 clear h
 go_enter Tryz.func224, Tryz.ntmps224
 go_wp2
 obtain ⟨nv,k⟩:∃ x:Value,x=.slice none 0 0:=⟨_,rfl⟩
 rw [<-k] at H0 ⊢;clear k
 go_loopg [3,4] n (fun gg mv iv wx=>∃ i:Nat,iv=.int .i64 (i:Nat)/\i<=n/\n<=i+gg/\Hid (∃ R:Nat->Value,Own wx w.heap.size 22 1 mv i (fun i _=>R i))/\Below w.heap.size w wx)
 case atStart=>exact ⟨0,rfl,by omega,by omega,H0,Below.refl _ _⟩
 clear H0
 obtain ⟨i,rfl,hi,B,HM,hB⟩:=hrel
 have C:(0:Int)<=(i:Int):=by omega
 by_cases hlt:i<n
 rotate_left
 ·have g:¬ (i:Int)<(n:Int):=by omega
  obtain rfl:i=n:=by omega
  obtain ⟨R,hR⟩:=HM.out
  obtain ⟨A,c',rfl⟩:=hR.shape
  have u:=hR.capL
  go_wp2
  go_ret
  exact ⟨A,c',rfl,u.1,hB⟩
 have g:(i:Int)<(n:Int):=by omega
 obtain ⟨b,o,RA,rc,hT,hb,x0,_,_,s,_⟩:=HR.out i hlt
 subst hT
 have d:=aly wr (Obj.cells #[] 3)
 have j:=onS hB d
 have x1:=(j.cell (p:=⟨b,o+i,none⟩) hb).trans x0
 have x2:=(hB.cell (p:=⟨b,o+i,none⟩) hb).trans x0
 have a:Below (wr.alloc (Obj.cells #[] 3)).heap.size (wr.alloc (Obj.cells #[] 3)) ((wr.alloc (Obj.cells #[] 3)).alloc (Obj.cells #[.slice (some ⟨wr.heap.size,0,none⟩) 0 0] 22)):=(Below.refl _ _).alloc (Nat.le_refl _) _
 obtain ⟨R,hR⟩:=HM.out
 have m:=hid ((hR.on d).on a)
 have r:=hid (onS j a)
 have l:=hid r.out.size
 have y:Hid (((wr.alloc (Obj.cells #[] 3)).alloc (Obj.cells #[.slice (some ⟨wr.heap.size,0,none⟩) 0 0] 22)).cell? ((⟨wr.heap.size+1,0,none⟩:Addr).add 0)=some (.slice (some ⟨wr.heap.size,0,none⟩) 0 0)):=by
  have h1:(wr.alloc (Obj.cells #[] 3)).heap.size=wr.heap.size+1:=by simp
  rw [<-h1]
  exact hid tbox2
 have HL:Hid (i<=1048576):=by show _<=_; omega
 clear d a hR HM j
 go_upto_region 4 with (first | (at_builtin; (refine zcz rfl (.tmp 12) (.tmp 16) rfl wr.heap.size 0 rfl RA rc rfl ?_)) | (at_builtin; (refine za8 rfl (.tmp 11) (.tmp 18) rfl m.out rfl (ad:=⟨wr.heap.size+1,0,none⟩) (c:=1) rfl y.out rfl l.out HL.out ?_); intro v9 w9 o1 o2))
 have v:Hid (∃ R:Nat->Value,Own w9 w.heap.size 22 1 v9 (i+1) (fun i _=>R i)):=hid ⟨_,o1⟩
 have z:=hid (r.out.grown o2 l.out (fun q e=>(m.out.lt q e).1))
 clear o1 o2
 go_wp2
 go_roundg (gk - 1)
 case measure=>omega
 case rel=>exact ⟨i+1,by go_num,by omega,by omega,v,z.out⟩
theorem ziB (P M:Int) (A:Option Addr) (k c:Nat) (T:Option Addr) (n d:Nat) (W:Nat->Nat->Nat) (w:World) (h:MRows w T n 0 W) (hn:n<=1048576) :
  Calls Tryz.prog 191 #[.agg #[.int .i64 P,.int .i64 M,.slice A k c],.slice T n d,.int .i64 0] w fun e w'=>∃ A c',e=.returned (.tuple #[.slice A n c',.slice none 0 0])/\n<=c'/\Below w.heap.size w w':=by
 have HR:=hid h
 clear h
 have hB:=aly w (.cells #[.int .i64 P,.int .i64 M,.slice A k c] 24)
 obtain ⟨w0,a⟩:=exx (w.alloc (.cells #[.int .i64 P,.int .i64 M,.slice A k c] 24))
 rw [<-a] at hB
 have HB:=hid hB
 clear hB
 go_enter Tryz.func191, Tryz.ntmps191
 go_upto_region 1 with fail
 rw [<-a];clear a
 go_wp2_with fail
 refine (ziA T n d W w0 (IntRows.on HR.out HB.out) hn).mono ?_
 rintro e w1 ⟨A1,c1,rfl,b,kb⟩
 replace HB:=hid (onS HB.out kb)
 have i:=hid b
 clear kb b
 go_upto_region 5 with fail
 go_loopg [9,11] 0 (fun gg pv cv wx=>pv=.slice none 0 0/\cv=.int .i64 0/\wx=w1)
 case atStart=>exact ⟨rfl,rfl,rfl⟩
 obtain ⟨rfl,rfl,g⟩:=hrel
 obtain rfl:w1=wr:=g.symm
 go_wp2
 go_ret2
 exact ⟨A1,c1,rfl,i.out,HB.out⟩
theorem zhu (P M:Int) (A:Option Addr) (k c:Nat) (T:Option Addr) (n d:Nat) (W:Nat->Nat->Nat) (w:World) (h:MRows w T n 0 W) (hn:n<=1048576) :
  Calls Tryz.prog 136 #[.agg #[.int .i64 P,.int .i64 M,.slice A k c],.slice T n d,.int .i64 0] w fun e w'=>∃ v,e=.returned (.tuple #[v,.slice none 0 0])/\Below w.heap.size w w':=by
 have HR:=hid h
 clear h
 obtain ⟨w0,a,hB,rf⟩:=zao w (.int .i64 P) (.int .i64 M) (.slice A k c) 24
 have HB:=hid hB
 clear hB
 go_enter Tryz.func136, Tryz.ntmps136
 go_upto_region 1 with fail
 rw [<-a];clear a
 have q0:=qc0 rf
 have q1:=qc1 rf
 have q2:=qc2 rf
 clear rf
 go_wp2_with fail
 refine (ziB P M A k c T n d W w0 (IntRows.on HR.out HB.out) hn).mono ?_
 rintro e w1 ⟨A1,c1,rfl,b,kb⟩
 replace HB:=hid (onS HB.out kb);clear kb q0 q1 q2
 have g:0<=c1:=Nat.zero_le _
 cases A1 with
 | none =>
  go_wp2
  go_ret2
  exact ⟨_,rfl,HB.out⟩
 | some a1 =>
  go_wp2
  go_ret2
  exact ⟨_,rfl,HB.out⟩
def RankIs (q:Nat) (add mul:Nat->Nat->Nat) (n:Nat) (V:Nat->Nat->Nat) (lo m a:Nat):Prop:=∃ p W,EchN q n m m a p W/\RowOps q add mul n m (fun i j=>V i (lo+j)) W
theorem zcj (P M:Nat) (m:Nat->Nat) (A:Option Addr) (k c N:Nat) (T:Option Addr) (n d:Nat) (V:Nat->Nat->Nat) (lo hi:Nat) (w:World) (h:CodeR w P M m A k N T n V) (hlh:lo<=hi) (hhN:hi<=N) :
  Calls Tryz.prog 72 #[.agg #[.int .i64 (P:Nat),.int .i64 (M:Nat),.slice A k c,.int .i64 (N:Nat),.slice T n d],.int .i64 (lo:Nat),.int .i64 (hi:Nat)] w fun e w'=>∃ a:Nat,e=.returned (.int .i64 (a:Nat))/\RankIs (P ^ M) (addF P M) (mulF P M m) n V lo (hi - lo) a/\Below w.heap.size w w':=by
 have HC:=hid h
 have ac:=h.ln2
 have ai:=h.n_le
 clear h
 obtain ⟨w1,J,hB,rf⟩:=zaG w (.int .i64 (P:Nat)) (.int .i64 (M:Nat)) (.slice A k c) (.int .i64 (N:Nat)) (.slice T n d) 27
 go_enter Tryz.func72, Tryz.ntmps72
 go_upto_region 1 with fail
 rw [<-J];clear J
 obtain ⟨b0,D⟩:=exx w.heap.size
 rw [<-D] at rf;rw [<-D];clear D
 have H:Hid (∀ X,Below w1.heap.size w1 X->(X.cell? ⟨b0,0,none⟩=some (.int .i64 (P:Nat))/\X.cell? ⟨b0,1,none⟩=some (.int .i64 (M:Nat))/\X.cell? ⟨b0,2,none⟩=some (.slice A k c)/\X.cell? ⟨b0,3,none⟩=some (.int .i64 (N:Nat))/\X.cell? ⟨b0,4,none⟩=some (.slice T n d))):=hid fun X hx =>
  ⟨(zaa rf hx).cell (i:=0) (by omega),(zaa rf hx).cell (i:=1) (by omega),(zaa rf hx).cell (i:=2) (by omega),(zaa rf hx).cell (i:=3) (by omega),(zaa rf hx).cell (i:=4) (by omega)⟩
 have HB:=hid hB
 clear hB rf
 go_upto_region 2 with fail
 have kb:=(Below.refl w1.heap.size w1).alloc (Nat.le_refl _) (Obj.cells #[] 22)
 have HO:Hid (Own (w1.alloc (Obj.cells #[] 22)) w1.heap.size 22 1 (.slice (some ⟨w1.heap.size,0,none⟩) 0 0) 0 (fun _ _=>undef)):=hid (Own.new (Nat.le_refl _) (Nat.le_refl _) (by unfold maxLen; omega) (by simp) fun k hk=>absurd hk (by omega))
 obtain ⟨w2,I⟩:=exx (w1.alloc (Obj.cells #[] 22))
 rw [<-I] at HO kb ⊢
 obtain ⟨v0,K⟩:∃ v:Value,v=.slice (some ⟨w1.heap.size,0,none⟩) 0 0:=⟨_,rfl⟩
 rw [<-K] at HO ⊢
 have K2:=hid kb
 clear kb I K
 go_upto_region 3 with fail
 go_loopg [7,8] n (fun gg tv iv wx=>∃ (i:Nat) (R:Nat->Value),iv=.int .i64 (i:Nat)/\i<=n/\n<=i+gg/\Hid (Own wx w1.heap.size 22 1 tv i (fun u _=>R u))/\Hid (∀ u,u<i->∃ X c,R u=.slice X (hi - lo) c/\hi - lo<=c/\c<=maxLen/\IntsR w1 w1.heap.size X (hi - lo) (fun j=>((V u (lo+j):Nat):Int)))/\Below w1.heap.size w1 wx)
 case atStart=>exact ⟨0,fun _=>undef,rfl,by omega,by omega,HO,hid fun _ h=>absurd h (by omega),K2.out⟩
 clear HO K2
 obtain ⟨i,R,rfl,al,aj,HO,E,U⟩:=hrel
 have ak:(0:Int)<=(i:Int):=by omega
 have K2:=hid U
 obtain ⟨w3,a4⟩:=exx wr
 subst a4
 clear U
 obtain ⟨q0,q1,q2,q3,q4⟩:=H.out _ K2.out
 by_cases hin:i<n
 ·have C:(i:Int)<(n:Int):=by omega
  obtain ⟨pb,po,RA,rc,aa,_,x0,s,S,g,z⟩:=(HC.out.on HB.out).rows i hin
  subst aa
  have g:IntsR w1 w1.heap.size RA N (fun j=>((V i j:Nat):Int)):=g
  replace x0:=cellS K2.out x0
  have s:N<=rc:=s
  have am:=HC.out.ln1
  obtain ⟨ab,ao,ae,_,_⟩:=g.at (i:=0) (by omega)
  subst ae
  have a7:(0:Int)<=(lo:Int):=by omega
  have Q:(lo:Int)<=(hi:Int):=by omega
  have a8:(hi:Int)<=(rc:Int):=by omega
  have F:=hid g
  have y:Hid (∀ v:Value,Below w3.heap.size w3 (w3.alloc (Obj.cells #[v] 22))):=hid fun v=>(Below.refl _ _).alloc (Nat.le_refl _) _
  have Y:Hid (∀ v:Value,Own (w3.alloc (Obj.cells #[v] 22)) w1.heap.size 22 1 u7 i (fun u _=>R u)):=hid fun v=>HO.out.on (y.out v)
  have x:Hid (∀ v:Value,w1.heap.size<=(w3.alloc (Obj.cells #[v] 22)).heap.size):=hid fun v=>Nat.le_trans K2.out.size (y.out v).size
  have a2:Hid (i<=1048576):=by show _<=_; omega
  have ag:Hid (rc<=maxLen):=hid S
  have G:Hid (N<=rc):=hid s
  clear g z s S
  by_cases hcl:lo=rc
  focus
   subst hcl
   go_upto_region 4 with (first | (at_builtin; (refine za8 rfl (.tmp 19) (.tmp 28) rfl (Y.out _) rfl (ad:=⟨w3.heap.size,0,none⟩) (c:=1) rfl tbox2 rfl (x.out _) a2.out ?_); intro v9 w9 o1 o2))
   have a1:=hid o1
   have a3:=hid (Below.grown (onS K2.out (y.out _)) o2 (x.out _) (fun q e=>(HO.out.lt q e).1))
   have r:Hid (∀ u,u<i+1->∃ X c,(if u=i then Value.slice (some ⟨ab,ao,none⟩) (hi - lo) 0 else R u)=.slice X (hi - lo) c/\hi - lo<=c/\c<=maxLen/\IntsR w1 w1.heap.size X (hi - lo) (fun j=>((V u (lo+j):Nat):Int))):=hid fun u hu=>by
    by_cases e:u=i
    ·refine ⟨_,_,if_pos e,by have:=G.out; omega,by unfold maxLen; omega,fun j hj=>absurd hj (by have:=G.out; omega)⟩
    ·rw [if_neg e]
     exact E.out u (by omega)
  rotate_left
  focus
   have a9:¬ rc=lo:=fun h=>hcl h.symm
   go_upto_region 4 with (first | (at_builtin; (refine za8 rfl (.tmp 19) (.tmp 28) rfl (Y.out _) rfl (ad:=⟨w3.heap.size,0,none⟩) (c:=1) rfl tbox2 rfl (x.out _) a2.out ?_); intro v9 w9 o1 o2))
   have a1:=hid o1
   have a3:=hid (Below.grown (onS K2.out (y.out _)) o2 (x.out _) (fun q e=>(HO.out.lt q e).1))
   have r:Hid (∀ u,u<i+1->∃ X c,(if u=i then Value.slice (some ⟨ab,ao+lo,none⟩) (hi - lo) (rc - lo) else R u)=.slice X (hi - lo) c/\hi - lo<=c/\c<=maxLen/\IntsR w1 w1.heap.size X (hi - lo) (fun j=>((V u (lo+j):Nat):Int))):=hid fun u hu=>by
    by_cases e:u=i
    ·refine ⟨_,_,if_pos e,by have:=G.out; omega,by have:=ag.out; omega,?_⟩
     rw [e]
     exact ziy (ziz F.out (by omega)) (by omega)
    ·rw [if_neg e]
     exact E.out u (by omega)
  rotate_left
  all_goals
   clear o1 o2 q0 q1 q2 q3 q4 x0
   go_wp2
   go_roundg (gk - 1)
   case measure=>omega
   case rel=>exact ⟨i+1,_,by go_num,by omega,by omega,a1,r,a3.out⟩
 have C:¬ (i:Int)<(n:Int):=by omega
 obtain rfl:i=n:=by omega
 obtain ⟨tA,tc,hT⟩:=HO.out.shape
 subst hT
 obtain ⟨m1,B⟩:=exx (hi - lo)
 have a5:wrap64 ((hi:Int) - (lo:Int))=(m1:Int):=by unfold wrap64; omega
 have L:IntKind.i64.wrap ((hi:Int) - (lo:Int))=(m1:Int):=by rw [IntWalk.i64_in _ (by omega)]; omega
 have Z:Hid (MRows w3 tA i m1 (fun u j=>V u (lo+j))):=hid fun u hu=>by
  obtain ⟨X,cc,hR,h1,h2,h3⟩:=E.out u hu
  obtain ⟨b,off,e,hb,l⟩:=HO.out.rd rfl u hu
  have o:=l 0 (by omega)
  rw [Nat.mul_one,Nat.add_zero] at o
  have o:w3.cell? ⟨b,off+u,none⟩=some (R u):=o
  rw [hR] at o
  subst B
  exact ⟨b,off,X,cc,e,hb,o,h1,h2,h3.on K2.out,fun j hj=>by
   have hj:j<hi - lo:=hj
   have:=HC.out.lt u hu (lo+j) (by omega)
   show -9223372036854775808<=((V u (lo+j):Nat):Int)/\((V u (lo+j):Nat):Int)<=9223372036854775807
   have:=HC.out.fld.1.2.2.2
   omega⟩
 have ah:Hid (∀ u,u<i->∀ j,j<m1->V u (lo+j)<P ^ M):=hid fun u hu j hj=>HC.out.lt u hu _ (by omega)
 have a6:m1<=64:=by omega
 have a0:=hid B
 clear B
 go_wp2_with fail
 by_cases hz:m1=0
 ·subst hz
  refine (zhu (P:Int) (M:Int) A k c tA i tc _ w3 Z.out (by omega)).mono ?_
  rintro e w4 ⟨v,rfl,kb⟩
  have K3:=hid (onS HB.out (onS K2.out kb))
  clear kb q0 q1 q2 q3 q4
  go_wp2
  go_ret
  rw [<-a0.out]
  refine ⟨0,rfl,⟨fun _=>0,fun u j=>V u (lo+j),?_,.refl⟩,K3.out⟩
  exact ⟨Nat.zero_le _,fun u hu j hj=>absurd hj (by omega),fun _ _ _ h=>absurd h (by omega),fun _ h=>absurd h (by omega),fun _ h=>absurd h (by omega),fun _ h=>absurd h (by omega),fun _ h=>absurd h (by omega),fun u _ _ j hj=>absurd hj (by omega)⟩
 have h1:=HC.out.on (onS HB.out K2.out)
 refine (zcR P M A k c m tA i tc m1 m1 (fun u j=>V u (lo+j)) w3 h1.fld h1.mod h1.km Z.out ah.out (Nat.le_refl _) (by omega) (by omega) (by omega)).mono ?_
 rintro e w4 ⟨lv,pv,a,p,W,rfl,_,O,kb,hE,hR⟩
 obtain ⟨pA,pc,rfl⟩:=O.shape
 have K3:=hid (onS HB.out (onS K2.out kb))
 have af:Hid (RankIs (P ^ M) (addF P M) (mulF P M m) i V lo m1 a):=hid ⟨p,W,hE,hR⟩
 clear kb q0 q1 q2 q3 q4 O hE hR h1 hz
 go_wp2
 go_ret
 rw [<-a0.out]
 exact ⟨a,rfl,af.out,K3.out⟩
def RanksTo (q:Nat) (add mul:Nat->Nat->Nat) (n N:Nat) (V:Nat->Nat->Nat) (t:Nat) (ra rb:Nat->Nat):Prop:=∀ i,i<t->RankIs q add mul n V 0 i (ra i)/\RankIs q add mul n V i (N - i) (rb i)
theorem RankIs.le {q:Nat} {add mul:Nat->Nat->Nat} {n:Nat} {V:Nat->Nat->Nat} {lo m a:Nat} (h:RankIs q add mul n V lo m a):a<=n:=by
 obtain ⟨p,W,hE,_⟩:=h
 exact hE.le
def ProfPost (q:Nat) (add mul:Nat->Nat->Nat) (n N:Nat) (V:Nat->Nat->Nat) (w:World) (e:Ending) (w':World):Prop :=
 ∃ g ra rb,e=.returned (.slice (some ⟨g,0,none⟩) (N+1) (N+1))/\w.heap.size<=g/\w'.rowIs g 3 (N+1) (fun i=>.int .i64 (((ra i+rb i:Nat):Int) - (n:Nat)))/\RanksTo q add mul n N V (N+1) ra rb/\Below w.heap.size w w'
theorem zhv (P M:Nat) (m:Nat->Nat) (A:Option Addr) (k c N:Nat) (T:Option Addr) (n d:Nat) (V:Nat->Nat->Nat) (w:World) (h:CodeR w P M m A k N T n V) :
  Calls Tryz.prog 28 #[.agg #[.int .i64 (P:Nat),.int .i64 (M:Nat),.slice A k c,.int .i64 (N:Nat),.slice T n d]] w (ProfPost (P ^ M) (addF P M) (mulF P M m) n N V w):=by
 have HC:=hid h
 have Y:=h.ln2
 have a6:=h.n_le
 clear h
 obtain ⟨w1,F,hB,rf⟩:=zaG w (.int .i64 (P:Nat)) (.int .i64 (M:Nat)) (.slice A k c) (.int .i64 (N:Nat)) (.slice T n d) 27
 have B:wrap64 ((N:Int)+1)=(N:Int)+1:=by unfold wrap64; omega
 have y:IntKind.i64.wrap ((N:Int)+1)=(N:Int)+1:=IntWalk.i64_in _ (by omega)
 have G:=fun W=>zaf (P:=Tryz.prog) 22 3 _ 8 Tryz.underlying22 Tryz.infoInt rfl ((N:Int)+1) (by omega) (by omega) (by omega) W
 simp only [show ((N:Int)+1).toNat=N+1 by omega] at G
 go_enter Tryz.func28, Tryz.ntmps28
 go_upto_region 1 with fail
 rw [<-F];clear F
 obtain ⟨b0,q⟩:=exx w.heap.size
 rw [<-q] at rf;rw [<-q];clear q
 have g:Hid (∀ X,Below w1.heap.size w1 X->(X.cell? ⟨b0,0,none⟩=some (.int .i64 (P:Nat))/\X.cell? ⟨b0,1,none⟩=some (.int .i64 (M:Nat))/\X.cell? ⟨b0,2,none⟩=some (.slice A k c)/\X.cell? ⟨b0,3,none⟩=some (.int .i64 (N:Nat))/\X.cell? ⟨b0,4,none⟩=some (.slice T n d))):=hid fun X hx =>
  ⟨(zaa rf hx).cell (i:=0) (by omega),(zaa rf hx).cell (i:=1) (by omega),(zaa rf hx).cell (i:=2) (by omega),(zaa rf hx).cell (i:=3) (by omega),(zaa rf hx).cell (i:=4) (by omega)⟩
 have HB:=hid hB
 have D:Hid (b0<w1.heap.size):=hid rf.lt
 clear hB rf
 obtain ⟨q0,q1,q2,q3,q4⟩:=g.out _ (Below.refl _ _)
 go_upto_region 2 with fail
 clear q0 q1 q2 q3 q4
 have rz:World.rowIs (World.alloc w1 (Obj.cells (madeCells #[Value.int .i64 0] (N+1)) 3)) w1.heap.size 3 (N+1) (fun _=>.int .i64 0):=World.rowIs_made _ (.int .i64 0) (N+1) 3
 have kb:=aly w1 (Obj.cells (madeCells #[Value.int .i64 0] (N+1)) 3)
 obtain ⟨w2,E⟩:=exx (World.alloc w1 (Obj.cells (madeCells #[Value.int .i64 0] (N+1)) 3))
 rw [<-E] at rz kb ⊢
 obtain ⟨go,s⟩:=exx w1.heap.size
 have x:w.heap.size<=go:=by rw [s]; exact HB.out.size
 have J:=hid s
 rw [<-s] at rz ⊢
 have K2:=hid kb
 clear kb E s G B y
 go_upto_region 3 with fail
 go_loopg [4] (N+1) (fun gg iv wx=>∃ (i:Nat) (ra rb:Nat->Nat),iv=.int .i64 (i:Nat)/\i<=N+1/\N+1<=i+gg/\Hid (RanksTo (P ^ M) (addF P M) (mulF P M m) n N V i ra rb)/\Hid (wx.rowIs go 3 (N+1) (fun t=>.int .i64 (if t<i then ((ra t+rb t:Nat):Int) - (n:Nat) else 0)))/\Below w1.heap.size w1 wx)
 case atStart=>exact ⟨0,fun _=>0,fun _=>0,rfl,by omega,by omega,hid fun _ h=>absurd h (by omega),rz.congr fun t _=>by rw [if_neg (by omega)],K2.out⟩
 clear rz K2
 obtain ⟨i,ra,rb,rfl,hi,a7,I,l,H⟩:=hrel
 have a8:(0:Int)<=(i:Int):=by omega
 have K2:=hid H
 obtain ⟨w3,L⟩:=exx wr
 subst L
 clear H
 by_cases hin:i<=N
 rotate_left
 ·have v:¬ (i:Int)<=(N:Int):=by omega
  obtain rfl:i=N+1:=by omega
  obtain ⟨q0,q1,q2,q3,q4⟩:=g.out _ K2.out
  have HF:Hid (w3.rowIs go 3 (N+1) (fun t=>.int .i64 (((ra t+rb t:Nat):Int) - (n:Nat)))):=hid (l.out.congr fun t ht=>by rw [if_pos ht])
  go_wp2
  go_ret
  exact ⟨go,ra,rb,rfl,x,HF.out,I.out,onS HB.out K2.out⟩
 have v:(i:Int)<=(N:Int):=by omega
 obtain ⟨q0,q1,q2,q3,q4⟩:=g.out _ K2.out
 go_upto_region 5 with fail
 clear q0 q1 q2 q3 q4
 refine wp_region_held_drew (S:=fun X=>(X.cell? ⟨b0,0,none⟩=some (.int .i64 (P:Nat))/\X.cell? ⟨b0,1,none⟩=some (.int .i64 (M:Nat))/\X.cell? ⟨b0,2,none⟩=some (.slice A k c)/\X.cell? ⟨b0,3,none⟩=some (.int .i64 (N:Nat))/\X.cell? ⟨b0,4,none⟩=some (.slice T n d))) (by kernel_rfl) (g.out _ (onS K2.out (Below.refl _ _).drew)) (fun hHeld=>?_)
 obtain ⟨w4,hw,kb⟩:=dwx w3
 rw [<-hw] at hHeld ⊢;clear hw
 have K3:=hid kb
 clear kb
 refine tkq 0 (h:=tkq 1 (h:=tkq 2 (h:=tkq 3 (h:=tkq 5 (h:=tkq 6 (h:=tkq 7 (h:=tkq 8 (h:=tkq 11 (h:=tkq 12 (h:=tkq 13 (h:=?_)))))))))))
 clear hHeld
 refine rdq 4 (h:=fun K hK=>?_)
 go_simp
 go_wp2_with fail
 refine (zcj P M m A k c N T n d V 0 i w4 (HC.out.on (onS HB.out (onS K2.out K3.out))) (Nat.zero_le _) hin).mono ?_
 rintro e w5 ⟨a,rfl,ha,kb⟩
 have a5:=hid ha
 have aa:=ha.le
 replace K3:=hid (onS K3.out kb);clear kb ha
 refine bkq hK (g.out _ (onS K2.out K3.out)) (h:=fun hHeld=>?_)
 clear hK K hHeld
 refine rdq 9 (h:=fun K hK=>?_)
 go_simp
 go_wp2_with fail
 refine (zcj P M m A k c N T n d V i N w5 (HC.out.on (onS HB.out (onS K2.out K3.out))) hin (Nat.le_refl _)).mono ?_
 rintro e w6 ⟨b,rfl,hb,kb⟩
 have Z:=hid hb
 have a9:=hb.le
 replace K3:=hid (onS K3.out kb);clear kb hb
 refine bkq hK (g.out _ (onS K2.out K3.out)) (h:=fun hHeld=>?_)
 clear hK K
 have U:wrap64 ((a:Int)+(b:Int))=(a:Int)+(b:Int):=by unfold wrap64; omega
 have R:IntKind.i64.wrap ((a:Int)+(b:Int))=(a:Int)+(b:Int):=IntWalk.i64_in _ (by omega)
 obtain ⟨z,hz⟩:∃ z:Int,z=((a+b:Nat):Int) - (n:Nat):=⟨_,rfl⟩
 have Q:wrap64 ((a:Int)+(b:Int) - (n:Int))=z:=by unfold wrap64; omega
 have O:IntKind.i64.wrap ((a:Int)+(b:Int) - (n:Int))=z:=by rw [IntWalk.i64_in _ (by omega)]; omega
 have ac:(i:Int)<((N+1:Nat):Int):=by omega
 have ab:(i:Int)<(N:Int)+1:=by omega
 have HZ:=hid hz
 clear hz
 refine tkq 10 (h:=tkq 14 (h:=tkq 15 (h:=?_)))
 clear hHeld U R Q O
 refine rdq 16 (h:=fun K hK=>?_)
 have u0:=(zaa l.out K3.out).cell (i:=i) (by omega)
 have u1:=(zaa l.out K3.out).frozen i
 go_simp
 clear u0 u1
 have j:=(zaa l.out K3.out).set i (.int .i64 z)
 have kb:=(onS K2.out K3.out).setCell (p:=⟨go,i,none⟩) (by show _<=go; rw [J.out]; exact Nat.le_refl _) (.int .i64 z)
 have q:=g.out _ (onS K2.out K3.out)
 have o:b0≠go:=by rw [J.out]; exact Nat.ne_of_lt D.out
 obtain ⟨a0,a1,a2,a3,a4⟩:=q
 replace a0:=zab (p:=⟨go,i,none⟩) (u:=.int .i64 z) a0 o;replace a1:=zab (p:=⟨go,i,none⟩) (u:=.int .i64 z) a1 o;replace a2:=zab (p:=⟨go,i,none⟩) (u:=.int .i64 z) a2 o;replace a3:=zab (p:=⟨go,i,none⟩) (u:=.int .i64 z) a3 o;replace a4:=zab (p:=⟨go,i,none⟩) (u:=.int .i64 z) a4 o
 obtain ⟨w7,hw⟩:=exx (w6.setCell ⟨go,i,none⟩ (.int .i64 z))
 rw [<-hw] at j kb a0 a1 a2 a3 a4 ⊢
 have r:Hid (w7.rowIs go 3 (N+1) (fun t=>.int .i64 (if t<i+1 then (((if t=i then a else ra t)+(if t=i then b else rb t):Nat):Int) - (n:Nat) else 0))):=hid (j.congr fun t _=>by
  by_cases et:t=i
  ·rw [if_pos et,if_pos (by omega),if_pos et,if_pos et,HZ.out]
  have h1:(t<i)↔(t<i+1):=by omega
  rw [if_neg et,if_neg et,if_neg et]
  simp only [h1])
 have C:Hid (RanksTo (P ^ M) (addF P M) (mulF P M m) n N V (i+1) (fun t=>if t=i then a else ra t) (fun t=>if t=i then b else rb t)):=hid fun t ht=>by
  by_cases et:t=i
  ·subst et
   simp only [if_true]
   exact ⟨a5.out,Z.out⟩
  ·simp only [if_neg et]
   exact I.out t (by omega)
 have K9:=hid kb
 clear j kb hw o
 refine bkq hK ⟨a0,a1,a2,a3,a4⟩ (h:=fun hHeld=>?_)
 clear hK K a0 a1 a2 a3 a4
 refine wpAnyH_done (by kernel_rfl) ?_ _
 clear hHeld
 go_wp2
 go_roundg (gk - 1)
 case measure=>omega
 case rel=>exact ⟨i+1,_,_,by go_num,by omega,by omega,C,r,K9.out⟩
def cntB (D:Nat->Bool):Nat->Nat
 | 0=>0
 | n+1=>cntB D n+if D n then 1 else 0
theorem zkE (D:Nat->Bool):∀ n,cntB D n<=n
 | 0=>Nat.le_refl _
 | n+1=>by
  have:=zkE D n
  show cntB D n+(if D n then 1 else 0)<=n+1
  split <;> omega
theorem zeE {D E:Nat->Bool}:∀ n,(∀ s,s<n->D s=E s)->cntB D n=cntB E n
 | 0,_=>rfl
 | n+1,h=>by
  show cntB D n+(if D n then 1 else 0)=cntB E n+if E n then 1 else 0
  rw [zeE n fun s hs=>h s (by omega),h n (by omega)]
theorem zd5 {A B:Nat->Bool}:∀ n,(∀ s,s<n->A s=true∨B s=true)->cntB A n+cntB B n=cntB (fun s=>A s && B s) n+n
 | 0,_=>rfl
 | n+1,h=>by
  have ih:=zd5 n fun s hs=>h s (by omega)
  have h1:=h n (by omega)
  show cntB A n+(if A n then 1 else 0)+(cntB B n+if B n then 1 else 0)=cntB (fun s=>A s && B s) n+(if (A n && B n) then 1 else 0)+(n+1)
  cases hA:A n <;> cases hB:B n
  ·rw [hA,hB] at h1; simp at h1
  ·simp; omega
  ·simp; omega
  ·simp; omega
def packB (q:Nat) (D:Nat->Bool) (c:Nat->Nat):Nat->Nat
 | 0=>0
 | n+1=>if D n then packB q D c n*q+c n else packB q D c n
theorem zbL {q:Nat} {D:Nat->Bool} {c:Nat->Nat}:∀ n,(∀ s,s<n->c s<q)->packB q D c n<q ^ cntB D n
 | 0,_=>by show 0<q ^ 0; simp
 | n + 1, h => by
  have ih:=zbL (D:=D) n fun s hs=>h s (by omega)
  have h1:=h n (by omega)
  show (if D n then packB q D c n*q+c n else packB q D c n)<q ^ (cntB D n+if D n then 1 else 0)
  split
  ·rw [Nat.pow_succ]
   have:=Nat.mul_le_mul_right q (show packB q D c n+1<=q ^ cntB D n from ih)
   rw [Nat.add_mul,Nat.one_mul] at this
   omega
  ·exact ih
theorem zcS {q:Nat} {D:Nat->Bool} {c c':Nat->Nat}:∀ n,(∀ s,s<n->c s<q)->(∀ s,s<n->c' s<q)->packB q D c n=packB q D c' n->∀ s,s<n->D s=true->c s=c' s
 | 0,_,_,_,s,hs,_=>absurd hs (by omega)
 | n + 1, h, h', e, s, hs, hD => by
  have e:(if D n then packB q D c n*q+c n else packB q D c n)=if D n then packB q D c' n*q+c' n else packB q D c' n:=e
  have h1:=h n (by omega)
  have h2:=h' n (by omega)
  have ih:=zcS (D:=D) (c:=c) (c':=c') n (fun s hs=>h s (by omega)) (fun s hs=>h' s (by omega))
  by_cases hn:D n=true
  ·rw [if_pos hn,if_pos hn] at e
   have e1:c n=c' n:=by
    have:=congrArg (· % q) e
    simp only [Nat.mul_add_mod_self_right,Nat.mod_eq_of_lt h1,Nat.mod_eq_of_lt h2] at this
    exact this
   have e2:packB q D c n=packB q D c' n:=by
    rw [e1] at e
    exact Nat.eq_of_mul_eq_mul_right (show 0<q by omega) (by omega)
   by_cases en:s=n
   ·rw [en]; exact e1
   ·exact ih e2 s (by omega) hD
  ·rw [if_neg hn,if_neg hn] at e
   by_cases en:s=n
   ·rw [en] at hD; exact absurd hD hn
   ·exact ih e s (by omega) hD
theorem zaU {q:Nat} {D:Nat->Bool} {c c':Nat->Nat}:∀ n,(∀ s,s<n->D s=true->c s=c' s)->packB q D c n=packB q D c' n
 | 0,_=>rfl
 | n+1,h=>by
  show (if D n then packB q D c n*q+c n else packB q D c n)=if D n then packB q D c' n*q+c' n else packB q D c' n
  rw [zaU n fun s hs=>h s (by omega)]
  by_cases hn:D n=true
  ·rw [if_pos hn,if_pos hn,h n (by omega) hn]
  ·rw [if_neg hn,if_neg hn]
theorem zaP {q:Nat} (hq:0<q) {D:Nat->Bool}:∀ n y,y<q ^ cntB D n->∃ c:Nat->Nat,(∀ s,c s<q)/\(∀ s,D s=false->c s=0)/\packB q D c n=y
 | 0,y,h=>by
  have h:y<q ^ 0:=h
  rw [Nat.pow_zero] at h
  exact ⟨fun _=>0,fun _=>hq,fun _ _=>rfl,by show 0=y; omega⟩
 | n + 1, y, h => by
  have h:y<q ^ (cntB D n+if D n then 1 else 0):=h
  by_cases hn:D n=true
  ·rw [if_pos hn,Nat.pow_succ] at h
   obtain ⟨c,h1,h2,h3⟩:=zaP hq (D:=D) n (y / q) (Nat.div_lt_of_lt_mul (by rw [Nat.mul_comm]; exact h))
   refine ⟨fun s=>if s=n then y % q else c s,fun s=>?_,fun s hs=>?_,?_⟩
   ·show (if s=n then y % q else c s)<q
    split
    ·exact Nat.mod_lt _ hq
    ·exact h1 s
   ·show (if s=n then y % q else c s)=0
    rw [if_neg (fun e=>by rw [e,hn] at hs; cases hs)]
    exact h2 s hs
   ·show (if D n then packB q D (fun s=>if s=n then y % q else c s) n*q+(if n=n then y % q else c n) else _)=y
    rw [if_pos hn,if_pos rfl,zaU (c':=c) n fun s hs _=>if_neg (by omega),h3]
    exact Nat.div_add_mod' y q
  ·rw [if_neg hn,Nat.add_zero] at h
   obtain ⟨c,h1,h2,h3⟩:=zaP hq (D:=D) n y h
   refine ⟨c,h1,h2,?_⟩
   show (if D n then packB q D c n*q+c n else packB q D c n)=y
   rw [if_neg hn]; exact h3
section
variable {q n N:Nat} {add mul:Nat->Nat->Nat}
theorem zhw (hL:FieldLaws q add mul) {x y z:Nat} (hx:x<q) (hy:y<q) (hz:z<q) (h:add x y=add x z):y=z:=by
 obtain ⟨w,hw,e⟩:=hL.neg x hx
 have h2:add w (add x y)=add w (add x z):=by rw [h]
 rw [<-hL.addAssoc w x y hw hx hy,<-hL.addAssoc w x z hw hx hz,hL.addComm w x,e,hL.zeroAdd y hy,hL.zeroAdd z hz] at h2
 exact h2
theorem zeF (hL:FieldLaws q add mul) {R:Nat->Nat->Nat} {c c':Nat->Nat} {j s:Nat}:∀ n,s<n->(∀ t,t<n->t≠s->mul (c t) (R t j)=mul (c' t) (R t j))->spE add mul R c n j=spE add mul R c' n j->mul (c s) (R s j)=mul (c' s) (R s j)
 | 0,h,_,_=>absurd h (by omega)
 | n + 1, h, ht, e => by
  have e:add (spE add mul R c n j) (mul (c n) (R n j))=add (spE add mul R c' n j) (mul (c' n) (R n j)):=e
  by_cases hn:s=n
  ·subst hn
   have h1:∀ m,m<=s->spE add mul R c m j=spE add mul R c' m j:=by
    intro m
    induction m with
    | zero=>intro _; rfl
    | succ m ih =>
     intro hm
     show add (spE add mul R c m j) (mul (c m) (R m j))=add (spE add mul R c' m j) (mul (c' m) (R m j))
     rw [ih (by omega),ht m (by omega) (by omega)]
   rw [h1 s (Nat.le_refl _)] at e
   exact zhw hL (za0 hL _ _ _) (hL.mulLt _ _) (hL.mulLt _ _) e
  ·rw [ht n (by omega) (by omega),hL.addComm _ (mul (c' n) (R n j)),hL.addComm _ (mul (c' n) (R n j))] at e
   exact zeF hL n (by omega) (fun t h1 h2=>ht t (by omega) h2) (zhw hL (hL.mulLt _ _) (za0 hL _ _ _) (za0 hL _ _ _) e)
theorem zbM {R:Nat->Nat->Nat} {c c':Nat->Nat} {j:Nat}:∀ n,(∀ t,t<n->mul (c t) (R t j)=mul (c' t) (R t j))->spE add mul R c n j=spE add mul R c' n j
 | 0,_=>rfl
 | n+1,h=>by
  show add (spE add mul R c n j) (mul (c n) (R n j))=add (spE add mul R c' n j) (mul (c' n) (R n j))
  rw [zbM n fun t ht=>h t (by omega),h n (by omega)]
theorem zfS (hL:FieldLaws q add mul) {x y z:Nat} (hx:x<q) (hy:y<q) (hz:z<q) (hz0:z≠0) (h:mul x z=mul y z):x=y:=by
 obtain ⟨v,hv,e⟩:=hL.inv z hz hz0
 have h2:mul (mul x z) v=mul (mul y z) v:=by rw [h]
 rw [hL.mulAssoc x z v hx hz hv,hL.mulAssoc y z v hy hz hv,e,hL.mulOne hx,hL.mulOne hy] at h2
 exact h2
theorem zd6 {V:Nat->Nat->Nat} {c:Nat->Nat} {lo j:Nat}:∀ n,spE add mul (fun i j=>V i (lo+j)) c n j=spE add mul V c n (lo+j)
 | 0=>rfl
 | n+1=>by
  show add (spE add mul (fun i j=>V i (lo+j)) c n j) (mul (c n) (V n (lo+j)))=add (spE add mul V c n (lo+j)) (mul (c n) (V n (lo+j)))
  rw [zd6 n]
theorem SameSp.cut {V R:Nat->Nat->Nat} {n' lo m:Nat} (h:SameSp q add mul N n n' V R) (hlm:lo+m<=N):SameSp q add mul m n n' (fun i j=>V i (lo+j)) (fun i j=>R i (lo+j)):=by
 have a:∀ {n n':Nat} {V R:Nat->Nat->Nat},(∀ x,InSp q add mul n N V x->InSp q add mul n' N R x)->∀ x,InSp q add mul n m (fun i j=>V i (lo+j)) x->InSp q add mul n' m (fun i j=>R i (lo+j)) x:=fun {n n' V R} h x ⟨c,hc,hx⟩=>by
  obtain ⟨c2,d,b⟩:=h (spE add mul V c n) ⟨c,hc,fun _ _=>rfl⟩
  refine ⟨c2,d,fun j hj=>?_⟩
  rw [hx j hj,zd6,zd6,b (lo+j) (by omega)]
 exact fun x=>⟨a (fun x=>(h x).1) x,a (fun x=>(h x).2) x⟩
theorem zd7 (hL:FieldLaws q add mul) {m a:Nat} {R W:Nat->Nat->Nat} {p:Nat->Nat} {D:Nat->Bool} {κ μ:Nat->Nat} (hR:∀ s,s<n->∀ j,j<m->R s j<q)
  (hE:EchN q a m m a p W) (hS:SameSp q add mul m n a R W)
  (hκ:∀ s,s<n->D s=true->κ s<m/\R s (κ s)≠0) (htri:∀ s t,s<n->t<n->D s=true->t≠s->R t (κ s)=0∨(D t=true/\μ t<μ s)) (hz:∀ s,s<n->D s=false->∀ j,j<m->R s j=0) :
  a=cntB D n:=by
 have l:=hL.two
 have hq:0<q:=by omega
 have uniq:∀ c c':Nat->Nat,(∀ s,s<n->c s<q)->(∀ s,s<n->c' s<q)->(∀ j,j<m->spE add mul R c n j=spE add mul R c' n j)->∀ b s,μ s<b->s<n->D s=true->c s=c' s:=fun c c' hc hc' h b=>by
  induction b with
  | zero=>intro s hb; omega
  | succ b ih =>
   intro s hb hs hD
   obtain ⟨k1,k2⟩:=hκ s hs hD
   have e:=zeF hL (R:=R) (c:=c) (c':=c') (j:=κ s) (s:=s) n hs (fun t ht d=>by
    rcases htri s t hs ht hD d with e | ⟨e1,e2⟩
    ·rw [e,hL.mulZero (hc t ht),hL.mulZero (hc' t ht)]
    ·rw [ih t (by omega) ht e1]) (h _ k1)
   exact zfS hL (hc s hs) (hc' s hs) (hR s hs _ k1) k2 e
 have uniq2:∀ c c':Nat->Nat,(∀ s,s<n->c s<q)->(∀ s,s<n->c' s<q)->(∀ j,j<m->spE add mul R c n j=spE add mul R c' n j)->∀ s,s<n->D s=true->c s=c' s:=fun c c' hc hc' h s hs hD=>uniq c c' hc hc' h (μ s+1) s (by omega) hs hD
 have same:∀ c c':Nat->Nat,(∀ s,s<n->c s<q)->(∀ s,s<n->c' s<q)->(∀ s,s<n->D s=true->c s=c' s)->∀ j,j<m->spE add mul R c n j=spE add mul R c' n j:=fun c c' hc hc' h j hj=>zbM n fun t ht=>by
  cases hD:D t with
  | true=>rw [h t ht hD]
  | false=>rw [hz t ht hD j hj,hL.mulZero (hc t ht),hL.mulZero (hc' t ht)]
 have pw:∀ i,∃ c,(∀ s,s<n->c s<q)/\∀ j,j<m->spE add mul W (msgD q a i) a j=spE add mul R c n j:=fun i=>by
  obtain ⟨c,hc,hx⟩:=(hS (spE add mul W (msgD q a i) a)).2 ⟨msgD q a i,fun _ _=>zbH hq,fun _ _=>rfl⟩
  exact ⟨c,hc,hx⟩
 have le1:q ^ a<=q ^ cntB D n:=by
  refine pigeon (f:=fun i=>packB q D (pw i).choose n) (fun i _=>zbL n (pw i).choose_spec.1) fun i k hi hk e=>?_
  have h1:=zcS n (pw i).choose_spec.1 (pw k).choose_spec.1 e
  have h2:∀ j,j<m->spE add mul W (msgD q a i) a j=spE add mul W (msgD q a k) a j:=fun j hj=>by
   rw [(pw i).choose_spec.2 j hj,(pw k).choose_spec.2 j hj]
   exact same _ _ (pw i).choose_spec.1 (pw k).choose_spec.1 h1 j hj
  refine zja hq hi hk fun t ht=>?_
  have h3:=h2 (p (a - 1 - t)) (hE.pvlt _ (by omega))
  rw [hE.spE_pv hL (fun _ _=>zbH hq) (by omega),hE.spE_pv hL (fun _ _=>zbH hq) (by omega)] at h3
  unfold msgD at h3
  rwa [show a - 1 - (a - 1 - t)=t by omega] at h3
 have le2:q ^ cntB D n<=q ^ a:=by
  have sj:∀ y,∃ c:Nat->Nat,(∀ s,c s<q)/\(y<q ^ cntB D n->packB q D c n=y):=fun y=>by
   by_cases hy:y<q ^ cntB D n
   ·obtain ⟨c,h1,_,h3⟩:=zaP hq (D:=D) n y hy
    exact ⟨c,h1,fun _=>h3⟩
   ·exact ⟨fun _=>0,fun _=>hq,fun h=>absurd h hy⟩
  refine pigeon (f:=fun y=>code q (fun s=>spE add mul R (sj y).choose n (p s)) a) (fun y _=>zcD fun s _=>za0 hL _ _ _) fun y z hy hz2 e=>?_
  have e1:=zcX (fun s _=>za0 hL _ _ _) (fun s _=>za0 hL _ _ _) e
  have g:∀ y,InSp q add mul a m W (spE add mul R (sj y).choose n):=fun y=>(hS _).1 ⟨_,fun s _=>(sj y).choose_spec.1 s,fun _ _=>rfl⟩
  have co:∀ y j,j<m->spE add mul R (sj y).choose n j=spE add mul W (fun s=>spE add mul R (sj y).choose n (p s)) a j:=fun y j hj=>(ziw hL hE (fun j _=>za0 hL _ _ _)).1 (g y) j hj
  have h2:∀ j,j<m->spE add mul R (sj y).choose n j=spE add mul R (sj z).choose n j:=fun j hj=>by
   rw [co y j hj,co z j hj]
   exact zbT a fun s hs=>⟨e1 s hs,rfl⟩
  have h3:=uniq2 _ _ (fun s _=>(sj y).choose_spec.1 s) (fun s _=>(sj z).choose_spec.1 s) h2
  have h4:=zaU (q:=q) (D:=D) n h3
  rw [(sj y).choose_spec.2 hy,(sj z).choose_spec.2 hz2] at h4
  exact h4
 have h1:=(Nat.pow_le_pow_iff_right (show 1<q by omega)).1 le1
 have h2:=(Nat.pow_le_pow_iff_right (show 1<q by omega)).1 le2
 omega
theorem SpanF.ranks (hL:FieldLaws q add mul) {pv:Nat->Nat} {V R:Nat->Nat->Nat} (h:SpanF q n N pv R) (hV:∀ i,i<n->∀ j,j<N->V i j<q) (hS:SameSp q add mul N n n V R) (hd:∀ i j,i<j->j<n->lE (R i) N≠lE (R j) N)
  {i a b:Nat} (hi:i<=N) (ha:RankIs q add mul n V 0 i a) (hb:RankIs q add mul n V i (N - i) b):a+b=cntB (fun s=>decide (pv s<i) && decide ((i:Int)<=lE (R s) N)) n+n:=by
 obtain ⟨p1,W1,e,k⟩:=ha
 obtain ⟨p2,W2,d,f⟩:=hb
 have e1:SameSp q add mul i n a (fun s j=>R s (0+j)) W1:=fun x=>((hS.cut (lo:=0) (m:=i) (by omega) x).symm.trans ((RowOps.sp hL (fun s hs j hj=>hV s hs (0+j) (by omega)) k).1 x)).trans (EchN.sp_top hL e x)
 have e2:SameSp q add mul (N - i) n b (fun s j=>R s (i+j)) W2:=fun x=>((hS.cut (lo:=i) (m:=N - i) (by omega) x).symm.trans ((RowOps.sp hL (fun s hs j hj=>hV s hs (i+j) (by omega)) f).1 x)).trans (EchN.sp_top hL d x)
 have k1:a=cntB (fun s=>decide (pv s<i)) n:=by
  refine zd7 hL (κ:=pv) (μ:=fun s=>s) (fun s hs j hj=>h.lt s hs (0+j) (by omega)) e.top e1 (fun s hs hD=>?_) (fun s t hs ht hD hne=>?_) (fun s hs hD j hj=>?_)
  ·have hD:=of_decide_eq_true hD
   refine ⟨hD,?_⟩
   show R s (0+pv s)≠0
   rw [Nat.zero_add,h.one s hs]
   omega
  ·have hD:=of_decide_eq_true hD
   rcases Nat.lt_or_ge t s with g | g
   ·exact .inr ⟨decide_eq_true (by have:=h.inc t s g hs; omega),g⟩
   refine .inl ?_
   show R t (0+pv s)=0
   rw [Nat.zero_add]
   exact h.low t ht _ (h.inc s t (by omega) ht)
  have hD:=of_decide_eq_false hD
  show R s (0+j)=0
  rw [Nat.zero_add]
  exact h.low s hs j (by omega)
 have k2:b=cntB (fun s=>decide ((i:Int)<=lE (R s) N)) n:=by
  have c:=fun s=>zix (u:=R s) N
  refine zd7 hL (κ:=fun s=>(lE (R s) N).toNat - i) (μ:=fun s=>N - (lE (R s) N).toNat) (fun s hs j hj=>h.lt s hs (i+j) (by omega)) d.top e2 (fun s hs hD=>?_) (fun s t hs ht hD hne=>?_) (fun s hs hD j hj=>?_)
  ·have hD:=of_decide_eq_true hD
   have h1:=c s
   have h2:=zka (u:=R s) N (lE (R s) N).toNat (by omega)
   refine ⟨by omega,?_⟩
   show R s (i+((lE (R s) N).toNat - i))≠0
   rw [show i+((lE (R s) N).toNat - i)=(lE (R s) N).toNat by omega]
   exact h2.2
  rotate_left
  ·have hD:=of_decide_eq_false hD
   have h1:=c s
   show R s (i+j)=0
   exact zbs (n:=N) (by omega) (by omega)
  have hD:=of_decide_eq_true hD
  have h1:=c s
  have h2:=c t
  show R t (i+((lE (R s) N).toNat - i))=0∨_
  rw [show i+((lE (R s) N).toNat - i)=(lE (R s) N).toNat by omega]
  have l:lE (R s) N≠lE (R t) N:=by
   rcases Nat.lt_or_ge s t with g | g
   ·exact hd s t g ht
   ·exact (hd t s (by omega) hs).symm
  by_cases g:lE (R t) N<lE (R s) N
  ·exact .inl (zbs (n:=N) (by omega) (by omega))
  ·exact .inr ⟨decide_eq_true (by omega),by omega⟩
 rw [k1,k2]
 exact zd5 n fun s hs=>by
  have h1:=h.pos hs
  by_cases g:pv s<i
  ·exact .inl (decide_eq_true g)
  ·exact .inr (decide_eq_true (by omega))
end
theorem zfT {w:World} {b n:Nat} {t:TypeId} {f:Nat->Value} (h:w.rowIs b t n f) (hf:∀ i,i<n->∀ u,f i≠.int .u32 u):NoInt w b:=fun j u hj=>by
 obtain ⟨cur,hg,hsz,hc⟩:=h
 rw [cell_of_row w b j cur t (0,0) hg] at hj
 have hlt:j<n:=by
  have:=(Array.getElem?_eq_some_iff.1 hj).1
  omega
 have:=hc j hlt
 rw [hj] at this
 injection this with this
 exact hf j hlt u this.symm
theorem zfm {w:World} {B n b i:Nat} {A:Option Addr} {f:Nat->Nat} (h:Lims w B A n f) (hni:NoInt w b) (u:Value):Lims (w.setCell ⟨b,i,none⟩ u) B A n f:=fun k hk=>by
 obtain ⟨b',o',e,h1,h2⟩:=h k hk
 refine ⟨b',o',e,h1,fun j hj=>?_⟩
 have hc:=h2 j hj
 exact zab hc fun e=>hni _ _ (by rw [<-show b'=b from e]; exact hc)
theorem zaV {w:World} {b i x:Nat} {A:Option Addr} (h:NatOk w w.heap.size A x) (hni:NoInt w b) (u:Value):NatOk (w.setCell ⟨b,i,none⟩ u) (w.setCell ⟨b,i,none⟩ u).heap.size A x:=by
 have:=zfm (i:=i) h hni u
 simpa [NatOk] using this
theorem zbp {w:World} {b i b':Nat} {u:Value} (h:NoInt w b) (hu:∀ n,u≠.int .u32 n):NoInt (w.setCell ⟨b',i,none⟩ u) b:=fun j n hj=>by
 by_cases e:(⟨b,j,none⟩:Addr)=⟨b',i,none⟩
 rotate_left
 ·exact h j n (by rwa [World.cell?_setCell_other w ⟨b',i,none⟩ ⟨b,j,none⟩ u (fun h=>e h.symm)] at hj)
 injection e with e1 e2
 subst e1 e2
 cases hc:w.cell? ⟨b,j,none⟩ with
 | none =>
  have:(w.setCell ⟨b,j,none⟩ u).cell? ⟨b,j,none⟩=none:=by
   revert hc
   unfold World.cell? World.setCell
   intro hc
   simp only [Option.isSome_none,Bool.false_eq_true,if_false] at hc ⊢
   split at hc
   ·rename_i c e fr hb
    have hb:w.heap[b]?=some (.cells c e fr):=hb
    have a:(w.heap.modify b fun
      | .cells c e fr=>.cells (c.setIfInBounds j u) e fr
      | o=>o)[b]?=some (.cells (c.setIfInBounds j u) e fr):=by
     rw [Array.getElem?_modify]; simp [hb]
    simp only [Array.getElem?_eq_none_iff] at hc
    simp [Array.getElem?_modify,hb]
    omega
   ·rename_i hne
    cases ho:w.heap[b]? with
    | none=>simp [Array.getElem?_modify,ho]
    | some o =>
     cases o with
     | cells c e fr=>exact absurd ho (hne _ _ _)
     | _=>simp [Array.getElem?_modify,ho]
  rw [this] at hj
  cases hj
 | some v =>
  rw [zcL hc] at hj
  injection hj with hj
  exact hu _ hj
def upd2 (x:Nat->Nat->Nat) (v k y:Nat):Nat->Nat->Nat:=fun u j=>if u=v/\j=k then y else x u j
theorem zhx (x:Nat->Nat->Nat) (v k y:Nat):upd2 x v k y v k=y:=if_pos ⟨rfl,rfl⟩
theorem zhy {x:Nat->Nat->Nat} {v k y u j:Nat} (h:¬ (u=v/\j=k)):upd2 x v k y u j=x u j:=if_neg h
structure NumTab (w:World) (g base m:Nat) (F:Nat->Value) (n:Nat->Nat) (x:Nat->Nat->Nat):Prop where
 row:w.rowIs g 64 m F
 own:∀ v,v<m->NatOwn w base (F v) (n v) (x v)
 apart:∀ v u,v<m->u<m->v≠u->(F v).ownBlock=none∨(F v).ownBlock≠(F u).ownBlock
section
variable {w w':World} {g base m:Nat} {F:Nat->Value} {n n':Nat->Nat} {x x':Nat->Nat->Nat}
theorem NatOwn.congr {v:Value} {k:Nat} {y y':Nat->Nat} (h:NatOwn w base v k y) (e:∀ i,i<k->y i=y' i):NatOwn w base v k y':=by
 obtain ⟨f,h1,h2,h3⟩:=h
 exact ⟨f,h1,h2,fun i hi=>by rw [<-e i hi]; exact h3 i hi⟩
theorem NatOwn.lt {v:Value} {k:Nat} {y:Nat->Nat} (h:NatOwn w base v k y):∀ b,v.ownBlock=some b->base<=b/\b<w.heap.size:=by
 obtain ⟨f,h1,_⟩:=h
 exact h1.lt
theorem NatOwn.isSlice {v:Value} {k:Nat} {y:Nat->Nat} (h:NatOwn w base v k y):∃ A c,v=.slice A k c:=by
 obtain ⟨f,h1,_⟩:=h
 exact h1.shape
theorem NumTab.on (h:NumTab w g base m F n x) (hb:Below w.heap.size w w'):NumTab w' g base m F n x:=⟨rowIs_on_ h.row hb,fun v hv=>(h.own v hv).on hb,h.apart⟩
where rowIs_on_ {w w':World} {b:Nat} {t:TypeId} {n:Nat} {f:Nat->Value} (h:w.rowIs b t n f) (hb:Below w.heap.size w w'):w'.rowIs b t n f:=h.of_block (hb.block b h.lt)
theorem NumTab.congr (h:NumTab w g base m F n x) (e1:∀ v,v<m->n v=n' v) (e2:∀ v,v<m->∀ k,k<n v->x v k=x' v k):NumTab w g base m F n' x' :=
 ⟨h.row,fun v hv=>by rw [<-e1 v hv]; exact (h.own v hv).congr (e2 v hv),h.apart⟩
theorem NumTab.at (h:NumTab w g base m F n x) {v k:Nat} (hv:v<m) (hk:k<n v):∃ b o d A c,F v=.slice (some ⟨b,o,none⟩) (n v) d/\base<=b/\b<w.heap.size/\w.cell? ⟨b,o+k,none⟩=some (.slice A (dl (x v k)) c) /\
  dl (x v k)<=c/\c<=maxLen/\NatOk w w.heap.size A (x v k)/\w.frozen? ⟨b,o+k,none⟩=false/\NoInt w b:=by
 obtain ⟨f,h1,h2,h3⟩:=h.own v hv
 obtain ⟨b,o,d,e,hb,hl,_,_,hc⟩:=h1.form (by omega)
 obtain ⟨A,c,e0,n1,n2,n3⟩:=h3 k hk
 have a:=hc k hk 0 (by omega)
 rw [Nat.mul_one,Nat.add_zero,e0] at a
 refine ⟨b,o,d,A,c,e,hb,hl,a,n2,n3,n1,?_,h2 b (by rw [e]; rfl)⟩
 rw [e] at h1
 exact h1.frozen (o+k)
theorem NumTab.set (h:NumTab w g base m F n x) (hgb:g<base) {v k b o d:Nat} (hv:v<m) (hk:k<n v) (hF:F v=.slice (some ⟨b,o,none⟩) (n v) d) {A:Option Addr} {c y:Nat} (hy:NatOk w w.heap.size A y) (h1:dl y<=c) (h2:c<=maxLen) :
  NumTab (w.setCell ⟨b,o+k,none⟩ (.slice A (dl y) c)) g base m F n (upd2 x v k y):=by
 have l:(F v).ownBlock=some b:=by rw [hF]; rfl
 have s:=(h.own v hv).lt b l
 have j:NoInt w b:=by
  obtain ⟨f,_,k2,_⟩:=h.own v hv
  exact k2 b l
 have p:∀ u:Int,(Value.slice A (dl y) c)≠.int .u32 u:=fun u e=>by cases e
 refine ⟨h.row.setOther (by simp; omega) _,fun u hu=>?_,h.apart⟩
 by_cases e:u=v
 ·subst e
  obtain ⟨f,k1,k2,k3⟩:=h.own u hu
  rw [hF] at k1 ⊢
  have ks:=k1.set (a:=k) (b:=0) hk (by omega) (.slice A (dl y) c)
  rw [Nat.mul_one,Nat.add_zero] at ks
  refine ⟨_,ks,fun q hq=>?_,fun i hi=>?_⟩
  ·obtain rfl:b=q:=by simpa [Value.ownBlock] using hq
   exact zbp j p
  by_cases ei:i=k
  ·subst ei
   exact ⟨A,c,by rw [zhx,if_pos ⟨rfl,rfl⟩],by rw [zhx]; exact zaV hy j _,by rw [zhx]; exact h1,h2⟩
  obtain ⟨A',c',e0,n1,n2,n3⟩:=k3 i hi
  have eo:upd2 x u k y u i=x u i:=zhy fun hh=>ei hh.2
  exact ⟨A',c',by rw [eo,if_neg fun hh=>ei hh.1]; exact e0,by rw [eo]; exact zaV n1 j _,by rw [eo]; exact n2,n3⟩
 obtain ⟨f,k1,k2,k3⟩:=h.own u hu
 have r:(F u).ownBlock≠some b:=fun hh=>by
  rcases h.apart u v hu hv e with h0 | h0
  ·rw [h0] at hh; cases hh
  ·rw [l] at h0; exact h0 hh
 refine ⟨f,k1.setCell r _,fun q hq=>zbp (k2 q hq) p,fun i hi=>?_⟩
 obtain ⟨A',c',e0,n1,n2,n3⟩:=k3 i hi
 have eo:upd2 x v k y u i=x u i:=zhy fun hh=>e hh.1
 exact ⟨A',c',by rw [eo]; exact e0,by rw [eo]; exact zaV n1 j _,by rw [eo]; exact n2,n3⟩
theorem zgq {row:Option Nat} {A:Option Addr} {y:Nat} (h:NatOk w w.heap.size A y) (hg:w.grownBy w' row) (hni:∀ q,row=some q->NoInt w q):NatOk w' w'.heap.size A y:=fun q hq=>by
 obtain ⟨b',o',e,h1,h2⟩:=zdB h (Nat.le_refl _) hg hni q hq
 exact ⟨b',o',e,Nat.lt_of_lt_of_le h1 hg.size,h2⟩
theorem NumTab.put (h:NumTab w g base m F n x) (hgb:g<base) {v:Nat} (hv:v<m) {v':Value} {k':Nat} {y:Nat->Nat} (hown:NatOwn w' base v' k' y) (hg:w.grownBy w' (F v).ownBlock) (hat:v'.ownBlock=(F v).ownBlock∨v'.ownBlock=some w.heap.size) :
  NumTab (w'.setCell ⟨g,v,none⟩ v') g base m (fun u=>if u=v then v' else F u) (fun u=>if u=v then k' else n u) (fun u=>if u=v then y else x u):=by
 obtain ⟨fv,f1,f2,f3⟩:=h.own v hv
 have f:∀ u,u<m->∀ k,(F u).ownBlock=some k->base<=k/\k<w.heap.size:=fun u hu=>(h.own u hu).lt
 have B:g<w.heap.size:=h.row.lt
 have o:w'.rowIs g 64 m F:=h.row.of_block (hg.block g B (fun e=>by have:=(f v hv g e.symm).1; omega))
 have d:NoInt w' g:=zfT o fun i hi u e=>by
  obtain ⟨A,c,hs⟩:=(h.own i hi).isSlice
  rw [hs] at e
  cases e
 have s:∀ q,(F v).ownBlock=some q->NoInt w q:=f2
 have p:∃ A c,v'=.slice A k' c:=hown.isSlice
 have l:∀ u:Int,v'≠.int .u32 u:=fun u e=>by
  obtain ⟨A,c,hs⟩:=p
  rw [hs] at e
  cases e
 refine ⟨?_,fun u hu=>?_,fun a b ha hb hab=>?_⟩
 ·exact (o.set v v').congr fun u _=>by split <;> rfl
 ·by_cases e:u=v
  ·subst e
   simp only [if_true]
   obtain ⟨f',k1,k2,k3⟩:=hown
   refine ⟨f',k1.setCell (fun e=>by have:=(k1.lt _ e).1; simp at this; omega) _,fun q hq=>zbp (k2 q hq) l,fun i hi=>?_⟩
   obtain ⟨A,c,e0,n1,n2,n3⟩:=k3 i hi
   exact ⟨A,c,e0,zaV n1 d _,n2,n3⟩
  simp only [if_neg e]
  obtain ⟨f',k1,k2,k3⟩:=h.own u hu
  have hk:=k1.kept hg (h.apart u v hu hv e)
  refine ⟨f',hk.setCell (fun e=>by have:=(hk.lt _ e).1; simp at this; omega) _,fun q hq=>zbp (fun j z hz=>?_) l,fun i hi=>?_⟩
  ·have r:=(k1.lt q hq).2
   have C:=hg.block q r (fun e2=>by
    rcases h.apart u v hu hv e with h0 | h0
    ·rw [h0] at hq; cases hq
    ·exact h0 (hq.trans e2))
   refine k2 q hq j z ?_
   rw [<-hz]
   simp only [World.cell?,C]
  ·obtain ⟨A,c,e0,n1,n2,n3⟩:=k3 i hi
   exact ⟨A,c,e0,zaV (zgq n1 hg s) d _,n2,n3⟩
 by_cases ea:a=v
 ·have eb:¬ b=v:=fun e=>hab (by rw [ea,e])
  simp only [if_pos ea,if_neg eb]
  subst ea
  rcases hat with h1 | h1
  ·rw [h1]; exact h.apart a b ha hb hab
  right
  rw [h1]
  intro e2
  have:=(f b hb _ e2.symm).2
  omega
 simp only [if_neg ea]
 by_cases eb:b=v
 rotate_left
 ·simp only [if_neg eb]; exact h.apart a b ha hb hab
 simp only [if_pos eb]
 subst eb
 rcases hat with h1 | h1
 ·rw [h1]; exact h.apart a b ha hb hab
 rw [h1]
 cases hfa:(F a).ownBlock with
 | none=>exact .inl rfl
 | some k =>
  right
  intro e2
  injection e2 with e2
  have:=(f a ha k hfa).2
  omega
end
theorem zdp (w:World) (ty:TypeId) (base:Nat) (v:Value) (k:Nat) (x:Nat->Nat) (h:NatOwn w base v k x) (hbase:base<=w.heap.size) (hk:k<=1048576)
  (b c:Nat) (A:Option Addr) (d:Nat) (c0:w.cell? ⟨b,0,none⟩=some (.slice A (dl (x k)) d)) (m1:NatOk w w.heap.size A (x k)) (m3:dl (x k)<=d) (m4:d<=maxLen) :
  ∃ v' w',(Builtin.append_ #[64, 64] ty #[v,.slice (some ⟨b,0,none⟩) 1 c]).run Tryz.prog w=.ok v' w'/\NatOwn w' base v' (k+1) x/\w.grownBy w' v.ownBlock/\(v'.ownBlock=v.ownBlock∨v'.ownBlock=some w.heap.size):=by
 obtain ⟨v',w',a,h2,h3,_⟩:=zd2 w ty base v k x h hbase hk b c A d (x k) rfl c0 m1 m3 m4
 refine ⟨v',w',a,h2,h3,?_⟩
 obtain ⟨f,l,n,hf⟩:=h
 obtain ⟨i,hi,m⟩:=Option.map_eq_some_iff.1 Tryz.infoNat
 simp only [Prod.mk.injEq] at m
 obtain ⟨hz,hs,hb⟩:=m
 let f':Nat->Nat->Value:=fun i j=>if i<k then (if j<1 then f i 0 else undef) else .slice A (dl (x k)) d
 have e:Own w base 69 1 v k f':=l.congr fun i hi j hj=>by
  obtain rfl:j=0:=by omega
  simp [f',hi]
 have g:∀ j,j<1->w.cell? ((⟨b,0,none⟩:Addr).add j)=some (f' k j):=fun j hj=>by
  obtain rfl:j=0:=by omega
  have:(⟨b,0,none⟩:Addr).add 0=⟨b,0,none⟩:=by unfold Addr.add; split <;> simp_all
  rw [this]
  simpa [f'] using c0
 have h1:∀ j,j<1->(f' k j).oneCell'=true:=fun j hj=>by simp [f']; rfl
 obtain ⟨v1,w1,e1,_,_,a1,_⟩:=zbb (P:=Tryz.prog) w base 64 ty 69 i _ 1 24 Tryz.underlying64 hi hz hs hb rfl (by omega) v k f' e ⟨b,0,none⟩ c g h1 (by unfold maxLen; omega) (by omega) hbase
 rw [a] at e1
 injection e1 with e1 e2
 subst e1
 exact a1
theorem zdc {ops:Array Oper} {o:Oper} {a:Act} {w:World} {K:Act->World->Prop} {Q:Exit->Act->World->Prop} {E:Prop} (hgd:o.guard=none) (sl y:Operand)
  (ho:o.op=.call { callee:=.builtin .append,args:=#[sl,y],argTypes:=#[64, 64] })
  (base:Nat) (v:Value) (k:Nat) (x:Nat->Nat) (hv:a.eval sl=v) (h:NatOwn w base v k x) (hbase:base<=w.heap.size) (hk:k<=1048576)
  (b c:Nat) (hy:a.eval y=.slice (some ⟨b,0,none⟩) 1 c) (A:Option Addr) (d:Nat) (c0:w.cell? ⟨b,0,none⟩=some (.slice A (dl (x k)) d)) (m1:NatOk w w.heap.size A (x k)) (m3:dl (x k)<=d) (m4:d<=maxLen)
  (hK:∀ v' w',NatOwn w' base v' (k+1) x->w.grownBy w' v.ownBlock->(v'.ownBlock=v.ownBlock∨v'.ownBlock=some w.heap.size)->K (a.put o.dst v') w') :
  if Region.wanted o (yielded ops a.tmps)=true then Oper.wp Tryz.prog o a w K Q else E:=by
 have hw:Region.wanted o (yielded ops a.tmps)=true:=by simp [Region.wanted,hgd]
 rw [if_pos hw]
 obtain ⟨v',w',e,h2,h3,h4⟩:=zdp w o.type base v k x h hbase hk b c A d c0 m1 m3 m4
 unfold Oper.wp execOp
 simp only [ho,resolve,invoke,builtin,Sem.run_bind,Sem.run_pure,Result.andThen_ok,List.map_toArray,List.map_cons,List.map_nil,hv,hy,e]
 exact hK v' w' h2 h3 h4
structure Trel where
 nw:Nat
 W:Nat->Int
 n:Nat
 el:Nat->Nat
 fr:Nat->Nat->Int
 lb:Nat->Nat->Int
 «to»:Nat->Nat->Int
def Trel.edge (T:Trel) (i j k:Nat):Value:=if k=0 then .int .i64 (T.fr i j) else if k=1 then .int .i64 (T.lb i j) else .int .i64 (T.to i j)
def InI64 (x:Int):Prop := -9223372036854775808<=x/\x<=9223372036854775807
def Trel.Secs (T:Trel) (w:World) (B:Option Addr):Prop :=
 ∀ i,i<T.n->∃ b off E c,B=some ⟨b,off,none⟩/\b<w.heap.size/\w.cell? ⟨b,off+i,none⟩=some (.slice E (T.el i) c)/\T.el i<=c/\c<=maxLen/\Rd w w.heap.size E (T.el i) 3 (T.edge i) /\
  ∀ j,j<T.el i->InI64 (T.fr i j)/\InI64 (T.lb i j)/\InI64 (T.to i j)
def Trel.Reads (T:Trel) (w:World) (A B:Option Addr):Prop :=
 IntsR w w.heap.size A T.nw T.W/\(∀ i,i<T.nw->InI64 (T.W i))/\T.Secs w B/\T.nw<=140737488351232/\T.n<=140737488351232/\∀ i,i<T.n->T.el i<=140737488351232
section
variable {T:Trel} {w w':World} {A B:Option Addr}
theorem Trel.Secs.on (h:T.Secs w B) (hb:Below w.heap.size w w'):T.Secs w' B:=fun i hi=>by
 obtain ⟨b,off,E,c,e,h1,h2,h3,h4,h5,h6⟩:=h i hi
 exact ⟨b,off,E,c,e,Nat.lt_of_lt_of_le h1 hb.size,(hb.cell (p:=⟨b,_,none⟩) h1).trans h2,h3,h4,(Rd.below h5 hb (Nat.le_refl _)).mono hb.size,h6⟩
theorem Trel.Reads.on (h:T.Reads w A B) (hb:Below w.heap.size w w'):T.Reads w' A B:=⟨h.1.on hb,h.2.1,h.2.2.1.on hb,h.2.2.2⟩
theorem Trel.Reads.width (h:T.Reads w A B) {i:Nat} (hi:i<T.nw):∃ b off,A=some ⟨b,off,none⟩/\b<w.heap.size/\w.cell? ⟨b,off+i,none⟩=some (.int .i64 (T.W i))/\InI64 (T.W i):=by
 obtain ⟨b,off,e,h1,h2⟩:=h.1.at hi
 exact ⟨b,off,e,h1,h2,h.2.1 i hi⟩
theorem Trel.Reads.sec (h:T.Reads w A B) {i:Nat} (hi:i<T.n):∃ b off E c,B=some ⟨b,off,none⟩/\b<w.heap.size/\w.cell? ⟨b,off+i,none⟩=some (.slice E (T.el i) c)/\T.el i<=c/\c<=maxLen/\Rd w w.heap.size E (T.el i) 3 (T.edge i) /\
  ∀ j,j<T.el i->InI64 (T.fr i j)/\InI64 (T.lb i j)/\InI64 (T.to i j):=h.2.2.1 i hi
theorem zdd {E:Option Addr} {i j m:Nat} (h:Rd w w.heap.size E m 3 (T.edge i)) (hj:j<m) :
  ∃ b off,E=some ⟨b,off,none⟩/\b<w.heap.size/\w.cell? ⟨b,off+j*3,none⟩=some (.int .i64 (T.fr i j))/\w.cell? ⟨b,off+j*3+1,none⟩=some (.int .i64 (T.lb i j))/\w.cell? ⟨b,off+j*3+2,none⟩=some (.int .i64 (T.to i j)):=Rd.at3 h hj
end
def Trel.sumW (T:Trel):Nat->Int
 | 0=>0
 | k+1=>T.sumW k+T.W k
def Trel.sumE (T:Trel):Nat->Nat
 | 0=>0
 | k+1=>T.sumE k+T.el k
def Trel.inside (T:Trel) (i j:Nat):Prop:=0<=T.fr i j/\T.fr i j<T.W i/\0<=T.to i j/\T.to i j<T.W (i+1)
instance (T:Trel) (i j:Nat):Decidable (T.inside i j):=by unfold Trel.inside; exact inferInstance
def Trel.shapeE (T:Trel):Int :=
 if 64<T.n∨T.nw≠T.n+1 then 3
 else if ¬ ∀ i,i<T.nw->1<=T.W i then 6
 else if 65536<T.sumW T.nw then 8
 else if 262144<T.sumE T.n then 8
 else if ¬ ∀ i,i<T.n->∀ j,j<T.el i->T.inside i j then 6
 else 0
structure Trel.Shape (T:Trel):Prop where
 n64:T.n<=64
 nw:T.nw=T.n+1
 w1:∀ i,i<=T.n->1<=T.W i
 sW:T.sumW (T.n+1)<=65536
 sE:T.sumE T.n<=262144
 ins:∀ i,i<T.n->∀ j,j<T.el i->T.inside i j
theorem Trel.shape_of {T:Trel} (h:T.shapeE=0):T.Shape:=by
 unfold Trel.shapeE at h
 by_cases h1:64<T.n∨T.nw≠T.n+1
 ·rw [if_pos h1] at h; omega
 rw [if_neg h1] at h
 by_cases h2:∀ i,i<T.nw->1<=T.W i
 rotate_left
 ·rw [if_pos h2] at h; omega
 rw [if_neg (by simpa using h2)] at h
 by_cases h3:65536<T.sumW T.nw
 ·rw [if_pos h3] at h; omega
 rw [if_neg h3] at h
 by_cases h4:262144<T.sumE T.n
 ·rw [if_pos h4] at h; omega
 rw [if_neg h4] at h
 by_cases h5:∀ i,i<T.n->∀ j,j<T.el i->T.inside i j
 ·have a:T.nw=T.n+1:=by omega
  exact ⟨by omega,a,fun i hi=>h2 i (by omega),by rw [<-a]; omega,by omega,h5⟩
 ·rw [if_pos h5] at h; omega
theorem Trel.sumW_mono {T:Trel} {m:Nat} (h:∀ i,i<m->1<=T.W i):∀ k d,k+d<=m->T.sumW k+d<=T.sumW (k+d):=by
 intro k d
 induction d with
 | zero=>intro _; simp
 | succ d ih =>
  intro hk
  have h1:=ih (by omega)
  have h2:=h (k+d) (by omega)
  show T.sumW k+((d+1:Nat):Int)<=T.sumW (k+d)+T.W (k+d)
  omega
theorem Trel.sumE_mono {T:Trel}:∀ k d,T.sumE k<=T.sumE (k+d):=by
 intro k d
 induction d with
 | zero=>exact Nat.le_refl _
 | succ d ih=>exact Nat.le_trans ih (Nat.le_add_right _ _)
theorem Trel.Shape.wid {T:Trel} (h:T.Shape) {i:Nat} (hi:i<=T.n):1<=T.W i/\T.W i<=65536:=by
 have h1:=h.w1 i hi
 have h2:=Trel.sumW_mono (m:=T.n+1) (fun i hi=>h.w1 i (by omega)) 0 i (by omega)
 have h3:=Trel.sumW_mono (m:=T.n+1) (fun i hi=>h.w1 i (by omega)) (i+1) (T.n - i) (by omega)
 rw [show i+1+(T.n - i)=T.n+1 by omega] at h3
 have h4:=h.sW
 have h5:T.sumW (i+1)=T.sumW i+T.W i:=rfl
 simp [Trel.sumW] at h2
 omega
theorem Trel.Shape.elb {T:Trel} (h:T.Shape) {i:Nat} (hi:i<T.n):T.el i<=262144:=by
 have h3:=Trel.sumE_mono (T:=T) (i+1) (T.n - (i+1))
 rw [show i+1+(T.n - (i+1))=T.n by omega] at h3
 have h4:=h.sE
 have h5:T.sumE (i+1)=T.sumE i+T.el i:=rfl
 omega
theorem tbox {w wr:World} {cs:Array Value} {X:TypeId} (h:Below (w.heap.size+1) (w.alloc (.cells cs X)) wr) {i:Nat} {v:Value} (hi:cs[i]?=some v):wr.cell? ⟨w.heap.size,i,none⟩=some v:=by
 rw [h.cell (by simp),World.cell?_alloc_at _ _ _ _ rfl]
 exact hi
theorem zaL {w wr:World} {o:Obj} (h:Below (w.heap.size+1) (w.alloc o) wr):Below w.heap.size w wr:=((Below.refl _ _).alloc (Nat.le_refl _) _).trans (h.mono (by omega))
theorem za6 {w wr:World} {o:Obj} (h:Below (w.heap.size+1) (w.alloc o) wr):w.heap.size<wr.heap.size:=by have:=h.size; simp at this; omega
theorem zaD {w wr w':World} {o:Obj} (h:Below (w.heap.size+1) (w.alloc o) wr) (hb:Below wr.heap.size wr w'):Below (w.heap.size+1) (w.alloc o) w':=h.trans (hb.mono (za6 h))
section
variable (T:Trel)
theorem Trel.shapeE_w (hs:¬ (64<T.n∨T.nw≠T.n+1)) {k:Nat} (hk:k<T.nw) (h:T.W k<1):T.shapeE=6:=by
 unfold Trel.shapeE
 rw [if_neg hs,if_pos fun h1=>by have:=h1 k hk; omega]
variable (hs:¬ (64<T.n∨T.nw≠T.n+1)) (h1:∀ i,i<T.nw->1<=T.W i)
include hs h1
theorem Trel.shapeE_big {k:Nat} (hk:k<=T.nw) (h:65536<T.sumW k):T.shapeE=8:=by
 have h2:=Trel.sumW_mono h1 k (T.nw - k) (by omega)
 rw [show k+(T.nw - k)=T.nw by omega] at h2
 unfold Trel.shapeE
 rw [if_neg hs,if_neg (by simpa using h1),if_pos (by omega)]
variable (h2:T.sumW T.nw<=65536)
include h2
theorem Trel.shapeE_bigE {k:Nat} (hk:k<=T.n) (h:262144<T.sumE k):T.shapeE=8:=by
 have h3:=Trel.sumE_mono (T:=T) k (T.n - k)
 rw [show k+(T.n - k)=T.n by omega] at h3
 unfold Trel.shapeE
 rw [if_neg hs,if_neg (by simpa using h1),if_neg (by omega),if_pos (by omega)]
variable (h3:T.sumE T.n<=262144)
include h3
theorem Trel.shapeE_in {i j:Nat} (hi:i<T.n) (hj:j<T.el i) (h:¬ T.inside i j):T.shapeE=6:=by
 unfold Trel.shapeE
 rw [if_neg hs,if_neg (by simpa using h1),if_neg (by omega),if_neg (by omega),if_pos fun h4=>h (h4 i hi j hj)]
theorem Trel.shapeE_ok (h:∀ i,i<T.n->∀ j,j<T.el i->T.inside i j):T.shapeE=0:=by
 unfold Trel.shapeE
 rw [if_neg hs,if_neg (by simpa using h1),if_neg (by omega),if_neg (by omega),if_neg fun h4=>h4 h]
end
theorem zeG (T:Trel) (A B:Option Addr) (c d:Nat) (w:World) (h:T.Reads w A B) :
  Calls Tryz.prog 161 #[.agg #[.slice A T.nw c,.slice B T.n d]] w fun e w'=>e=.returned (.int .i64 T.shapeE)/\Below w.heap.size w w':=by
 obtain ⟨RB,M⟩:=exx ((Obj.cells #[.slice A T.nw c,.slice B T.n d] 53))
 have a4:Below (w.heap.size+1) (w.alloc RB) (w.alloc RB):=Below.refl _ _
 have HS:Hid (∀ w',Below (w.heap.size+1) (w.alloc RB) w'->(w'.cell? ⟨w.heap.size,0,none⟩=some (.slice A T.nw c)/\w'.cell? ⟨w.heap.size,1,none⟩=some (.slice B T.n d))/\Below w.heap.size w w'):=fun w' hB=>by
  have ai:=zaL hB
  subst M
  exact ⟨⟨tbox hB rfl,tbox hB rfl⟩,ai⟩
 obtain ⟨⟨p0,p1⟩,hW⟩:=HS.out _ a4
 have an:=h.2.2.2
 by_cases hs:64<T.n∨T.nw≠T.n+1
 ·have hE:Hid (T.shapeE=3):=by show _=_; unfold Trel.shapeE; rw [if_pos hs]
  go_enter Tryz.func161, Tryz.ntmps161
  by_cases aj:64<T.n
  ·have N:(T.n:Int) > 64:=by omega
   clear hs
   go_wp2_with fail
   rw [<-M]
   go_wp2
   go_ret
   exact ⟨zaz hE.out.symm,hW⟩
  have N:¬ (T.n:Int) > 64:=by omega
  have ae:((T.nw:Int) != (T.n:Int)+1)=true:=by simp; omega
  clear hs
  go_wp2_with fail
  rw [<-M]
  go_wp2
  go_ret
  exact ⟨zaz hE.out.symm,hW⟩
 have aj:T.n<=64:=by omega
 have Z:T.nw=T.n+1:=by omega
 have O:=hid hs
 have V:=hid Z
 have N:¬ (T.n:Int) > 64:=by omega
 have ae:((T.nw:Int) != (T.n:Int)+1)=false:=by simp; omega
 have ad:((T.nw:Int) == (T.n:Int)+1)=true:=by simp; omega
 clear hs Z
 go_enter Tryz.func161, Tryz.ntmps161
 go_wp2_with fail
 rw [<-M]
 have HR:=hid h
 clear h M
 go_wp2
 go_loopg [4,32] T.nw (fun gg xv iv wx=>∃ k:Nat,iv=.int .i64 (k:Nat)/\k<=T.nw/\T.nw<=k+gg/\(∀ i,i<k->1<=T.W i)/\Below (w.heap.size+1) (w.alloc RB) wx)
 case atStart=>exact ⟨0,rfl,by omega,by omega,fun i hi=>absurd hi (by omega),a4⟩
 obtain ⟨k,rfl,hk,F,l,hB⟩:=hrel
 have G:(0:Int)<=(k:Int):=by omega
 have HB:=hid hB
 have z:=za6 hB
 clear hW p0 p1 hB
 obtain ⟨⟨p0,p1⟩,hW⟩:=HS.out _ HB.out
 have s:=hid l
 clear l
 by_cases hlt:k<T.nw
 ·have a:(k:Int)<(T.nw:Int):=by omega
  obtain ⟨b,o,rfl,hb,x0,ac,ab⟩:=(HR.out.on hW).width hlt
  by_cases h1:T.W k<1
  ·have hE:=hid (T.shapeE_w O.out hlt h1)
   go_wp2
   go_ret
   exact ⟨zaz hE.out.symm,hW⟩
  have HA:Hid (∀ i,i<k+1->1<=T.W i):=fun i hi=>by
   by_cases e:i=k
   ·subst e; omega
   ·exact s.out i (by omega)
  go_wp2
  go_roundg (gk - 1)
  case measure=>omega
  case rel=>exact ⟨k+1,by go_num,by omega,by omega,HA.out,HB.out⟩
 have a:¬ (k:Int)<(T.nw:Int):=by omega
 have HA:Hid (∀ i,i<T.nw->1<=T.W i):=fun i hi=>s.out i (by omega)
 have p:(k:Int)=(T.nw:Int):=by omega
 go_wp2
 go_loopg [5,8,42] T.nw (fun gg sv xv iv wx=>∃ k:Nat,iv=.int .i64 (k:Nat)/\k<=T.nw/\T.nw<=k+gg/\sv=.int .i64 (T.sumW k)/\T.sumW k<=65536/\Below (w.heap.size+1) (w.alloc RB) wx)
 case atStart=>exact ⟨0,rfl,by omega,by omega,rfl,by simp [Trel.sumW],HB.out⟩
 clear hW p0 p1 hlt a p z HB s hk G F
 obtain ⟨k2,rfl,hk,F,rfl,D,hB⟩:=hrel
 have G:(0:Int)<=(k2:Int):=by omega
 have HB:=hid hB
 have z:=za6 hB
 clear hB
 obtain ⟨⟨p0,p1⟩,hW⟩:=HS.out _ HB.out
 have Q:=Trel.sumW_mono (m:=T.nw) HA.out 0 k2 (by omega)
 simp only [Trel.sumW,Nat.zero_add] at Q
 have r:Hid (T.sumW (k2+1)=T.sumW k2+T.W k2):=rfl
 obtain ⟨sm,C⟩:=exx (T.sumW k2)
 rw [<-C] at Q D r;rw [<-C];clear C
 by_cases hlt:k2<T.nw
 ·have a:(k2:Int)<(T.nw:Int):=by omega
  obtain ⟨b,o,rfl,hb,x0,ac,ab⟩:=(HR.out.on hW).width hlt
  by_cases h1:T.W k2 > 65536 - sm
  ·have hE:=hid (T.shapeE_big O.out HA.out (k:=k2+1) (by omega) (by rw [r.out]; omega))
   go_wp2
   go_ret
   exact ⟨zaz hE.out.symm,hW⟩
  go_wp2
  go_roundg (gk - 1)
  case measure=>omega
  case rel=>exact ⟨k2+1,by go_num,by omega,by omega,by rw [r.out],by rw [r.out]; omega,HB.out⟩
 have a:¬ (k2:Int)<(T.nw:Int):=by omega
 have p:k2=T.nw:=by omega
 have U:Hid (T.sumW T.nw<=65536):=by
  show _<=_
  rw [<-p]
  have:=r.out
  have e:T.sumW (k2+1)=T.sumW k2+T.W k2:=rfl
  omega
 clear p
 go_wp2
 go_loopg [6,10,57] T.n (fun gg sv xv iv wx=>∃ k:Nat,iv=.int .i64 (k:Nat)/\k<=T.n/\T.n<=k+gg/\sv=.int .i64 (T.sumE k:Nat)/\T.sumE k<=262144/\Below (w.heap.size+1) (w.alloc RB) wx)
 case atStart=>exact ⟨0,rfl,by omega,by omega,rfl,by simp [Trel.sumE],HB.out⟩
 clear hW p0 p1 hlt a z HB hk G F Q D r
 obtain ⟨k3,rfl,hk,F,rfl,D,hB⟩:=hrel
 have G:(0:Int)<=(k3:Int):=by omega
 have HB:=hid hB
 have z:=za6 hB
 clear hB
 obtain ⟨⟨p0,p1⟩,hW⟩:=HS.out _ HB.out
 have r:Hid (T.sumE (k3+1)=T.sumE k3+T.el k3):=rfl
 obtain ⟨sm,C⟩:=exx (T.sumE k3)
 have a5:=hid C
 rw [<-C] at D r;rw [<-C];clear C
 by_cases hlt:k3<T.n
 ·have a:(k3:Int)<(T.n:Int):=by omega
  obtain ⟨b,o,E,ec,rfl,hb,x0,a3,R,L,K⟩:=(HR.out.on hW).sec hlt
  unfold maxLen at R
  have J:=HR.out.2.2.2.2.2 k3 hlt
  obtain ⟨el,a2⟩:=exx (T.el k3)
  rw [<-a2] at x0 a3 r J;clear L K a2
  by_cases h1:sm+el > 262144
  ·have hE:=hid (T.shapeE_bigE O.out HA.out U.out (k:=k3+1) (by omega) (by rw [r.out]; omega))
   have ak:(sm:Int)+(el:Int) > 262144:=by omega
   go_wp2
   go_ret
   exact ⟨zaz hE.out.symm,hW⟩
  have ak:¬ (sm:Int)+(el:Int) > 262144:=by omega
  go_wp2
  go_roundg (gk - 1)
  case measure=>omega
  case rel=>exact ⟨k3+1,by go_num,by omega,by omega,by rw [r.out]; go_num,by rw [r.out]; omega,HB.out⟩
 have a:¬ (k3:Int)<(T.n:Int):=by omega
 have p:k3=T.n:=by omega
 have a6:Hid (T.sumE T.n<=262144):=by
  show _<=_
  rw [<-p,<-a5.out]
  exact D
 clear p
 go_wp2
 go_loopg [11,12,71] T.n (fun gg xv yv iv wx=>∃ k:Nat,iv=.int .i64 (k:Nat)/\k<=T.n/\T.n<=k+gg/\(∀ i,i<k->∀ j,j<T.el i->T.inside i j)/\Below (w.heap.size+1) (w.alloc RB) wx)
 case atStart=>exact ⟨0,rfl,by omega,by omega,fun i hi=>absurd hi (by omega),HB.out⟩
 clear hW p0 p1 hlt a z HB hk G F D r a5
 obtain ⟨gK,ah⟩:=exx gk
 subst ah
 obtain ⟨k4,rfl,hk,F,l,hB⟩:=hrel
 have G:(0:Int)<=(k4:Int):=by omega
 have HB:=hid hB
 have z:=za6 hB
 clear hB
 obtain ⟨⟨p0,p1⟩,hW⟩:=HS.out _ HB.out
 have s:=hid l
 clear l
 by_cases hlt:k4<T.n
 rotate_left
 ·have a:¬ (k4:Int)<(T.n:Int):=by omega
  have hE:=hid (T.shapeE_ok O.out HA.out U.out a6.out fun i hi=>s.out i (by omega))
  go_wp2
  go_ret
  exact ⟨zaz hE.out.symm,hW⟩
 have a:(k4:Int)<(T.n:Int):=by omega
 obtain ⟨b,o,E,ec,rfl,hb,x0,a3,R,L,K⟩:=(HR.out.on hW).sec hlt
 unfold maxLen at R
 have al:=hid x0
 go_wp2
 go_loopg [78] (T.el k4) (fun gg jv wx=>∃ j:Nat,jv=.int .i64 (j:Nat)/\j<=T.el k4/\T.el k4<=j+gg/\(∀ i,i<j->T.inside k4 i)/\Below (w.heap.size+1) (w.alloc RB) wx/\Below wr.heap.size wr wx)
 case atStart=>exact ⟨0,rfl,by omega,by omega,fun i hi=>absurd hi (by omega),HB.out,Below.refl _ _⟩
 clear hW p0 p1 z x0
 obtain ⟨j,rfl,hj,ap,l,hB,S⟩:=hrel
 have aq:(0:Int)<=(j:Int):=by omega
 have x0:=cellS S al.out
 have P:=hid S
 have X:=hid hB
 have z:=za6 hB
 clear hB S
 obtain ⟨⟨p0,p1⟩,hW⟩:=HS.out _ X.out
 have g:=hid l
 clear l
 by_cases hltj:j<T.el k4
 rotate_left
 ·have I:¬ (j:Int)<(T.el k4:Int):=by omega
  have HN:Hid (∀ i,i<k4+1->∀ j,j<T.el i->T.inside i j):=fun i hi=>by
   by_cases e:i=k4
   ·subst e; exact fun q hq=>g.out q (by omega)
   ·exact s.out i (by omega)
  clear L K
  go_wp2
  go_roundg (gK - 1)
  case measure=>omega
  case rel=>exact ⟨k4+1,by go_num,by omega,by omega,HN.out,X.out⟩
 have I:(j:Int)<(T.el k4:Int):=by omega
 obtain ⟨eb,eo,rfl,ar,e0,e1,e2⟩:=zdd ((Rd.below L P.out (Nat.le_refl _)).mono P.out.size) hltj
 obtain ⟨wb,wo,hA,am,y0,aa,a9⟩:=(HR.out.on hW).width (i:=k4) (by have:=V.out; omega)
 obtain ⟨_,_,H,_,y1,a8,a7⟩:=(HR.out.on hW).width (i:=k4+1) (by have:=V.out; omega)
 rw [hA] at H
 injection H with H; injection H with H hA3; subst H hA3
 subst hA
 have ao:k4+1<T.nw:=by have:=V.out; omega
 have ag:(k4:Int)+1<(T.nw:Int):=by omega
 have af:(k4:Int)<(T.nw:Int):=by omega
 obtain ⟨⟨i1,i2⟩,_,⟨i3,i4⟩⟩:=K j hltj
 have x:Hid (T.inside k4 j↔0<=T.fr k4 j/\T.fr k4 j<T.W k4/\0<=T.to k4 j/\T.to k4 j<T.W (k4+1)):=Iff.rfl
 have y:Hid (¬ T.inside k4 j->T.shapeE=6):=fun hb=>T.shapeE_in O.out HA.out U.out a6.out hlt hltj hb
 obtain ⟨fr,a1⟩:=exx (T.fr k4 j)
 obtain ⟨tq,Y⟩:=exx (T.to k4 j)
 obtain ⟨lb,a0⟩:=exx (T.lb k4 j)
 obtain ⟨u,hu⟩:=exx (T.W k4)
 obtain ⟨v,hv⟩:=exx (T.W (k4+1))
 rw [<-a1] at e0 x i1 i2;rw [<-a0] at e1;rw [<-Y] at e2 x i3 i4;rw [<-hu] at y0 x aa a9;rw [<-hv] at y1 x a8 a7;clear a1 Y a0 hu hv L K
 by_cases h1:fr<0
 ·clear g
  have b1:decide (fr<0)=true:=by simp; omega
  go_wp2
  go_quiet (fail)
  go_wp2
  go_ret
  exact ⟨zaz (y.out fun hi=>by have:=x.out.1 hi; omega).symm,zac (hW.alloc (by omega) _) _⟩
 have b1:decide (fr<0)=false:=by simp; omega
 by_cases h2:fr ≥ u
 ·clear g
  have b2:decide (fr ≥ u)=true:=by simp; omega
  have b3:decide (u<=fr)=true:=by simp; omega
  go_wp2
  go_quiet (fail)
  go_wp2
  go_ret
  exact ⟨zaz (y.out fun hi=>by have:=x.out.1 hi; omega).symm,zac (hW.alloc (by omega) _) _⟩
 have b2:decide (fr ≥ u)=false:=by simp; omega
 have b3:decide (u<=fr)=false:=by simp; omega
 by_cases h3:tq<0
 ·clear g
  have b4:decide (tq<0)=true:=by simp; omega
  go_wp2
  go_quiet (fail)
  go_wp2
  go_ret
  exact ⟨zaz (y.out fun hi=>by have:=x.out.1 hi; omega).symm,zac (hW.alloc (by omega) _) _⟩
 have b4:decide (tq<0)=false:=by simp; omega
 by_cases h4:tq ≥ v
 ·clear g
  have b5:decide (tq ≥ v)=true:=by simp; omega
  have b6:decide (v<=tq)=true:=by simp; omega
  go_wp2
  go_quiet (fail)
  go_wp2
  go_ret
  exact ⟨zaz (y.out fun hi=>by have:=x.out.1 hi; omega).symm,zac (hW.alloc (by omega) _) _⟩
 have b5:decide (tq ≥ v)=false:=by simp; omega
 have b6:decide (v<=tq)=false:=by simp; omega
 have HN:Hid (∀ i,i<j+1->T.inside k4 i):=fun i hi=>by
  by_cases e:i=j
  ·subst e; exact x.out.2 (by omega)
  ·exact g.out i (by omega)
 go_wp2
 go_quiet (fail)
 go_wp2
 go_roundg (gk - 1)
 case measure=>omega
 case rel=>exact ⟨j+1,by go_num,by omega,by omega,HN.out,zac (X.out.alloc (by omega) _) _,zac (P.out.alloc P.out.size _) _⟩
def cmpI (a b:Int):Int:=if a<b then -1 else if b<a then 1 else 0
theorem zje (a b:Int) (w:World):Calls Tryz.prog 157 #[.int .i64 a,.int .i64 b] w fun e w'=>e=.returned (.int .i64 (cmpI a b))/\Below w.heap.size w w':=by
 have g:(a != a)=false:=by simp
 have c:(b != b)=false:=by simp
 by_cases h1:a<b
 ·have hE:Hid (cmpI a b = -1):=if_pos h1
  go_enter Tryz.func157, Tryz.ntmps157
  go_wp2
  go_ret
  exact ⟨zaz hE.out.symm,Below.refl _ _⟩
 by_cases h2:b<a
 ·have hE:Hid (cmpI a b=1):=by show _=_; unfold cmpI; rw [if_neg h1,if_pos h2]
  have d:a > b:=h2
  go_enter Tryz.func157, Tryz.ntmps157
  go_wp2
  go_ret
  exact ⟨zaz hE.out.symm,Below.refl _ _⟩
 have hE:Hid (cmpI a b=0):=by show _=_; unfold cmpI; rw [if_neg h1,if_neg h2]
 have d:¬ a > b:=h2
 go_enter Tryz.func157, Tryz.ntmps157
 go_wp2
 go_ret
 exact ⟨zaz hE.out.symm,Below.refl _ _⟩
def orV (x y:Int):Int:=if x=0 then y else x
theorem ziC (A:Option Addr) (c:Nat) (f:Nat->Int) (w:World) (h:IntsR w w.heap.size A 2 f) :
  Calls Tryz.prog 203 #[.slice A 2 c] w fun e w'=>e=.returned (.int .i64 (orV (f 0) (f 1)))/\Below w.heap.size w w':=by
 obtain ⟨b,o,rfl,hb,x0⟩:=h.at (i:=0) (by omega)
 obtain ⟨_,_,e1,_,x1⟩:=h.at (i:=1) (by omega)
 injection e1 with e1; injection e1 with e1 e2; subst e1 e2
 obtain ⟨x,hx⟩:=exx (f 0)
 obtain ⟨y,hy⟩:=exx (f 1)
 rw [<-hx] at x0 ⊢;rw [<-hy] at x1 ⊢;clear hx hy h
 go_enter Tryz.func203, Tryz.ntmps203
 go_wp2
 go_loopg [5,8] 2 (fun gg ev iv wx=>∃ k:Nat,iv=.int .i64 (k:Nat)/\k<=2/\2<=k+gg/\(1<=k->x=0)/\(2<=k->y=0)/\Below w.heap.size w wx)
 case atStart=>exact ⟨0,rfl,by omega,by omega,fun h=>absurd h (by omega),fun h=>absurd h (by omega),Below.refl _ _⟩
 obtain ⟨k,rfl,hk,j,h1,h2,hB⟩:=hrel
 replace x0:=cellS hB x0;replace x1:=cellS hB x1
 have H1:=hid h1
 have H2:=hid h2
 clear h1 h2
 by_cases hk2:k=2
 ·have g:¬ (k:Int)<2:=by omega
  have hE:Hid (orV x y=0):=by
   show _=_
   unfold orV
   rw [if_pos (H1.out (by omega)),H2.out (by omega)]
  clear hk2
  go_wp2
  go_ret
  exact ⟨zaz hE.out.symm,hB⟩
 have g:(k:Int)<2:=by omega
 have l:(0:Int)<=(k:Int):=by omega
 by_cases hk1:k=0
 ·have xk:wr.cell? ⟨b,o+k,none⟩=some (.int .i64 x):=by rw [hk1]; exact x0
  by_cases hx:x=0
  ·have d:(x != 0)=false:=by simp [hx]
   have a:(x == 0)=true:=by simp [hx]
   have HX:=hid hx
   have HK:=hid hk1
   clear hx x0 x1 hk1 hk2
   go_wp2
   go_roundg (gk - 1)
   case measure=>omega
   case rel=>exact ⟨k+1,by go_num,by omega,by omega,fun _=>HX.out,fun h=>absurd h (by have:=HK.out; omega),hB⟩
  have d:(x != 0)=true:=by simp [hx]
  have a:(x == 0)=false:=by simp [hx]
  have hE:Hid (orV x y=x):=if_neg hx
  clear hx x0 x1 hk1 hk2
  go_wp2
  go_ret
  exact ⟨zaz hE.out.symm,hB⟩
 have xk:wr.cell? ⟨b,o+k,none⟩=some (.int .i64 y):=by rw [show k=1 by omega]; exact x1
 have hx:x=0:=H1.out (by omega)
 by_cases hy:y=0
 ·have d:(y != 0)=false:=by simp [hy]
  have a:(y == 0)=true:=by simp [hy]
  have HX:=hid hx
  have HY:=hid hy
  clear hx hy x0 x1 hk1 hk2
  go_wp2
  go_roundg (gk - 1)
  case measure=>omega
  case rel=>exact ⟨k+1,by go_num,by omega,by omega,fun _=>HX.out,fun _=>HY.out,hB⟩
 have d:(y != 0)=true:=by simp [hy]
 have a:(y == 0)=false:=by simp [hy]
 have hE:Hid (orV x y=y):=if_pos hx
 clear hx hy x0 x1 hk1 hk2
 go_wp2
 go_ret
 exact ⟨zaz hE.out.symm,hB⟩
def lessV (f l f' l':Int):Int:=orV (cmpI f f') (cmpI l l')
theorem zck {f l f' l':Int}:lessV f l f' l'<0↔f<f'∨f=f'/\l<l':=by
 unfold lessV orV cmpI
 split <;> split <;> (try split) <;> (try split) <;> omega
theorem zjP (f l t f' l' t':Int) (w:World) :
  Calls Tryz.prog 151 #[.agg #[.int .i64 f,.int .i64 l,.int .i64 t],.agg #[.int .i64 f',.int .i64 l',.int .i64 t']] w fun e w'=>e=.returned (.int .i64 (lessV f l f' l'))/\Below w.heap.size w w':=by
 go_enter Tryz.func151, Tryz.ntmps151
 go_upto_region 1 with fail
 obtain ⟨B1,c⟩:=exx ((Obj.cells #[.int .i64 f,.int .i64 l,.int .i64 t] 90))
 obtain ⟨B2,b⟩:=exx ((Obj.cells #[.int .i64 f',.int .i64 l',.int .i64 t'] 90))
 rw [<-c,<-b]
 have a:Below (w.heap.size+1) (w.alloc B1) ((w.alloc B1).alloc B2):=(Below.refl _ _).alloc (by simp) _
 have hW:=zaL a
 have p0:((w.alloc B1).alloc B2).cell? ⟨w.heap.size,0,none⟩=some (.int .i64 f):=by subst c; exact tbox a rfl
 have p1:((w.alloc B1).alloc B2).cell? ⟨w.heap.size,1,none⟩=some (.int .i64 l):=by subst c; exact tbox a rfl
 have p2:((w.alloc B1).alloc B2).cell? ⟨w.heap.size+1,0,none⟩=some (.int .i64 f'):=by subst b; simp
 have p3:((w.alloc B1).alloc B2).cell? ⟨w.heap.size+1,1,none⟩=some (.int .i64 l'):=by subst b; simp
 obtain ⟨w1,d⟩:∃ W,W=(w.alloc B1).alloc B2:=⟨_,rfl⟩
 rw [<-d] at hW p0 p1 p2 p3 ⊢;clear a d c b
 refine wp_region_held_drew (S:=fun w'=>w'.cell? ⟨w.heap.size,0,none⟩=some (.int .i64 f)/\w'.cell? ⟨w.heap.size,1,none⟩=some (.int .i64 l)/\w'.cell? ⟨w.heap.size+1,0,none⟩=some (.int .i64 f')/\w'.cell? ⟨w.heap.size+1,1,none⟩=some (.int .i64 l')) (by kernel_rfl) ⟨cellS (Below.refl _ _).drew p0,cellS (Below.refl _ _).drew p1,cellS (Below.refl _ _).drew p2,cellS (Below.refl _ _).drew p3⟩ (fun hHeld=>?_)
 obtain ⟨w2,hw,kb⟩:=dwx w1
 rw [<-hw] at hHeld ⊢;clear hw;replace hW:=onS hW kb;replace p0:=cellS kb p0;replace p1:=cellS kb p1;replace p2:=cellS kb p2;replace p3:=cellS kb p3;clear kb
 refine tkq 0 (h:=tkq 1 (h:=tkq 2 (h:=tkq 3 (h:=tkq 5 (h:=tkq 6 (h:=tkq 7 (h:=tkq 8 (h:=?_))))))))
 refine rdq 4 (h:=fun K hK=>?_)
 go_simp
 go_wp2_with fail
 refine (zje f f' w2).mono ?_
 rintro e w3 ⟨rfl,kb⟩
 replace hW:=onS hW kb;replace p0:=cellS kb p0;replace p1:=cellS kb p1;replace p2:=cellS kb p2;replace p3:=cellS kb p3;clear kb
 refine bkq hK ⟨p0,p1,p2,p3⟩ (h:=fun hHeld=>?_)
 clear hK K
 refine rdq 9 (h:=fun K hK=>?_)
 go_simp
 go_wp2_with fail
 refine (zje l l' w3).mono ?_
 rintro e w4 ⟨rfl,kb⟩
 replace hW:=onS hW kb;replace p0:=cellS kb p0;replace p1:=cellS kb p1;replace p2:=cellS kb p2;replace p3:=cellS kb p3;clear kb
 refine bkq hK ⟨p0,p1,p2,p3⟩ (h:=fun hHeld=>?_)
 clear hK K
 refine rdq 10 (h:=fun K hK=>?_)
 go_simp
 obtain ⟨w5,hw⟩:=exx (World.alloc w4 (Obj.cells #[.int .i64 (cmpI f f'),.int .i64 (cmpI l l')] 3))
 have kb:=alx hw
 have hi:IntsR w5 w5.heap.size (some ⟨w4.heap.size,0,none⟩) 2 (fun i=>if i=0 then cmpI f f' else cmpI l l'):=by
  rw [hw]
  intro i hi
  refine ⟨_,0,rfl,by simp,fun j hj=>?_⟩
  obtain rfl:j=0:=by omega
  match i,hi with
  | 0,_=>simp
  | 1,_=>simp
 rw [<-hw];clear hw
 obtain ⟨nb,g⟩:=exx w4.heap.size
 rw [<-g] at hi ⊢;clear g;replace hW:=onS hW kb;replace p0:=cellS kb p0;replace p1:=cellS kb p1;replace p2:=cellS kb p2;replace p3:=cellS kb p3;clear kb
 refine bkq hK ⟨p0,p1,p2,p3⟩ (h:=fun hHeld=>?_)
 clear hK K
 refine rdq 11 (h:=fun K hK=>?_)
 go_simp
 go_wp2_with fail
 refine ((show Calls _ _ _ _ (fun e w'=>e=.returned (.int .i64 (lessV f l f' l'))/\Below w5.heap.size w5 w') from ziC (some ⟨nb,0,none⟩) 2 _ w5 hi)).mono ?_
 rintro e w6 ⟨rfl,kb⟩
 replace hW:=onS hW kb;replace p0:=cellS kb p0;replace p1:=cellS kb p1;replace p2:=cellS kb p2;replace p3:=cellS kb p3;replace hi:=hi.on kb;clear kb
 refine bkq hK ⟨p0,p1,p2,p3⟩ (h:=fun hHeld=>?_)
 clear hK K
 refine tkq 12 (h:=?_)
 refine wpAnyH_done (by kernel_rfl) ?_ _
 clear hHeld
 go_wp2_with fail
 go_ret
 exact ⟨rfl,hW⟩
theorem zde (A:Option Addr) (n c:Nat) (f:Nat->Bool) (v:Bool) (w:World) (h:Rd w w.heap.size A n 1 (fun i _=>.bool (f i))) (hn:n<=1048576) :
  Calls Tryz.prog 162 #[.slice A n c,.bool v] w fun e w'=>(∃ r:Bool,e=.returned (.bool r)/\(r=true↔∃ i,i<n/\f i=v))/\Below w.heap.size w w':=by
 have j:Calls Tryz.prog 212 #[.slice A n c,.bool v] w fun e w'=>(∃ r:Int,e=.returned (.int .i64 r)/\(0<=r↔∃ i,i<n/\f i=v))/\Below w.heap.size w w':=by
  go_enter Tryz.func212, Tryz.ntmps212
  go_wp2
  go_loopg [5,8] n (fun gg ev iv wx=>∃ k:Nat,iv=.int .i64 (k:Nat)/\k<=n/\n<=k+gg/\(∀ i,i<k->f i≠v)/\Below w.heap.size w wx)
  case atStart=>exact ⟨0,rfl,by omega,by omega,fun i hi=>absurd hi (by omega),Below.refl _ _⟩
  obtain ⟨k,rfl,hk,u,a,hB⟩:=hrel
  have p:(0:Int)<=(k:Int):=by omega
  have d:=hid a
  clear a
  by_cases hlt:k<n
  rotate_left
  ·have g:¬ (k:Int)<(n:Int):=by omega
   have l:Hid (¬ ∃ i,i<n/\f i=v):=fun ⟨i,hi,e⟩=>d.out i (by omega) e
   go_wp2
   go_ret
   exact ⟨⟨_,rfl,fun h=>absurd h (by omega),fun h=>absurd h l.out⟩,hB⟩
  have g:(k:Int)<(n:Int):=by omega
  obtain ⟨b,o,rfl,hb,x0⟩:=Rd.at1 ((Rd.below h hB (Nat.le_refl _)).mono hB.size) hlt
  obtain ⟨y,hy⟩:=exx (f k)
  rw [<-hy] at x0
  have HY:=hid hy
  clear hy
  by_cases he:v=y
  ·have s:(v == y)=true:=by simp [he]
   have q:Hid (∃ i,i<n/\f i=v):=⟨k,hlt,by rw [he,HY.out]⟩
   clear he
   go_wp2
   go_ret
   exact ⟨⟨_,rfl,fun _=>q.out,fun _=>p⟩,hB⟩
  have s:(v == y)=false:=by simp [he]
  have m:Hid (∀ i,i<k+1->f i≠v):=fun i hi=>by
   by_cases e:i=k
   ·subst e; rw [<-HY.out]; exact fun h=>he h.symm
   ·exact d.out i (by omega)
  clear he
  go_wp2
  go_roundg (gk - 1)
  case measure=>omega
  case rel=>exact ⟨k+1,by go_num,by omega,by omega,m.out,hB⟩
 go_enter Tryz.func162, Tryz.ntmps162
 go_wp2_with fail
 refine j.mono ?_
 rintro e w1 ⟨⟨r,rfl,hr⟩,hB⟩
 have HR:=hid hr
 clear hr
 by_cases h0:0<=r
 ·have t:decide (r ≥ 0)=true:=by simpa using h0
  have hE:=hid (HR.out.1 h0)
  go_wp2
  go_ret
  exact ⟨⟨_,rfl,by simpa using hE.out⟩,hB⟩
 have t:decide (r ≥ 0)=false:=by simp; omega
 have hE:Hid (¬ ∃ i,i<n/\f i=v):=fun h=>h0 (HR.out.2 h)
 go_wp2
 go_ret
 refine ⟨⟨_,rfl,?_⟩,hB⟩
 simp only [Bool.false_eq_true,false_iff]
 exact hE.out
theorem zjQ (w:World):Calls Tryz.prog 297 #[.agg #[]] w (NatPost 1 w):=by
 go_enter Tryz.func297, Tryz.ntmps297
 go_wp2_with fail
 refine (zdP 1 _ (by omega)).mono ?_
 rintro e w1 ⟨A,c,rfl,h1,h2,h3,h4⟩
 have hB:=onS ((Below.refl _ _).alloc (Nat.le_refl _) _) h4
 clear h4
 go_wp2
 go_ret
 exact ⟨A,c,rfl,h1,h2,h3,hB⟩
theorem zfU (w:World):Calls Tryz.prog 298 #[.agg #[]] w (NatPost 0 w):=by
 go_enter Tryz.func298, Tryz.ntmps298
 go_wp2_with fail
 refine (zdP 0 _ (by omega)).mono ?_
 rintro e w1 ⟨A,c,rfl,h1,h2,h3,h4⟩
 have hB:=onS ((Below.refl _ _).alloc (Nat.le_refl _) _) h4
 clear h4
 go_wp2
 go_ret
 exact ⟨A,c,rfl,h1,h2,h3,hB⟩
theorem zeH {w:World} {A A2:Option Addr} {c c2 x y:Nat} {T:TypeId} (h:NatOk w w.heap.size A x) (h2:NatOk w w.heap.size A2 y) (hc:dl x<=c) (hm:c<=maxLen) (hc2:dl y<=c2) (hm2:c2<=maxLen) :
  NatTab (w.alloc (Obj.cells #[Value.slice A (dl x) c,Value.slice A2 (dl y) c2] T)) (w.alloc (Obj.cells #[Value.slice A (dl x) c,Value.slice A2 (dl y) c2] T)).heap.size (some ⟨w.heap.size,0,none⟩) 2 (fun i=>if i=0 then x else y):=fun i hi=>by
 have hb:=aly w (Obj.cells #[Value.slice A (dl x) c,Value.slice A2 (dl y) c2] T)
 match i,hi with
 | 0,_=>exact ⟨w.heap.size,0,A,c,rfl,by simp,by simp,hc,hm,h.on hb⟩
 | 1,_=>exact ⟨w.heap.size,0,A2,c2,rfl,by simp,by simp,hc2,hm2,h2.on hb⟩
theorem zjR (A A2:Option Addr) (c c2 x y:Nat) (w:World) (h:NatOk w w.heap.size A x) (h2:NatOk w w.heap.size A2 y) (hc:dl x<=c) (hm:c<=maxLen) (hc2:dl y<=c2) (hm2:c2<=maxLen) (hs:dl x<=1048576) (hs2:dl y<=1048576) (hs3:dl (x+y)<=1048577) :
  Calls Tryz.prog 295 #[.agg #[],.slice A (dl x) c,.slice A2 (dl y) c2] w (NatPost (x+y) w):=by
 have b:=aly w (Obj.cells #[] 175)
 have hT:=zeH (T := 69) (h.on b) (h2.on b) hc hm hc2 hm2
 have g:=onS b ((Below.refl _ _).alloc (Nat.le_refl _) (Obj.cells #[Value.slice A (dl x) c,Value.slice A2 (dl y) c2] 69))
 go_enter Tryz.func295, Tryz.ntmps295
 go_wp2_with fail
 obtain ⟨X,hX⟩:=exx (w.alloc (Obj.cells #[] 175))
 have j:X.heap.size=w.heap.size+1:=by rw [hX]; simp
 rw [<-hX] at hT g ⊢;rw [<-j];clear hX j b
 refine (zgN _ 2 2 (fun i=>if i=0 then x else y) _ hT (by omega) (fun k hk=>?_) (fun k hk=>?_)).mono ?_
 ·match k,hk with
  | 0,_=>simp [sumN,zcc]
  | 1,_=>simp [sumN]; omega
  | 2,_=>simp [sumN]; omega
 ·match k,hk with
  | 0,_=>simp; omega
  | 1,_=>simp; omega
 rintro e w1 ⟨B,d,rfl,k1,k2,k3,k4⟩
 have hB:=onS g k4
 have a:sumN (fun i=>if i=0 then x else y) 2=x+y:=by simp [sumN]
 rw [a] at k1 k3 ⊢;clear k4 a hT g
 go_wp2
 go_ret
 exact ⟨B,d,rfl,k1,k2,k3,hB⟩
theorem zhz (A A2:Option Addr) (c c2 x y:Nat) (w:World) (h:NatOk w w.heap.size A x) (h2:NatOk w w.heap.size A2 y) (hc:dl x<=c) (hm:c<=maxLen) (hc2:dl y<=c2) (hm2:c2<=maxLen) (hs:dl x<=1048576) (hs2:dl y<=1048576) (hs3:dl (x*y)<=2097152) :
  Calls Tryz.prog 296 #[.agg #[],.slice A (dl x) c,.slice A2 (dl y) c2] w (NatPost (x*y) w):=by
 have b:=aly w (Obj.cells #[] 175)
 have hT:=zeH (T := 69) (h.on b) (h2.on b) hc hm hc2 hm2
 have g:=onS b ((Below.refl _ _).alloc (Nat.le_refl _) (Obj.cells #[Value.slice A (dl x) c,Value.slice A2 (dl y) c2] 69))
 go_enter Tryz.func296, Tryz.ntmps296
 go_wp2_with fail
 obtain ⟨X,hX⟩:=exx (w.alloc (Obj.cells #[] 175))
 have j:X.heap.size=w.heap.size+1:=by rw [hX]; simp
 rw [<-hX] at hT g ⊢;rw [<-j];clear hX j b
 refine (zgQ _ 2 2 (fun i=>if i=0 then x else y) _ hT (by omega) (fun k hk=>?_) (fun k hk=>?_)).mono ?_
 ·match k,hk with
  | 0,_=>show dl 1<=_; rw [zcZ (by omega) (by omega)]; omega
  | 1,_=>simp [prodN]; omega
  | 2,_=>simp [prodN]; omega
 ·match k,hk with
  | 0,_=>simp; omega
  | 1,_=>simp; omega
 rintro e w1 ⟨B,d,rfl,k1,k2,k3,k4⟩
 have hB:=onS g k4
 have a:prodN (fun i=>if i=0 then x else y) 2=x*y:=by simp [prodN]
 rw [a] at k1 k3 ⊢;clear k4 a hT g
 go_wp2
 go_ret
 exact ⟨B,d,rfl,k1,k2,k3,hB⟩
end Go.Proofs.YtgekjfpapmlndaaGreat