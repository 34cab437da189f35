/- Merged texts of a claim: WordsAll, AppCells, NatC, RatA, RatB, Rat13, RatC, PolyA, PAddAll, PMulAll, RefEval, PolyC, WtsAll, PatAll, UndAll, DualPl, NullCnt, Turn09, Cont47, Gf1, Gf2. -/
import Derived.Test.YtgekjfpapmlndaaGreatTX6
import Derived.Deep.QuietTactic
import Derived.BigQuiet
import Derived.Deep.CutBlock
import Derived.Deep.DeepCutAuto
import Derived.Deep.LoopGhost
import Derived.StillTailTactics
import Derived.Deep.RegionHeld3
import Derived.Laws.CopyOwn
namespace Go.Proofs.YtgekjfpapmlndaaGreat
set_option maxRecDepth 100000
set_option maxHeartbeats 32000000
open KA KB KC KE
open Go.RowKit
theorem zjY {P M:Nat} {m:Nat->Nat} {V:Nat->Nat->Nat} {x:Nat->Nat} (hL:FieldLaws (P ^ M) (addF P M) (mulF P M m)) {i j:Nat} (hx:x i<P ^ M) (y:Nat) (hy:y=spE (addF P M) (mulF P M m) V x i j):atF P M m (x i) (fun _=>y) (V i) j=spE (addF P M) (mulF P M m) V x (i+1) j:=by
 have a:y<P ^ M:=by rw [hy]; exact za6 hL x i j
 unfold atF
 show _=addF P M (spE (addF P M) (mulF P M m) V x i j) (mulF P M m (x i) (V i j))
 rw [<-hy]
 split
 ·rename_i h
  rw [h,hL.mulZero hx,hL.addZero a]
 ·rfl
theorem zjZ {P M:Nat} {m:Nat->Nat} {V:Nat->Nat->Nat} {x:Nat->Nat} (hL:FieldLaws (P ^ M) (addF P M) (mulF P M m)) {i j:Nat} (hx:x i=0) (hV:V i j<P ^ M):spE (addF P M) (mulF P M m) V x (i+1) j=spE (addF P M) (mulF P M m) V x i j:=by
 have h2:=hL.two
 show addF P M (spE (addF P M) (mulF P M m) V x i j) (mulF P M m (x i) (V i j))=_
 rw [hx,hL.mulComm 0 _ (by omega) hV,hL.mulZero hV,hL.addZero (za6 hL x i j)]
theorem zgm (P M:Nat) (A:Option Addr) (k c:Nat) (m:Nat->Nat) (X:Option Addr) (xc:Nat) (x:Nat->Nat) (T:Option Addr) (n d N:Nat) (V:Nat->Nat->Nat) (w:World) (hf:FieldOk P M m) (hm:ModOk w P M A m) (hkM:M=1∨k=M)
  (hx:IntsR w w.heap.size X n (fun i=>(x i:Nat))) (hxq:∀ i,i<n->x i<P ^ M) (h:MRows w T n N V) (hV:∀ i,i<n->∀ j,j<N->V i j<P ^ M) (hN2:N<=1048576) (hn:n<=1048576) :
  Calls Tryz.prog 64 #[.agg #[.int .i64 (P:Nat),.int .i64 (M:Nat),.slice A k c],.slice X n xc,.slice T n d,.int .i64 (N:Nat)] w (RowPost N (fun j=>.int .i64 (spE (addF P M) (mulF P M m) V x n j:Nat)) w):=by
 have Q:=hf.1
 have hL:=fieldLaws hf
 have HX:=hid hx
 have H:=hid hxq
 have HT:=hid h
 have HV:=hid hV
 clear hx hxq h hV
 obtain ⟨w0,y,hB,rf⟩:=zaq w (.int .i64 (P:Nat)) (.int .i64 (M:Nat)) (.slice A k c) 24
 have C:=fun W=>zag (P:=Tryz.prog) 22 3 _ 8 Tryz.underlying22 Tryz.infoInt rfl (N:Int) (by omega) (by omega) (by omega) W
 simp only [Int.toNat_natCast] at C
 go_enter Tryz.func64, Tryz.ntmps64
 go_upto_region 1 with fail
 rw [<-y];clear y
 go_upto_region 2 with fail
 have kb:=(Below.refl w0.heap.size w0).alloc (Nat.le_refl _) (Obj.cells (madeCells #[Value.int .i64 0] N) 3)
 have ra:=World.rowIs_made w0 (.int .i64 0) N 3
 have G:=rf.lt
 have D:=hB.size
 obtain ⟨w1,q⟩:=exx (w0.alloc (Obj.cells (madeCells #[Value.int .i64 0] N) 3))
 obtain ⟨g,hg⟩:=exx w0.heap.size
 rw [<-q] at kb ra ⊢;rw [<-hg] at ra G D ⊢;replace rf:=zab rf kb;replace hB:=onS hB kb
 have o:Hid (w1.rowIs g 3 N (fun j=>.int .i64 (spE (addF P M) (mulF P M m) V x 0 j:Nat))):=ra.congr fun t _=>rfl
 clear kb q hg C G ra
 go_wp2
 go_loopg [9,10] n (fun gg ov iv wx=>∃ i g2:Nat,ov=.slice (some ⟨g2,0,none⟩) N N/\iv=.int .i64 (i:Nat)/\w.heap.size<=g2/\i<=n/\n<=i+gg/\Hid (wx.rowIs g2 3 N (fun j=>.int .i64 (spE (addF P M) (mulF P M m) V x i j:Nat)))/\wx.rowIs w.heap.size 24 3 (fldCell (.int .i64 (P:Nat)) (.int .i64 (M:Nat)) (.slice A k c))/\Below w.heap.size w wx)
 case atStart=>exact ⟨0,g,rfl,rfl,D,by omega,by omega,o,rf,hB⟩
 clear rf hB o
 obtain ⟨i,g2,rfl,rfl,F,hi,a1,o,rf,hB⟩:=hrel
 have a2:(0:Int)<=(i:Int):=by omega
 by_cases hlt:i<n
 rotate_left
 ·have u:¬ (i:Int)<(n:Int):=by omega
  have hd:decide ((i:Int)<(n:Int))=false:=by simp; omega
  obtain rfl:i=n:=by omega
  go_wp2
  go_ret
  exact ⟨g2,rfl,F,o.out,hB⟩
 have u:(i:Int)<(n:Int):=by omega
 have hd:decide ((i:Int)<(n:Int))=true:=by simpa using hlt
 obtain ⟨xb,xo,U,J,x0⟩:=HX.out.at hlt
 subst U
 replace x0:=(hB.cell (p:=⟨xb,xo+i,none⟩) J).trans x0
 obtain ⟨a,ha⟩:=exx (x i)
 rw [<-ha] at x0
 have R:a<P ^ M:=by rw [ha]; exact H.out i hlt
 have HA:=hid ha
 clear ha
 by_cases ha0:a=0
 ·have v:((a:Int) != 0)=false:=by simp [ha0]
  have s:=hid (o.out.congr (g:=fun j=>.int .i64 (spE (addF P M) (mulF P M m) V x (i+1) j:Nat)) fun j hj=>by rw [zjZ hL (by rw [<-HA.out,ha0]) (HV.out i hlt j hj)])
  clear ha0
  go_wp2
  go_roundg (gk - 1)
  case measure=>omega
  case rel=>exact ⟨i+1,g2,rfl,by go_num,F,by omega,by omega,s,rf,hB⟩
 have v:((a:Int) != 0)=true:=by simp; omega
 obtain ⟨tb,to0,RA,rc,Y,L,t0,_,_,r,_⟩:=HT.out i hlt
 subst Y
 replace t0:=(hB.cell (p:=⟨tb,to0+i,none⟩) L).trans t0
 have b:=r.on hB
 have l:=rowInts (w:=wr) (n:=N) (f:=fun j=>spE (addF P M) (mulF P M m) V x i j) o.out
 clear r ha0
 have q0:=qc0 rf
 have q1:=qc1 rf
 have q2:=qc2 rf
 obtain ⟨w1,q⟩:=exx wr
 rw [<-q] at hB rf x0 t0 q0 q1 q2 b l ⊢;clear q o
 go_wp2
 refine wp_region_held_drew (S:=fun w'=>w'.cell? ⟨w.heap.size,0,none⟩=some (.int .i64 (P:Nat))/\w'.cell? ⟨w.heap.size,1,none⟩=some (.int .i64 (M:Nat))/\w'.cell? ⟨w.heap.size,2,none⟩=some (.slice A k c)/\w'.cell? ⟨xb,xo+i,none⟩=some (.int .i64 (a:Nat))/\w'.cell? ⟨tb,to0+i,none⟩=some (.slice RA N rc)) (by kernel_rfl) ⟨cellS (Below.refl _ _).drew q0,cellS (Below.refl _ _).drew q1,cellS (Below.refl _ _).drew q2,cellS (Below.refl _ _).drew x0,cellS (Below.refl _ _).drew t0⟩ (fun hHeld=>?_)
 obtain ⟨w2,hw,kb⟩:=dwx w1
 rw [<-hw] at hHeld ⊢;clear hw;replace rf:=zab rf kb;replace hB:=onS hB kb;replace x0:=cellS kb x0;replace t0:=cellS kb t0;replace q0:=cellS kb q0;replace q1:=cellS kb q1;replace q2:=cellS kb q2;replace b:=b.on kb;replace l:=l.on kb;clear kb
 refine tkq 0 (h:=tkq 1 (h:=tkq 2 (h:=tkq 3 (h:=tkq 4 (h:=tkq 5 (h:=tkq 6 (h:=tkq 7 (h:=tkq 8 (h:=tkq 9 (h:=?_))))))))))
 refine rdq 10 (h:=fun K hK=>?_)
 go_simp
 go_wp2_with fail
 have a0:=hid hB.size
 refine (zdU P M A k c m a (some ⟨g2,0,none⟩) RA N N N rc (fun j=>spE (addF P M) (mulF P M m) V x i j) (V i) w2 Q (zaG hm hB) hkM R l (fun j _=>za6 hL x i j) b (HV.out i hlt) (Nat.le_refl _) hN2).mono ?_
 rintro e w3 ⟨g3,rfl,E,B,kb⟩
 replace rf:=zab rf kb;replace hB:=onS hB kb;replace x0:=cellS kb x0;replace t0:=cellS kb t0;replace q0:=cellS kb q0;replace q1:=cellS kb q1;replace q2:=cellS kb q2;replace b:=b.on kb;replace l:=l.on kb;clear kb
 have s:=hid B
 have I:=hid E
 clear B E
 refine bkq hK ⟨q0,q1,q2,x0,t0⟩ (h:=fun hHeld=>?_)
 clear hK K
 refine tkq 11 (h:=?_)
 refine wpAnyH_done (by kernel_rfl) ?_ _
 clear hHeld
 have Z:=hid (s.out.congr (g:=fun j=>.int .i64 (spE (addF P M) (mulF P M m) V x (i+1) j:Nat)) fun j _=>by rw [HA.out]; exact congrArg (fun z:Nat=>Value.int .i64 (z:Int)) (zjY (V:=V) (j:=j) hL (H.out i hlt) _ rfl))
 have O:w.heap.size<=g3:=Nat.le_trans a0.out I.out
 clear q0 q1 q2 x0 t0 b l s I
 go_wp2
 go_roundg (gk - 1)
 case measure=>omega
 case rel=>exact ⟨i+1,g3,rfl,by go_num,O,by omega,by omega,Z,rf,hB⟩
def msgD (q n x t:Nat):Nat:=dig q x (n - 1 - t)
theorem zbJ {q n x t:Nat} (hq:0<q):msgD q n x t<q:=zce hq x _
theorem zj0 (x P M:Nat) (m:Nat->Nat) (A:Option Addr) (k c N:Nat) (T:Option Addr) (n d:Nat) (V:Nat->Nat->Nat) (w:World) (h:CodeR w P M m A k N T n V) (hx:x<=1048576) :
  Calls Tryz.prog 66 #[.agg #[.int .i64 (P:Nat),.int .i64 (M:Nat),.slice A k c,.int .i64 (N:Nat),.slice T n d],.int .i64 (x:Nat)] w (RowPost N (fun j=>.int .i64 (spE (addF P M) (mulF P M m) V (msgD (P ^ M) n x) n j:Nat)) w):=by
 have HC:=hid h
 have hn:=h.n_le
 have hN:=h.ln2
 have af:=h.ln1
 have hL:=fieldLaws h.fld
 have I:=h.fld.1
 have C:=hid (zcd I)
 have b:=I.2.2.2
 have J:=hL.two
 clear h
 obtain ⟨w1,E,hB,rf⟩:=zaE w (.int .i64 (P:Nat)) (.int .i64 (M:Nat)) (.slice A k c) (.int .i64 (N:Nat)) (.slice T n d) 27
 have G:=fun W=>zag (P:=Tryz.prog) 22 3 _ 8 Tryz.underlying22 Tryz.infoInt rfl (n:Int) (by omega) (by omega) (by omega) W
 simp only [Int.toNat_natCast] at G
 go_enter Tryz.func66, Tryz.ntmps66
 go_upto_region 1 with fail
 rw [<-E];clear E
 have q0:=qc0 rf
 have q1:=qc1 rf
 have q2:=qc2 rf
 go_wp2_with fail
 refine (zbU (P:Int) (M:Int) A k c w1).mono ?_
 rintro e w2 ⟨rfl,kb⟩
 rw [C.out];replace rf:=zab rf kb;replace hB:=onS hB kb;clear kb q0 q1 q2
 obtain ⟨q,hQ⟩:=exx (P ^ M)
 rw [<-hQ]
 have HQ:=hid hQ
 rw [<-hQ] at J b;clear hQ
 have q4:=qc4 rf
 go_upto_region 3 with fail
 have row:=World.rowIs_made w2 (.int .i64 0) n 3
 have kb:=(Below.refl w2.heap.size w2).alloc (Nat.le_refl _) (Obj.cells (madeCells #[Value.int .i64 0] n) 3)
 obtain ⟨w3,D⟩:=exx (w2.alloc (Obj.cells (madeCells #[Value.int .i64 0] n) 3))
 obtain ⟨g,hg⟩:=exx w2.heap.size
 rw [<-D] at kb row ⊢;rw [<-hg] at row ⊢
 have R:w2.heap.size<=g:=by omega
 have Z:=hid rf
 have a5:=hid hB
 clear D hg q4 G rf hB
 have ab:(1:Int)<=(q:Int):=by omega
 have ac:¬ (q:Int)=0:=by omega
 have aa:(q:Int)<=256:=by omega
 go_wp2
 go_loopg [1,7] (n+1) (fun gg xv iv wx=>∃ j:Nat,iv=.int .i64 ((n:Int) - 1 - (j:Int))/\xv=.int .i64 (x / q ^ j:Nat)/\j<=n/\n+1<=j+gg/\wx.rowIs g 3 n (fun t=>.int .i64 (if n - 1 - t<j then (msgD q n x t:Nat) else 0:Int))/\Below w2.heap.size w2 wx)
 case atStart=>exact ⟨0,by simp,by simp,by omega,by omega,row.congr fun i _=>rfl,kb⟩
 clear row kb
 obtain ⟨j,rfl,rfl,hj,ad,row,kb⟩:=hrel
 have L:x / q ^ j<=x:=Nat.div_le_self _ _
 have o:x / q ^ (j+1)=x / q ^ j / q:=by rw [Nat.pow_succ,Nat.div_div_eq_div_mul]
 have B:dig q x j=x / q ^ j % q:=rfl
 obtain ⟨y,hy⟩:=exx (x / q ^ j)
 rw [<-hy] at L o B;rw [<-hy]
 have X:=hid o
 have a4:=hid B
 clear hy o B
 by_cases hlt:j<n
 rotate_left
 ·obtain rfl:j=n:=by omega
  have K:¬ ((j:Int) - 1 - (j:Int)) ≥ 0:=by omega
  have a:IntsR wr wr.heap.size (some ⟨g,0,none⟩) j (fun t=>((msgD q j x t:Nat):Int)):=rowInts (row.congr fun t ht=>by rw [if_pos (by omega)])
  have hB:=onS a5.out kb
  have rf:=zab Z.out kb
  have q0:=qc0 rf
  have q1:=qc1 rf
  have q2:=qc2 rf
  have q3:=qc3 rf
  have q4:=qc4 rf
  have Y:=hid a
  have h1:=HC.out.on hB
  have a1:Hid (∀ i,i<j->msgD q j x i<P ^ M):=fun i _=>by rw [<-HQ.out]; exact zbJ (by omega)
  clear row kb a
  go_wp2_with fail
  refine (zgm P M A k c m (some ⟨g,0,none⟩) j (msgD q j x) T j d N V wr h1.fld h1.mod h1.km Y.out a1.out h1.rows h1.lt (by omega) (by omega)).mono ?_
  rintro e w5 ⟨g5,rfl,H,F,kb⟩
  have S:w.heap.size<=g5:=Nat.le_trans hB.size H
  have U:=onS hB kb
  have a0:=hid F
  clear F kb hB rf q0 q1 q2 q3 q4 h1 H
  go_wp2
  go_ret
  exact ⟨g5,rfl,S,by rw [<-HQ.out]; exact a0.out,U⟩
 obtain ⟨i,hi⟩:=exx (n - 1 - j)
 have u:(n:Int) - 1 - (j:Int)=(i:Int):=by omega
 have Q:i<n:=by omega
 have O:(i:Int)<(n:Int):=by omega
 have ae:(0:Int)<=(i:Int):=by omega
 rw [u]
 have HI:=hid hi
 have a3:=hid u
 clear hi u
 have a9:(0:Int)<=(y:Int):=by omega
 have a8:(y:Int)<=1048576:=by omega
 have s:(y:Int) % (q:Int)=((y % q:Nat):Int):=by simp
 have v:(y:Int) / (q:Int)=((y / q:Nat):Int):=by simp
 obtain ⟨r,hr⟩:=exx (y % q)
 obtain ⟨z,hz⟩:=exx (y / q)
 rw [<-hr] at s;rw [<-hz] at v
 have a7:(0:Int)<=(z:Int):=by omega
 have a6:(z:Int)<=1048576:=by have:y / q<=y:=Nat.div_le_self _ _; omega
 have HR:=hid hr
 have HZ:=hid hz
 clear hr hz
 have c0:=row.cell Q
 have z0:=row.frozen i
 have l:Hid ((wr.setCell ⟨g,i,none⟩ (.int .i64 (r:Int))).rowIs g 3 n (fun t=>.int .i64 (if n - 1 - t<j+1 then (msgD q n x t:Nat) else 0:Int))):=(row.set i _).congr fun t ht=>by
  have:=HI.out
  by_cases e:t=i
  ·subst e
   rw [if_pos rfl,if_pos (by omega)]
   unfold msgD
   rw [show n - 1 - t=j by omega,a4.out,HR.out]
  rw [if_neg e]
  by_cases e2:n - 1 - t<j
  ·rw [if_pos e2,if_pos (by omega)]
  ·rw [if_neg e2,if_neg (by omega)]
 have a2:=hid (kb.setCell (p:=⟨g,i,none⟩) R (.int .i64 (r:Int)))
 clear row kb
 go_wp2
 go_roundg (gk - 1)
 case measure=>omega
 case rel=>exact ⟨j+1,by have:=a3.out; show Value.int .i64 ((i:Int) - 1)=_; rw [<-this]; go_num,by rw [X.out,HZ.out],by omega,by omega,l.out,a2.out⟩
def Words12Post (q:Nat) (add mul:Nat->Nat->Nat) (n N:Nat) (V:Nat->Nat->Nat) (w:World) (e:Ending) (w':World):Prop :=
 ∃ lv,e=.returned (.tuple #[lv,.int .i64 0])/\MTab w' w.heap.size lv (q ^ n) N (fun i=>spE add mul V (msgD q n i) n)/\Below w.heap.size w w'
theorem zgn (P M:Nat) (m:Nat->Nat) (A:Option Addr) (k c N:Nat) (T:Option Addr) (n d:Nat) (V:Nat->Nat->Nat) (w:World) (h:CodeR w P M m A k N T n V) (hsz:(P ^ M) ^ n<=65536) :
  Calls Tryz.prog 22 #[.agg #[.int .i64 (P:Nat),.int .i64 (M:Nat),.slice A k c,.int .i64 (N:Nat),.slice T n d]] w (Words12Post (P ^ M) (addF P M) (mulF P M m) n N V w):=by
 have HC:=hid h
 have hN:=h.ln2
 clear h
 obtain ⟨w1,p,hB,rf⟩:=zaE w (.int .i64 (P:Nat)) (.int .i64 (M:Nat)) (.slice A k c) (.int .i64 (N:Nat)) (.slice T n d) 27
 go_enter Tryz.func22, Tryz.ntmps22
 go_upto_region 1 with fail
 rw [<-p];clear p
 have q0:=qc0 rf
 have q1:=qc1 rf
 have q2:=qc2 rf
 have q3:=qc3 rf
 have q4:=qc4 rf
 go_wp2_with fail
 have h1:=HC.out.on hB
 refine (zex (P:Int) (M:Int) A k c _ (N:Int) T n d _ _ w1 h1.ints h1.rows).mono ?_
 rintro e w2 ⟨v,u,rfl,hu,r,F,kb⟩
 have y:u=0:=FirstErr.unique hu (FirstErr.app_all HC.out.errs (.inr ⟨by rw [Int.toNat_natCast,Int.toNat_natCast]; exact hsz,rfl⟩) (by simp [CodeErrs]))
 have hv:=r y
 rw [Int.toNat_natCast,Int.toNat_natCast] at hv
 subst y
 obtain ⟨S,hS⟩:∃ S,S=(P ^ M) ^ n:=⟨_,rfl⟩
 rw [<-hS] at hv hsz
 subst hv
 have H:=hid hS
 replace rf:=zab rf kb;replace hB:=onS hB kb;clear kb q0 q1 q2 q3 q4 hu r F h1 hS
 have H0:=hid (MTab.nil w2 w.heap.size N (fun i=>spE (addF P M) (mulF P M m) V (msgD (P ^ M) n i) n))
 go_wp2
 obtain ⟨nv,B⟩:∃ x:Value,x=.slice none 0 0:=⟨_,rfl⟩
 rw [<-B] at H0 ⊢;clear B
 go_loopg [6,7] S (fun gg ov iv wx=>∃ i:Nat,iv=.int .i64 (i:Nat)/\i<=S/\S<=i+gg/\Hid (MTab wx w.heap.size ov i N (fun i=>spE (addF P M) (mulF P M m) V (msgD (P ^ M) n i) n))/\wx.rowIs w.heap.size 27 5 (codCell (.int .i64 (P:Nat)) (.int .i64 (M:Nat)) (.slice A k c) (.int .i64 (N:Nat)) (.slice T n d))/\Below w.heap.size w wx)
 case atStart=>exact ⟨0,rfl,by omega,by omega,H0,rf,hB⟩
 clear H0 rf hB
 obtain ⟨i,rfl,hi,O,HM,rf,hB⟩:=hrel
 have Q:(0:Int)<=(i:Int):=by omega
 by_cases hlt:i<S
 rotate_left
 ·have l:¬ (i:Int)<(S:Int):=by omega
  obtain rfl:i=S:=by omega
  go_wp2
  go_ret2
  exact ⟨_,rfl,by rw [<-H.out]; exact HM.out,hB⟩
 have l:(i:Int)<(S:Int):=by omega
 have q0:=qc0 rf
 have q1:=qc1 rf
 have q2:=qc2 rf
 have q3:=qc3 rf
 have q4:=qc4 rf
 have h1:=HC.out.on hB
 have s:∀ q,u6.ownBlock=some q->w.heap.size<=q:=fun q e=>(HM.out.choose_spec.1.lt q e).1
 have R:=hid s
 clear s
 go_wp2_with fail
 refine (zj0 i P M m A k c N T n d V wr h1 (by omega)).mono ?_
 rintro e w3 ⟨g,rfl,hg,hr,kb⟩
 have z:=zaR hr (show w.heap.size<=g by have:=hB.size; omega) (show N<=maxLen by unfold maxLen; omega)
 have b:=(Below.refl w3.heap.size w3).alloc (Nat.le_refl _) (Obj.cells #[Value.slice (some ⟨g,0,none⟩) N N] 22)
 have G:=hid (z.on b)
 have D:=hid ((HM.out.on kb).on b)
 have E:=hid (onS (onS hB kb) b)
 have a:=hid (zab (zab rf kb) b)
 have K:Hid ((w3.alloc (Obj.cells #[Value.slice (some ⟨g,0,none⟩) N N] 22)).cell? ((⟨w3.heap.size,0,none⟩:Addr).add 0)=some (.slice (some ⟨g,0,none⟩) N N)):=tbox2
 have C:=hid E.out.size
 have J:Hid (i<=1048576):=by show _<=_; omega
 clear hr z kb b hg q0 q1 q2 q3 q4 rf hB h1
 go_wp2_with (first | (at_builtin; (refine zaC rfl (.tmp 21) (.tmp 25) rfl D.out rfl (ad:=⟨w3.heap.size,0,none⟩) (c:=1) rfl K.out rfl G.out C.out J.out ?_); intro v9 w9 o1 o2 o3))
 have I:=hid (o1.congr (W':=fun i=>spE (addF P M) (mulF P M m) V (msgD (P ^ M) n i) n) fun u hu j _=>by
  by_cases e:u=i
  ·subst e; rw [if_pos rfl]
  ·rw [if_neg e])
 have L:=hid (E.out.grown o2 C.out o3)
 have o:=hid (a.out.of_block (o2.block _ a.out.lt fun e=>absurd (zaA a.out D.out.choose_spec.1 (by decide)) (by rw [<-e]; simp)))
 clear o1 o2 o3
 go_wp2
 go_roundg (gk - 1)
 case measure=>omega
 case rel=>exact ⟨i+1,by go_num,by omega,by omega,I,o.out,L.out⟩
def NoInt (w:World) (b:Nat):Prop:=∀ j n,w.cell? ⟨b,j,none⟩≠some (.int .u32 n)
theorem zj1 {w:World} {g:Nat} {c:Array Value} {e:TypeId} {fr:Nat × Nat} (hg:w.heap[g]?=some (.cells c e fr)) (h:∀ u ∈ c.toList,∀ n,u≠.int .u32 n):NoInt w g:=fun j n hj=>by
 rw [cell_of_row w g j c e fr hg] at hj
 exact h _ (by rw [Array.mem_toList_iff]; exact Array.mem_of_getElem? hj) n rfl
theorem zfg {w:World} {g:Nat} {c:Array Value} {e:TypeId} {fr:Nat × Nat} (hg:w.heap[g]?=some (.cells c e fr)) (h:NoInt w g):∀ u ∈ c.toList,∀ n,u≠.int .u32 n:=fun u hu n e'=>by
 rw [Array.mem_toList_iff] at hu
 obtain ⟨j,hj,e2⟩:=Array.getElem_of_mem hu
 exact h j n (by rw [cell_of_row w g j c _ fr hg,Array.getElem?_eq_getElem hj,e2,e'])
theorem zcB {w w':World} {B n:Nat} {A:Option Addr} {f:Nat->Nat} {row:Option Nat} (h:Lims w B A n f) (hB:B<=w.heap.size) (hg:w.grownBy w' row) (hni:∀ g,row=some g->NoInt w g):Lims w' B A n f:=fun k hk=>by
 obtain ⟨b',o',e,h1,h2⟩:=h k hk
 refine ⟨b',o',e,h1,fun j hj=>?_⟩
 have hc:=h2 j hj
 rw [<-hc]
 have hne:row≠some b':=fun e=>hni b' e _ _ hc
 have:=hg.block b' (by omega) (fun e=>hne e.symm)
 simp only [World.cell?,this]
theorem zey {z:Array Value} {n:Nat} {u:Value} (h:u ∈ (Builtin.zeroCells z n).toList):u ∈ z.toList:=by
 simp only [Builtin.zeroCells,Array.toList_map,List.mem_map,Array.toList_range,List.mem_range] at h
 obtain ⟨k,hk,rfl⟩:=h
 have h0:0<z.size:=Nat.pos_of_ne_zero fun e=>by rw [e] at hk; simp at hk
 have h1:k % z.size<z.size:=Nat.mod_lt _ h0
 rw [getElem!_pos z _ h1]
 exact Array.getElem_mem_toList h1
section
variable {P:Program} (w:World)
theorem zde (Pv:Value->Prop) (base:Nat) (t ty e:TypeId) (i:TypeInfo) (z:Value) (s bytes:Nat) (ht:P.underlying t=some (.slice e)) (hi:P.info? e=some i) (hz:i.zero=some z)
  (hsize:i.size=s) (hby:i.bytes=bytes) (hs:0<s)
  (v:Value) (n:Nat) (f:Nat->Nat->Value) (hown:Own w base e s v n f)
  (a:Addr) (c:Nat) (hnews:∀ j,j<s->w.cell? (a.add j)=some (f n j)) (h1:∀ j,j<s->(f n j).oneCell'=true)
  (h63:n+1<=maxLen) (hbytes:(n+1)*bytes<=140737488355328)
  (hPz:∀ u ∈ z.cells.toList,Pv u) (hPf:∀ k j,k<=n->j<s->Pv (f k j)) (hPv:∀ g c e fr,v.ownBlock=some g->w.heap[g]?=some (.cells c e fr)->∀ u ∈ c.toList,Pv u) :
  ∃ v' w',(Builtin.append_ #[t,t] ty #[v,.slice (some a) 1 c]).run P w=.ok v' w'/\∀ g,v'.ownBlock=some g->∃ c e fr,w'.heap[g]?=some (.cells c e fr)/\∀ u ∈ c.toList,Pv u:=by
 subst hsize
 subst hby
 have p:n+1<=9223372036854775807:=by simp only [maxLen] at h63; omega
 have d:∀ j u,(elem i.size (f n))[j]?=some u->w.cell? (a.add j)=some u:=fun j u hu=>by
  have hj:j<i.size:=by have:=(List.getElem?_eq_some_iff.1 hu).1; rwa [zap] at this
  rw [zdK hj] at hu
  injection hu with hu
  subst hu
  exact hnews j hj
 have y:∀ u ∈ elem i.size (f n),u.oneCell'=true:=fun u hu=>by
  obtain ⟨j,hj,rfl⟩:=List.mem_map.1 hu
  exact h1 j (List.mem_range.1 hj)
 have x:∀ u ∈ elem i.size (f n),Pv u:=fun u hu=>by
  obtain ⟨j,hj,rfl⟩:=List.mem_map.1 hu
  exact hPf n j (Nat.le_refl _) (List.mem_range.1 hj)
 have D:∀ u ∈ flat i.size f n,Pv u:=fun u hu=>by
  obtain ⟨j,hj,rfl⟩:=List.mem_map.1 hu
  have hj:=List.mem_range.1 hj
  exact hPf _ _ (Nat.le_of_lt (Nat.div_lt_of_lt_mul (by rw [Nat.mul_comm]; exact hj))) (Nat.mod_lt _ hs)
 have m:=Src.ofSlice (P:=P) w (size:=i.size) (e':=e) ht a 1 c (elem i.size (f n)) (by rw [zap]; omega) d y
 have grown:∀ (A:Option Addr) (cap:Nat),cap<n+1->(Builtin.firstCells i.size n (.slice A n cap)).run P w.drew=.ok (flat i.size f n).toArray w.drew ->
   ∃ v' w',(Builtin.append_ #[t,t] ty #[.slice A n cap,.slice (some a) 1 c]).run P w=.ok v' w'/\∀ g,v'.ownBlock=some g->∃ c e fr,w'.heap[g]?=some (.cells c e fr)/\∀ u ∈ c.toList,Pv u:=by
  intro A cap h b
  have l:=run_append_grow_src (P:=P) w t t ty e i z ht hi hz A n cap (flat i.size f n) b (.slice (some a) 1 c) 1 (elem i.size (f n)) m h (by omega) (growslice_fits h hbytes)
  refine ⟨_,_,l,fun g hg=>?_⟩
  simp [Value.ownBlock] at hg
  subst hg
  refine ⟨_,e,_,heap_alloc_new w.drew _,fun u hu=>?_⟩
  simp only [Array.toList_append,List.mem_append] at hu
  rcases hu with (hu | hu) | hu
  ·exact D u hu
  ·exact x u hu
  ·exact hPz u (zey hu)
 rcases hown with ⟨rfl,rfl⟩ | ⟨g,o,cap,cur,rfl,hb,hg,E,F,C,q⟩
 ·exact grown none 0 (by omega) (by simp [Builtin.firstCells,flat])
 by_cases hroom:n+1<=cap
 ·have B:o+n*i.size+(elem i.size (f n)).length<=cur.size:=by
   rw [zap]
   have:(n+1)*i.size<=cap*i.size:=Nat.mul_le_mul_right i.size hroom
   rw [Nat.add_mul] at this; omega
  have l:=zbn (P:=P) w t ty e i ht hi g o n cap cur hg a c (elem i.size (f n)) (zap _ _) d y hroom B
  refine ⟨_,_,l,fun g' hg'=>?_⟩
  simp [Value.ownBlock] at hg'
  subst hg'
  refine ⟨_,e,_,zbi hg,fun u hu=>?_⟩
  have b:=hPv g cur e _ rfl hg
  simp only [List.mem_append] at hu
  rcases hu with (hu | hu) | hu
  ·exact b u (List.mem_of_mem_take hu)
  ·exact x u hu
  ·exact b u (List.mem_of_mem_drop hu)
 have h:cap=n:=by omega
 subst h
 have b:(Builtin.firstCells i.size cap (.slice (some ⟨g,o,none⟩) cap cap)).run P w.drew=.ok (flat i.size f cap).toArray w.drew:=by
  refine run_firstCells_some (P:=P) w.drew i.size cap ⟨g,o,none⟩ cap cap (flat i.size f cap) (zav _ _ _) fun j u hu=>?_
  have hj:j<cap*i.size:=by have:=(List.getElem?_eq_some_iff.1 hu).1; rwa [zav] at this
  have e1:j / i.size<cap:=Nat.div_lt_of_lt_mul (by rw [Nat.mul_comm]; exact hj)
  have e2:j % i.size<i.size:=Nat.mod_lt _ hs
  have e3:j / i.size*i.size+j % i.size=j:=Nat.div_add_mod' j i.size
  have:=zc3 (f:=f) hs e1 e2
  rw [e3,hu] at this
  injection this with this
  subst this
  have:=q _ e1 _ e2
  have r:(⟨g,o,none⟩:Addr).add j=⟨g,o+j,none⟩:=by unfold Addr.add; split <;> simp_all
  rw [r]
  show w.cell? ⟨g,o+j,none⟩=_
  rw [cell_of_row w g _ cur e (0,0) hg,<-this]
  congr 1; omega
 exact grown (some ⟨g,o,none⟩) cap (by omega) b
end
def NatOwn (w:World) (base:Nat) (v:Value) (k:Nat) (x:Nat->Nat):Prop :=
 ∃ f:Nat->Nat->Value,Own w base 69 1 v k f/\(∀ g,v.ownBlock=some g->NoInt w g)/\∀ i,i<k->∃ A c,f i 0=.slice A (dl (x i)) c/\NatOk w w.heap.size A (x i)/\dl (x i)<=c/\c<=maxLen
theorem NatOwn.nil (w:World) (base:Nat) (x:Nat->Nat):NatOwn w base (.slice none 0 0) 0 x:=⟨fun _ _=>undef,.inl ⟨rfl,rfl⟩,fun g h=>by simp [Value.ownBlock] at h,fun i hi=>by omega⟩
theorem NatOwn.on {w w':World} {base k:Nat} {v:Value} {x:Nat->Nat} (h:NatOwn w base v k x) (hb:Below w.heap.size w w'):NatOwn w' base v k x:=by
 obtain ⟨f,h1,h2,h3⟩:=h
 refine ⟨f,h1.on hb,fun g hg j n hj=>?_,fun i hi=>?_⟩
 ·have a:=(h1.lt g hg).2
  exact h2 g hg j n (by rw [<-hb.cell (p:=⟨g,j,none⟩) a]; exact hj)
 ·obtain ⟨A,c,e0,n1,h4⟩:=h3 i hi
  exact ⟨A,c,e0,n1.on hb,h4⟩
theorem NatOwn.tab {w:World} {base k:Nat} {v:Value} {x:Nat->Nat} (h:NatOwn w base v k x):∃ A c,v=.slice A k c/\k<=c/\c<=maxLen/\NatTab w w.heap.size A k x:=by
 obtain ⟨f,h1,_,h3⟩:=h
 obtain ⟨A,c,rfl⟩:=h1.shape
 have hc:k<=c/\c<=maxLen:=by
  rcases h1 with ⟨e1,e2⟩ | ⟨g1,o1,cap,cur,e1,_,_,h3,h4,_⟩
  ·injection e1 with _ _ e3; subst e3; exact ⟨by omega,by unfold maxLen; omega⟩
  ·injection e1 with _ _ e3; subst e3; exact ⟨h3,h4⟩
 refine ⟨A,c,rfl,hc.1,hc.2,fun i hi=>?_⟩
 obtain ⟨b,off,e,hb,a⟩:=h1.rd rfl i hi
 obtain ⟨B,d,e0,n1,n2,n3⟩:=h3 i hi
 have g:=a 0 (by omega)
 rw [Nat.mul_one,Nat.add_zero,e0] at g
 exact ⟨b,off,B,d,e,hb,g,n2,n3,n1⟩
theorem Tryz.infoNat:(Tryz.prog.info? 69).map (fun i=>(i.zero,i.size,i.bytes))=some (some (.slice none 0 0),1,24):=by kernel_rfl
theorem zd1 (w:World) (ty:TypeId) (base:Nat) (v:Value) (k:Nat) (x:Nat->Nat) (h:NatOwn w base v k x) (hbase:base<=w.heap.size) (hk:k<=1048576)
  (b c:Nat) (A:Option Addr) (d:Nat) (y:Nat) (hr:x k=y)
  (c0:w.cell? ⟨b,0,none⟩=some (.slice A (dl y) d)) (m1:NatOk w w.heap.size A y) (m3:dl y<=d) (m4:d<=maxLen) :
  ∃ v' w',(Builtin.append_ #[64, 64] ty #[v,.slice (some ⟨b,0,none⟩) 1 c]).run Tryz.prog w=.ok v' w'/\NatOwn w' base v' (k+1) x/\w.grownBy w' v.ownBlock/\(∀ g,v.ownBlock=some g->base<=g):=by
 subst hr
 obtain ⟨f,o,r,hf⟩:=h
 obtain ⟨i,hi,p⟩:=Option.map_eq_some_iff.1 Tryz.infoNat
 simp only [Prod.mk.injEq] at p
 obtain ⟨hz,hs,hb⟩:=p
 let f':Nat->Nat->Value:=fun i j=>if i<k then (if j<1 then f i 0 else undef) else .slice A (dl (x k)) d
 have a:Own w base 69 1 v k f':=o.congr fun i hi j hj=>by
  obtain rfl:j=0:=by omega
  simp [f',hi]
 have l:∀ j,j<1->w.cell? ((⟨b,0,none⟩:Addr).add j)=some (f' k j):=fun j hj=>by
  obtain rfl:j=0:=by omega
  have:(⟨b,0,none⟩:Addr).add 0=⟨b,0,none⟩:=by unfold Addr.add; split <;> simp_all
  rw [this]
  simpa [f'] using c0
 have h1:∀ j,j<1->(f' k j).oneCell'=true:=fun j hj=>by simp [f']; rfl
 obtain ⟨v1,w1,e1,o1,g1,a1,_⟩:=zbc (P:=Tryz.prog) w base 64 ty 69 i _ 1 24 Tryz.underlying64 hi hz hs hb rfl (by omega) v k f' a ⟨b,0,none⟩ c l h1 (by unfold maxLen; omega) (by omega) hbase
 obtain ⟨v2,w2,e2,m⟩:=zde (P:=Tryz.prog) w (fun u=>∀ n,u≠.int .u32 n) base 64 ty 69 i _ 1 24 Tryz.underlying64 hi hz hs hb (by omega) v k f' a ⟨b,0,none⟩ c l h1 (by unfold maxLen; omega) (by omega)
  (fun u hu n e=>by
   have hu:u ∈ [Value.slice none 0 0]:=hu
   rw [e] at hu; simp at hu)
  (fun i j hi hj n=>by
   obtain rfl:j=0:=by omega
   by_cases e:i<k
   ·obtain ⟨B,x,e0,_⟩:=hf i e
    simp [f',e,e0]
   ·simp [f',e])
  (fun g c' e' fr hg hh=>zfg hh (r g hg))
 rw [e1] at e2
 injection e2 with e2 e3
 subst e2 e3
 have nat:∀ A' y,NatOk w w.heap.size A' y->NatOk w1 w1.heap.size A' y:=fun A' y hx=>by
  have:=zcB hx (Nat.le_refl _) g1 (fun g hg=>r g hg)
  intro q hq
  obtain ⟨b',o',e,h1,h2⟩:=this q hq
  exact ⟨b',o',e,Nat.lt_of_lt_of_le h1 g1.size,h2⟩
 refine ⟨v1,w1,e1,⟨f',o1,fun g hg=>?_,fun i hi=>?_⟩,g1,fun g hg=>(o.lt g hg).1⟩
 ·obtain ⟨c',e',fr,hh,hu⟩:=m g hg
  exact zj1 hh hu
 by_cases e:i<k
 ·obtain ⟨B,z,e0,n1,h4⟩:=hf i e
  exact ⟨B,z,by simp [f',e,e0],nat _ _ n1,h4⟩
 ·obtain rfl:i=k:=by omega
  exact ⟨A,d,by simp [f'],nat _ _ m1,m3,m4⟩
def NatRaw (w:World) (B:Nat) (A:Option Addr) (n x:Nat):Prop:=∃ f:Nat->Nat,Lims w B A n f/\(∀ i,i<n->f i<4294967296)/\nv f n=x
theorem NatOk.raw {w:World} {B:Nat} {A:Option Addr} {x:Nat} (h:NatOk w B A x):NatRaw w B A (dl x) x:=⟨dg x,h,fun i _=>zjE x i,zgK x⟩
open Go
def rv (s:Bool) (x y:Nat):Rat:=mkRat (if s then -(x:Int) else x) y
def rneg (r:Rat):Bool:=decide (r.num<0)
theorem zj2 (r:Rat):rv (rneg r) r.num.natAbs r.den=r:=by
 unfold rv rneg
 have h:(if decide (r.num<0)=true then -(r.num.natAbs:Int) else (r.num.natAbs:Int))=r.num:=by
  by_cases h:r.num<0
  ·simp [h]; omega
  ·simp [h]; omega
 rw [h]
 exact Rat.mkRat_self r
def rsz (r:Rat) (N:Nat):Prop:=dl r.num.natAbs<=N/\dl r.den<=N
theorem rsz.mono {r:Rat} {N M:Nat} (h:rsz r N) (hm:N<=M):rsz r M:=⟨Nat.le_trans h.1 hm,Nat.le_trans h.2 hm⟩
def RatRaw (w:World) (B:Nat) (v:Value) (r:Rat) (N:Nat):Prop:=∃ s A n c A2 m c2 x y,v=.agg #[.bool s,.slice A n c,.slice A2 m c2]/\NatRaw w B A n x/\NatRaw w B A2 m y/\n<=c/\c<=maxLen/\m<=c2/\c2<=maxLen/\n<=N/\m<=N/\r=rv s x y
def RatOk (w:World) (B:Nat) (v:Value) (r:Rat):Prop:=∃ A c A2 c2,v=.agg #[.bool (rneg r),.slice A (dl r.num.natAbs) c,.slice A2 (dl r.den) c2]/\NatOk w B A r.num.natAbs/\NatOk w B A2 r.den/\dl r.num.natAbs<=c/\c<=maxLen/\dl r.den<=c2/\c2<=maxLen
theorem RatOk.raw {w:World} {B:Nat} {v:Value} {r:Rat} {N:Nat} (h:RatOk w B v r) (hN:rsz r N):RatRaw w B v r N:=by
 obtain ⟨A,c,A2,c2,rfl,h1,h2,h3,h4,h5,h6⟩:=h
 exact ⟨_,A,_,c,A2,_,c2,_,_,rfl,h1.raw,h2.raw,h3,h4,h5,h6,hN.1,hN.2,(zj2 r).symm⟩
theorem NoInt.row {w:World} {b:Nat} {t:TypeId} {n:Nat} {f:Nat->Value} (h:w.rowIs b t n f) (hf:∀ i,i<n->∀ k,f i≠.int .u32 k):NoInt w b:=fun j k e=>by
 obtain ⟨c,h1,h2,h3⟩:=h
 have e1:w.cell? ⟨b,j,none⟩=c[j]?:=cell_of_row w b j c t (0,0) h1
 rw [e1] at e
 have hj:j<n:=by rw [<-h2]; exact (Array.getElem?_eq_some_iff.1 e).1
 rw [h3 j hj] at e
 injection e with e
 exact hf j hj k e
def ratCell (a b c:Value) (i:Nat):Value:=if i=0 then a else if i=1 then b else c
structure RatStored (w:World) (g:Nat) (T:TypeId) (s:Bool) (A:Option Addr) (n c:Nat) (A2:Option Addr) (m c2:Nat) (w3:World):Prop where
 row:w3.rowIs g T 3 (ratCell (.bool s) (.slice A n c) (.slice A2 m c2))
 nat:∀ B A' x,NatOk w B A' x->NatOk w3 B A' x
 rawn:∀ B A' n' x,NatRaw w B A' n' x->NatRaw w3 B A' n' x
 size:w3.heap.size=w.heap.size
 grown:w.grownBy w3 (some g)
theorem RatStored.below {w w3 w0:World} {g B:Nat} {T:TypeId} {s:Bool} {A A2:Option Addr} {n c m c2:Nat} (h:RatStored w g T s A n c A2 m c2 w3) (hB:Below B w0 w) (hg:B<=g) (hs:B<=w.heap.size):Below B w0 w3 :=
 hB.grown h.grown hs (fun q e=>by injection e with e; omega)
theorem RatStored.raw {w w3:World} {g B N:Nat} {T:TypeId} {s:Bool} {A A2:Option Addr} {n c m c2:Nat} (h:RatStored w g T s A n c A2 m c2 w3) {v:Value} {r:Rat} (hr:RatRaw w B v r N):RatRaw w3 B v r N:=by
 obtain ⟨s',A',n',c',A2',m',c2',x,y,e,h1,h2,h3⟩:=hr
 exact ⟨s',A',n',c',A2',m',c2',x,y,e,h.rawn _ _ _ _ h1,h.rawn _ _ _ _ h2,h3⟩
def RatTab (w:World) (B:Nat) (T:Option Addr) (m:Nat) (rs:Nat->Rat) (N:Nat):Prop :=
 ∀ i,i<m->∃ b off s A n c A2 k c2,T=some ⟨b,off,none⟩/\b<B/\w.cell? ⟨b,off+i*3,none⟩=some (.bool s)/\w.cell? ⟨b,off+i*3+1,none⟩=some (.slice A n c)/\w.cell? ⟨b,off+i*3+2,none⟩=some (.slice A2 k c2)/\RatRaw w B (.agg #[.bool s,.slice A n c,.slice A2 k c2]) (rs i) N
def RatList (w:World) (B:Nat) (T:Option Addr) (m:Nat) (rs:Nat->Rat):Prop :=
 ∀ i,i<m->∃ b off A c A2 c2,T=some ⟨b,off,none⟩/\b<B/\w.cell? ⟨b,off+i*3,none⟩=some (.bool (rneg (rs i)))/\w.cell? ⟨b,off+i*3+1,none⟩=some (.slice A (dl (rs i).num.natAbs) c)/\w.cell? ⟨b,off+i*3+2,none⟩=some (.slice A2 (dl (rs i).den) c2)/\NatOk w B A (rs i).num.natAbs/\NatOk w B A2 (rs i).den/\dl (rs i).num.natAbs<=c/\c<=maxLen/\dl (rs i).den<=c2/\c2<=maxLen
structure RatRow (w:World) (g:Nat) (T:TypeId) (m:Nat) (f:Nat->Nat->Value):Prop where
 row:w.rowIs g T (m*3) (fun i=>f (i / 3) (i % 3))
 noInt:∀ i j k,f i j≠.int .u32 k
def putRat (f:Nat->Nat->Value) (k:Nat) (a b c:Value) (i j:Nat):Value:=if i=k then ratCell a b c j else f i j
structure RatPut (w:World) (g:Nat) (T:TypeId) (m:Nat) (f:Nat->Nat->Value) (k:Nat) (a b c:Value) (w3:World):Prop where
 row:RatRow w3 g T m (putRat f k a b c)
 nat:∀ B A' x,NatOk w B A' x->NatOk w3 B A' x
 rawn:∀ B A' n' x,NatRaw w B A' n' x->NatRaw w3 B A' n' x
 size:w3.heap.size=w.heap.size
 grown:w.grownBy w3 (some g)
theorem RatPut.below {w w3 w0:World} {g B:Nat} {T:TypeId} {m k:Nat} {f:Nat->Nat->Value} {a b c:Value} (h:RatPut w g T m f k a b c w3) (hB:Below B w0 w) (hg:B<=g) (hs:B<=w.heap.size):Below B w0 w3 :=
 hB.grown h.grown hs (fun q e=>by injection e with e; omega)
theorem RatList.tab {w:World} {B m N:Nat} {T:Option Addr} {rs:Nat->Rat} (h:RatList w B T m rs) (hr:∀ i,i<m->rsz (rs i) N):RatTab w B T m rs N:=fun i hi=>by
 obtain ⟨b,off,A,c,A2,c2,e,h1,h2,h3,h4,h5,h6,h7⟩:=h i hi
 exact ⟨b,off,_,A,_,c,A2,_,c2,e,h1,h2,h3,h4,RatOk.raw ⟨A,c,A2,c2,rfl,h5,h6,h7⟩ (hr i hi)⟩
theorem RatRaw.grown {w w':World} {v:Value} {r:Rat} {N:Nat} {row:Option Nat} (h:RatRaw w w.heap.size v r N) (hg:w.grownBy w' row) (hni:∀ g,row=some g->NoInt w g):RatRaw w' w'.heap.size v r N:=by
 have raw:∀ A n x,NatRaw w w.heap.size A n x->NatRaw w' w'.heap.size A n x:=fun A n x ⟨f,h1,h2⟩=>by
  refine ⟨f,fun q hq=>?_,h2⟩
  obtain ⟨b',o',e,h3,h4⟩:=zcB h1 (Nat.le_refl _) hg hni q hq
  exact ⟨b',o',e,Nat.lt_of_lt_of_le h3 hg.size,h4⟩
 obtain ⟨s,A,n,c,A2,m,c2,x,y,e,h1,h2,h3⟩:=h
 exact ⟨s,A,n,c,A2,m,c2,x,y,e,raw _ _ _ h1,raw _ _ _ h2,h3⟩
theorem RatRaw.mono {w:World} {B N N2:Nat} {v:Value} {r:Rat} (h:RatRaw w B v r N) (hN:N<=N2):RatRaw w B v r N2:=by
 obtain ⟨s,A,n,c,A2,m,c2,x,y,e,h1,h2,h3,h4,h5,h6,h7,h8,h9⟩:=h
 exact ⟨s,A,n,c,A2,m,c2,x,y,e,h1,h2,h3,h4,h5,h6,by omega,by omega,h9⟩
theorem RatTab.mono {w:World} {B m N N2:Nat} {T:Option Addr} {rs:Nat->Rat} (h:RatTab w B T m rs N) (hN:N<=N2):RatTab w B T m rs N2:=fun i hi=>by
 obtain ⟨b,off,s,A,n,c,A2,k,c2,e,h1,h2,h3,h4,h5⟩:=h i hi
 exact ⟨b,off,s,A,n,c,A2,k,c2,e,h1,h2,h3,h4,h5.mono hN⟩
open Go.ChangeShapes Go.WideShapes Go.ChangeAt
theorem zfh {α:Type}:∀ {l m:List α},l.Nodup->(∀ x,x ∈ l->x ∈ m)->l.length<=m.length:=by
 classical
 intro l
 induction l with
 | nil=>intro m _ _; exact Nat.zero_le _
 | cons a l ih =>
  intro m h1 h2
  have ha:=h2 a (by simp)
  rw [List.nodup_cons] at h1
  have hl:=List.length_erase_of_mem ha
  have hp:=ih (m:=m.erase a) h1.2 fun x hx=>(List.mem_erase_of_ne (fun e:x=a=>h1.1 (by rw [<-e]; exact hx))).2 (h2 x (by simp [hx]))
  have b:=List.length_pos_of_mem ha
  simp only [List.length_cons]
  omega
theorem zaS {α β:Type} {f:α->β}:∀ {l:List α},l.Nodup->(∀ a,a ∈ l->∀ b,b ∈ l->f a=f b->a=b)->(l.map f).Nodup:=by
 intro l
 induction l with
 | nil=>intro _ _; exact List.nodup_nil
 | cons a l ih =>
  intro h hi
  rw [List.nodup_cons] at h;rw [List.map_cons,List.nodup_cons]
  refine ⟨fun hm=>?_,ih h.2 fun x hx y hy e=>hi x (by simp [hx]) y (by simp [hy]) e⟩
  obtain ⟨b,hb,e⟩:=List.mem_map.1 hm
  have:=hi b (by simp [hb]) a (by simp) e
  exact h.1 (by rw [<-this]; exact hb)
theorem zez {K:Type} {L:List K} (hn:L.Nodup):∀ n,(allW L n).Nodup
 | 0=>by simp [allW]
 | n + 1 => by
  have ih:=zez hn n
  show ((allW L n).flatMap fun w=>L.map fun a=>a :: w).Nodup
  revert ih
  generalize allW L n=l
  induction l with
  | nil=>intro _; simp
  | cons w l ihl =>
   intro h
   rw [List.nodup_cons] at h;rw [List.flatMap_cons,List.nodup_append]
   refine ⟨zaS hn fun a _ b _ e=>by injection e,ihl h.2,fun x hx y hy e=>?_⟩
   obtain ⟨a,_,rfl⟩:=List.mem_map.1 hx
   obtain ⟨w',hw',hy⟩:=List.mem_flatMap.1 hy
   obtain ⟨b,_,rfl⟩:=List.mem_map.1 hy
   injection e with _ e
   exact h.1 (by rw [e]; exact hw')
theorem zhh {K:Type} {L:List K} (hc:∀ a,a ∈ L):∀ n (x:List K),x.length=n->x ∈ allW L n
 | 0,x,h=>by rw [List.length_eq_zero_iff.1 h]; simp [allW]
 | n+1,[],h=>by simp at h
 | n+1,a :: x,h=>by
  show _ ∈ (allW L n).flatMap _
  exact List.mem_flatMap.2 ⟨x,zhh hc n x (by simpa using h),List.mem_map.2 ⟨a,hc a,rfl⟩⟩
theorem zjs {q:Nat} (hq:0<q) {n x y:Nat} (hx:x<q ^ n) (hy:y<q ^ n) (h:∀ t,t<n->dig q x t=dig q y t):x=y:=zeq hq hx hy h
theorem zlr {q:Nat} {n:Nat} {c:Nat->Nat} (hc:∀ t,t<n->c t<q):∃ x,x<q ^ n/\∀ t,t<n->dig q x (n - 1 - t)=c t:=by
 refine ⟨valN q (fun t=>c (n - 1 - t)) n,zbl fun i hi=>hc _ (by omega),fun t ht=>?_⟩
 rw [za8 (fun i hi=>hc _ (by omega)) _ (by omega)]
 congr 1
 omega
section
variable {q n k:Nat} {add mul:Nat->Nat->Nat} {V:Nat->Nat->Nat}
theorem EchN.spE_pv (hL:FieldLaws q add mul) {a:Nat} {p:Nat->Nat} (h:EchN q n k k a p V) {c:Nat->Nat} (hc:∀ i,i<a->c i<q) {s:Nat} (hs:s<a):spE add mul V c a (p s)=c s:=by
 have d:=h.le
 have b:∀ t,t<=a->spE add mul V c t (p s)=if s<t then c s else 0:=by
  intro t
  induction t with
  | zero=>intro _; rfl
  | succ t ih =>
   intro ht
   show add (spE add mul V c t (p s)) (mul (c t) (V t (p s)))=_
   rw [ih (by omega)]
   by_cases e:t=s
   ·subst e
    rw [if_neg (by omega),if_pos (by omega),h.one t hs,hL.mulOne (hc t hs),hL.zeroAdd _ (hc t hs)]
   ·rw [h.zero s hs t (by omega) e,hL.mulZero (hc t (by omega))]
    by_cases e2:s<t
    ·rw [if_pos e2,if_pos (by omega),hL.addZero (hc s hs)]
    ·have:=hL.two
     rw [if_neg e2,if_neg (by omega),hL.addZero (by omega)]
 rw [b a (Nat.le_refl _),if_pos hs]
theorem zbD {neg:Nat->Nat} {p:Nat->Nat} {W:Nat->Nat->Nat} {c j:Nat}:∀ a,(∀ s,s<a->p s≠j)->nrow neg p W c a j=if j=c then 1 else 0
 | 0,_=>rfl
 | a+1,h=>by
  unfold nrow
  rw [if_neg (fun e=>h a (by omega) e.symm)]
  exact zbD a fun s hs=>h s (by omega)
theorem zfP {neg:Nat->Nat} {p:Nat->Nat} {W:Nat->Nat->Nat} {c s:Nat}:∀ a,(∀ t u,t<u->u<a->p t<p u)->s<a->nrow neg p W c a (p s)=neg (W s c)
 | 0,_,h=>absurd h (by omega)
 | a + 1, hi, hs => by
  unfold nrow
  by_cases e:s=a
  ·subst e; rw [if_pos rfl]
  ·have:=hi s a (by omega) (by omega)
   rw [if_neg (by omega)]
   exact zfP a (fun t u h1 h2=>hi t u h1 (by omega)) (by omega)
end
structure OnEl (q:Nat) (add mul:Nat->Nat->Nat) [Add (El q)] [Mul (El q)] [Neg (El q)] [Zero (El q)] [One (El q)]:Prop where
 fie:Fie (El q)
 ha:∀ x y:El q,(x+y).val=add x.val y.val
 hm:∀ x y:El q,(x*y).val=mul x.val y.val
 h0:(0:El q).val=0
 h1:(1:El q).val=1
section
variable {q n N a2:Nat} {add mul:Nat->Nat->Nat} {neg:Nat->Nat} {V W2:Nat->Nat->Nat} (hq:0<q) [iA:Add (El q)] [iM:Mul (El q)] [iN:Neg (El q)] [i0:Zero (El q)] [i1:One (El q)] (O:OnEl q add mul)
include O
theorem zfQ {m:Nat} {U:Nat->Nat->Nat} {x:List (El q)} (hx:Gen N m (fun i=>wordK q hq N (U i)) x):x=wordK q hq N (fun j=>(ent x j).val):=by
 refine zeu (zff O.fie (N:=fun i j=>toEl q hq (U i j)) hx).1 (zbf hq N _) fun j hj=>?_
 rw [zcy hq,zbg hj]
 exact El.ext' (zal hq (ent x j).lt).symm
variable (hL:FieldLaws q add mul)
include hL
theorem zfi {m m':Nat} {U U':Nat->Nat->Nat} (hU:∀ i,i<m->∀ j,j<N->U i j<q) (hU':∀ i,i<m'->∀ j,j<N->U' i j<q) (e:SameSp q add mul N m m' U U') (x:List (El q)):Gen N m (fun i=>wordK q hq N (U i)) x↔Gen N m' (fun i=>wordK q hq N (U' i)) x:=by
 constructor
 ·intro hx
  have ex:=zfQ hq O hx
  rw [ex] at hx ⊢
  exact (za1 hq O.fie hL O.ha O.hm O.h0 hU' fun j _=>(ent x j).lt).1 ((e _).1 ((za1 hq O.fie hL O.ha O.hm O.h0 hU fun j _=>(ent x j).lt).2 hx))
 intro hx
 have ex:=zfQ hq O hx
 rw [ex] at hx ⊢
 exact (za1 hq O.fie hL O.ha O.hm O.h0 hU fun j _=>(ent x j).lt).1 ((e _).2 ((za1 hq O.fie hL O.ha O.hm O.h0 hU' fun j _=>(ent x j).lt).2 hx))
theorem NullRel.perp (hneg:∀ x,x<q->neg x<q/\add x (neg x)=0) (hV:∀ i,i<n->∀ j,j<N->V i j<q) (h:NullRel q add mul neg n N V a2 W2) (x:List (El q)) :
  perpW N (Gen N n fun i=>wordK q hq N (V i)) x↔Gen N a2 (fun i=>wordK q hq N (W2 i)) x:=by
 obtain ⟨a,p,W,f,fr,Nn,p2,hE,hR,hN,d,o⟩:=h
 obtain ⟨hs,m⟩:=hR.sp hL hV
 have t:=hE.le
 have r:=hL.two
 have c:∀ u,u<f->∀ j,j<N->Nn u j<q:=fun u hu j hj=>by
  rw [hN.row u hu j hj]
  have k:=hN.lt u hu
  rcases hN.cover j hj with ⟨s,hs,e⟩ | ⟨v,hv,e⟩
  ·rw [<-e,zfP a hE.inc hs]
   exact (hneg _ (m s (by omega) _ k)).1
  ·rw [zbD a fun s hs e2=>hN.ne v hv s hs (e2.trans e.symm)]
   split <;> omega
 obtain ⟨g,l⟩:=o.sp hL c
 have s1:=zfi hq O hL hV (hE.top.lt) (fun x=>(hs x).trans (hE.sp_top hL x)) x
 have s1':∀ x,Gen N n (fun i=>wordK q hq N (V i)) x↔Gen N a (fun i=>wordK q hq N (W i)) x:=zfi hq O hL hV (hE.top.lt) (fun x=>(hs x).trans (hE.sp_top hL x))
 have s2:=zfi hq O hL c (d.top.lt) (fun x=>(g x).trans (d.sp_top hL x)) x
 rw [<-s2]
 have hK:NullK N a p (fun i j=>toEl q hq (W i j)) f fr (fun i j=>toEl q hq (Nn i j)):=by
  refine ⟨hN.lt,hN.ne,hN.cover,fun u hu=>?_,fun u hu s hs=>?_,fun u hu v hv hne=>?_⟩
  ·rw [hN.row u hu _ (hN.lt u hu),zbD a (hN.ne u hu),if_pos rfl]
   exact El.ext' (by rw [zal hq (by omega),O.h1])
  ·rw [hN.row u hu _ (hE.pvlt s hs),zfP a hE.inc hs]
   obtain ⟨g1,g2⟩:=hneg _ (hE.lt s (by omega) _ (hN.lt u hu))
   refine O.fie.negOf (El.ext' ?_)
   rw [O.ha,zal hq (hE.lt s (by omega) _ (hN.lt u hu)),zal hq g1,g2,O.h0]
  have b:fr v≠fr u:=by
   rcases Nat.lt_or_gt_of_ne hne with h1 | h1
   ·have:=hN.inc v u h1 hu; omega
   ·have:=hN.inc u v h1 hv; omega
  refine ⟨b,?_⟩
  rw [hN.row u hu _ (hN.lt v hv),zbD a (hN.ne v hv),if_neg b]
  exact El.ext' (by rw [zal hq hq,O.h0])
 have:=NullK.perp O.fie (hE.toK hq O.h0 O.h1) hK x
 refine Iff.trans ?_ this
 constructor
 ·rintro ⟨g1,g2⟩; exact ⟨g1,fun y hy=>g2 y ((s1' y).2 hy)⟩
 ·rintro ⟨g1,g2⟩; exact ⟨g1,fun y hy=>g2 y ((s1' y).1 hy)⟩
end
section
variable {q n k:Nat} {add mul:Nat->Nat->Nat} {V:Nat->Nat->Nat}
theorem zd2 (hL:FieldLaws q add mul) {a s j:Nat} {c:Nat->Nat} (hc:∀ i,i<a->c i<q) (hs:s<a) (h1:V s j=1) (h0:∀ t,t<a->t≠s->V t j=0):spE add mul V c a j=c s:=by
 have b:∀ t,t<=a->spE add mul V c t j=if s<t then c s else 0:=by
  intro t
  induction t with
  | zero=>intro _; rfl
  | succ t ih =>
   intro ht
   show add (spE add mul V c t j) (mul (c t) (V t j))=_
   rw [ih (by omega)]
   by_cases e:t=s
   ·subst e
    rw [if_neg (by omega),if_pos (by omega),h1,hL.mulOne (hc t hs),hL.zeroAdd _ (hc t hs)]
   ·rw [h0 t (by omega) e,hL.mulZero (hc t (by omega))]
    by_cases e2:s<t
    ·rw [if_pos e2,if_pos (by omega),hL.addZero (hc s hs)]
    ·rw [if_neg e2,if_neg (by omega),hL.addZero (by have:=hL.two; omega)]
 rw [b a (Nat.le_refl _),if_pos hs]
theorem zkU (hL:FieldLaws q add mul) {U W:Nat->Nat->Nat} {f a N:Nat} {fr p:Nat->Nat} (hf:∀ u,u<f->fr u<N) (hp:∀ s,s<a->p s<N)
  (u1:∀ s,s<f->U s (fr s)=1) (u0:∀ s,s<f->∀ t,t<f->t≠s->U t (fr s)=0) (w1:∀ s,s<a->W s (p s)=1) (w0:∀ s,s<a->∀ t,t<a->t≠s->W t (p s)=0)
  (hS:SameSp q add mul N f a U W):f<=a:=by
 have hq:=hL.two
 have g:q ^ f<=q ^ a:=by
  refine pigeon (f:=fun i=>code q (fun s=>spE add mul U (msgD q f i) f (p s)) a) (fun i _=>zcL fun s _=>za6 hL _ _ _) fun i i' hi hi' e=>?_
  have e1:=zc8 (fun s _=>za6 hL _ _ _) (fun s _=>za6 hL _ _ _) e
  have b:∀ i,InSp q add mul a N W (spE add mul U (msgD q f i) f):=fun i=>(hS _).1 ⟨msgD q f i,fun _ _=>zbJ (by omega),fun _ _=>rfl⟩
  obtain ⟨c,hc,ec⟩:=b i
  obtain ⟨d,hd,ed⟩:=b i'
  have ecd:∀ s,s<a->c s=d s:=fun s hs=>by
   have:=e1 s hs
   rw [ec _ (hp s hs),ed _ (hp s hs),zd2 hL hc hs (w1 s hs) (w0 s hs),zd2 hL hd hs (w1 s hs) (w0 s hs)] at this
   exact this
  have em:∀ u,u<f->msgD q f i u=msgD q f i' u:=fun u hu=>by
   have h1:=zd2 (V:=U) hL (fun t _=>zbJ (q:=q) (n:=f) (x:=i) (t:=t) (by omega)) hu (u1 u hu) (u0 u hu)
   have h2:=zd2 (V:=U) hL (fun t _=>zbJ (q:=q) (n:=f) (x:=i') (t:=t) (by omega)) hu (u1 u hu) (u0 u hu)
   rw [<-h1,<-h2,ec _ (hf u hu),ed _ (hf u hu)]
   exact zbW a fun s hs=>⟨ecd s hs,rfl⟩
  refine zjs (by omega) hi hi' fun t ht=>?_
  have:=em (f - 1 - t) (by omega)
  unfold msgD at this
  rwa [show f - 1 - (f - 1 - t)=t by omega] at this
 exact (Nat.pow_le_pow_iff_right hq).1 g
theorem NullRel.count {neg:Nat->Nat} {N a2:Nat} {W2:Nat->Nat->Nat} (hL:FieldLaws q add mul) (hneg:∀ x,x<q->neg x<q/\add x (neg x)=0) (hV:RrefN q n N V) (h:NullRel q add mul neg n N V a2 W2):n+a2=N:=by
 obtain ⟨pv,hv⟩:=hV
 obtain ⟨a,p,W,f,fr,Nn,p2,hE,hR,hN,b,o⟩:=h
 have hq:=hL.two
 have w:=hE.le
 obtain ⟨hs,m⟩:=hR.sp hL hv.lt
 have r:∀ u,u<f->∀ j,j<N->Nn u j<q:=fun u hu j hj=>by
  rw [hN.row u hu j hj]
  have k:=hN.lt u hu
  rcases hN.cover j hj with ⟨s,hs,e⟩ | ⟨v,hv,e⟩
  ·rw [<-e,zfP a hE.inc hs]
   exact (hneg _ (m s (by omega) _ k)).1
  ·rw [zbD a fun s hs e2=>hN.ne v hv s hs (e2.trans e.symm)]
   split <;> omega
 obtain ⟨c,-⟩:=o.sp hL r
 have ea:n=a:=(zdI hL hv hE.top fun x=>(hs x).trans (hE.sp_top hL x)).1
 have d:=b.le
 have u1:∀ s,s<f->Nn s (fr s)=1:=fun s hs=>by rw [hN.row s hs _ (hN.lt s hs),zbD a (hN.ne s hs),if_pos rfl]
 have u0:∀ s,s<f->∀ t,t<f->t≠s->Nn t (fr s)=0:=fun s hs t ht hne=>by
  rw [hN.row t ht _ (hN.lt s hs),zbD a (hN.ne s hs),if_neg]
  intro e
  rcases Nat.lt_or_gt_of_ne hne with h1 | h1
  ·have:=hN.inc t s h1 hs; omega
  ·have:=hN.inc s t h1 ht; omega
 have w0:∀ s,s<a2->∀ t,t<a2->t≠s->W2 t (p2 s)=0:=fun s hs t ht hne=>b.zero s hs t (by omega) hne
 have hS:SameSp q add mul N f a2 Nn W2:=fun x=>(c x).trans (b.sp_top hL x)
 have f1:f<=a2:=zkU hL hN.lt b.pvlt u1 u0 b.one w0 hS
 have f3:a+f<=N:=by
  refine pigeon (f:=fun i=>if i<a then p i else fr (i - a)) (fun i hi=>?_) fun i j hi hj e=>?_
  ·show (if i<a then p i else fr (i - a))<N
   split
   ·rename_i h; exact hE.pvlt i h
   ·exact hN.lt _ (by omega)
  have e':(if i<a then p i else fr (i - a))=(if j<a then p j else fr (j - a)):=e
  by_cases h1:i<a
  ·rw [if_pos h1] at e'
   by_cases h2:j<a
   ·rw [if_pos h2] at e'
    rcases Nat.lt_trichotomy i j with h3 | h3 | h3
    ·have:=hE.inc i j h3 h2; omega
    ·exact h3
    ·have:=hE.inc j i h3 h1; omega
   ·rw [if_neg h2] at e'
    exact absurd e' (hN.ne _ (by omega) _ h1)
  rw [if_neg h1] at e'
  by_cases h2:j<a
  ·rw [if_pos h2] at e'
   exact absurd e'.symm (hN.ne _ (by omega) _ h2)
  rw [if_neg h2] at e'
  rcases Nat.lt_trichotomy (i - a) (j - a) with h3 | h3 | h3
  ·have:=hN.inc _ _ h3 (by omega); omega
  ·omega
  ·have:=hN.inc _ _ h3 (by omega); omega
 have f4:N<=a+f:=by
  have l:∀ j,∃ i,j<N->i<a+f/\(if i<a then p i else fr (i - a))=j:=fun j=>by
   by_cases hj:j<N
   ·rcases hN.cover j hj with ⟨s,hs,e⟩ | ⟨u,hu,e⟩
    ·exact ⟨s,fun _=>⟨by omega,by rw [if_pos hs]; exact e⟩⟩
    ·exact ⟨a+u,fun _=>⟨by omega,by rw [if_neg (by omega),show a+u - a=u by omega]; exact e⟩⟩
   ·exact ⟨0,fun h=>absurd h hj⟩
  obtain ⟨g,hg⟩:=Classical.skolem.1 l
  refine pigeon (f:=g) (fun j hj=>(hg j hj).1) fun i j hi hj e=>?_
  have h1:=(hg i hi).2
  have h2:=(hg j hj).2
  rw [e] at h1
  omega
 omega
end
theorem zhi (T:Option Addr) (n k c:Nat) (W:Nat->Nat->Nat) (w:World) (h:MRows w T n k W) (hk:k<=1048576) (hn:n<=1048576) :
  Calls Tryz.prog 87 #[.slice T n c,.int .i64 (k:Nat)] w (MPost k n (fun i j=>W j i) w):=by
 have HR:=hid h
 have H0:=hid (MTab.nil w w.heap.size n (fun i j=>W j i))
 clear h
 go_enter Tryz.func87, Tryz.ntmps87
 go_wp2
 obtain ⟨nv,l⟩:∃ x:Value,x=.slice none 0 0:=⟨_,rfl⟩
 have M:=hid l
 rw [<-l] at H0
 simp only [<-l]
 clear l
 go_loopg [5,6,7,8] k (fun gg ov iv _ _ wx=>∃ i:Nat,iv=.int .i64 (i:Nat)/\i<=k/\k<=i+gg/\Hid (MTab wx w.heap.size ov i n (fun i j=>W j i))/\Below w.heap.size w wx)
 case atStart=>exact ⟨0,rfl,by omega,by omega,H0,Below.refl _ _⟩
 clear H0
 obtain ⟨i,rfl,hi,P,HM,hB⟩:=hrel
 have Q:(0:Int)<=(i:Int):=by omega
 by_cases hlt:i<k
 rotate_left
 ·have s:¬ (i:Int)<(k:Int):=by omega
  obtain rfl:i=k:=by omega
  go_wp2
  go_ret
  exact ⟨_,rfl,HM.out,hB⟩
 have s:(i:Int)<(k:Int):=by omega
 obtain ⟨gO,I⟩:=exx gk
 subst I
 obtain ⟨w7,H⟩:=exx wr
 subst H
 have E:=hid hB
 have G:Hid (Own w7 w7.heap.size 3 1 nv 0 (fun j _=>.int .i64 ((W j i:Nat):Int))):=by rw [M.out]; exact hid (Own.nil w7 w7.heap.size 3 1 _)
 have F:=hid hB.size
 clear hB
 go_wp2
 go_loopg [7,8] n (fun gg cv jv wx=>∃ j:Nat,jv=.int .i64 (j:Nat)/\j<=n/\n<=j+gg/\Hid (Own wx w7.heap.size 3 1 cv j (fun j _=>.int .i64 (W j i:Nat)))/\Below w7.heap.size w7 wx)
 case atStart=>exact ⟨0,rfl,by omega,by omega,G,Below.refl _ _⟩
 clear G
 obtain ⟨j,rfl,hj,N,HC,hB⟩:=hrel
 have O:(0:Int)<=(j:Int):=by omega
 by_cases hjt:j<n
 ·have v:(j:Int)<(n:Int):=by omega
  obtain ⟨b,o,RA,rc,hT,hb,x0,_,_,d,_⟩:=HR.out j hjt
  subst hT
  replace x0:=(hB.cell (p:=⟨b,o+j,none⟩) (by have:=F.out; show b<_; omega)).trans ((E.out.cell (p:=⟨b,o+j,none⟩) hb).trans x0)
  obtain ⟨rb,ro,K,_,y0⟩:=(show IntsR wr wr.heap.size RA k (fun i=>((W j i:Nat):Int)) from (d.on (onS E.out hB))).at (i:=i) (by omega)
  subst K
  obtain ⟨x,hx⟩:=exx (W j i)
  rw [<-hx] at y0
  have a:=(Below.refl wr.heap.size wr).alloc (Nat.le_refl _) (Obj.cells #[Value.int .i64 (x:Int)] 3)
  have m:=hid (HC.out.on a)
  have r:=hid (onS hB a)
  have C:Hid ((wr.alloc (Obj.cells #[Value.int .i64 (x:Int)] 3)).cell? ((⟨wr.heap.size,0,none⟩:Addr).add 0)=some (.int .i64 (x:Nat))):=tbox2
  have g:=hid r.out.size
  have B:Hid (j<=1048576):=by show _<=_; omega
  have HX:=hid hx
  clear a hB hx d
  go_wp2_with (first | (at_builtin; (refine zaL rfl (.tmp 20) (.tmp 28) rfl m.out rfl (ad:=⟨wr.heap.size,0,none⟩) (c:=1) rfl C.out g.out B.out ?_); intro v9 w9 o1 o2 o3))
  have z:=hid (o1.congr (f':=fun j _=>.int .i64 (W j i:Nat)) fun u hu q _=>by
   by_cases e:u=j
   ·subst e; rw [if_pos rfl,HX.out]
   ·rw [if_neg e])
  have D:=hid (r.out.grown o2 g.out (fun q e=>(m.out.lt q e).1))
  clear o1 o2 o3
  go_wp2
  go_roundg (gk - 1)
  case measure=>omega
  case rel=>exact ⟨j+1,by go_num,by omega,by omega,z,D.out⟩
 have v:¬ (j:Int)<(n:Int):=by omega
 obtain rfl:j=n:=by omega
 obtain ⟨RA,rc,J⟩:=HC.out.shape
 subst J
 have a:=(Below.refl wr.heap.size wr).alloc (Nat.le_refl _) (Obj.cells #[Value.slice RA j rc] 22)
 have y:=onS (onS E.out hB) a
 have L:=hid ((HC.out.mono F.out).on a)
 have m:=hid (HM.out.on (onS hB a))
 have C:Hid ((wr.alloc (Obj.cells #[Value.slice RA j rc] 22)).cell? ((⟨wr.heap.size,0,none⟩:Addr).add 0)=some (.slice RA j rc)):=tbox2
 have r:=hid y
 have g:=hid y.size
 have B:Hid (i<=1048576):=by show _<=_; omega
 clear a hB y
 go_wp2_with (first | (at_builtin; (refine zaC rfl (.tmp 30) (.tmp 32) rfl m.out rfl (ad:=⟨wr.heap.size,0,none⟩) (c:=1) rfl C.out rfl L.out g.out B.out ?_); intro v9 w9 o1 o2 o3))
 have z:=hid (o1.congr (W':=fun i j=>W j i) fun u hu q _=>by
  by_cases e:u=i
  ·subst e; rw [if_pos rfl]
  ·rw [if_neg e])
 have D:=hid (r.out.grown o2 g.out o3)
 clear o1 o2 o3
 go_wp2
 go_roundg (gO - 1)
 case measure=>omega
 case rel=>exact ⟨i+1,by go_num,by omega,by omega,z,D.out⟩
theorem zeA (x:Int) (w:World):Calls Tryz.prog 112 #[.int .i64 x] w fun e w'=>e=.returned (.bool (x != 0))/\w=w':=by
 go_enter Tryz.func112, Tryz.ntmps112
 go_wp2
 go_ret
 exact ⟨rfl,rfl⟩
def idxP (p:Int->Bool) (f:Nat->Int):Nat->Int
 | 0 => -1
 | k+1=>if 0<=idxP p f k then idxP p f k else if p (f k) then k else -1
theorem zfR {p:Int->Bool} {f:Nat->Int} {k:Nat} (h:idxP p f k = -1) (hp:p (f k)=false):idxP p f (k+1) = -1:=by simp [idxP,h,hp]
theorem zhj {p:Int->Bool} {f:Nat->Int} {k n:Nat} (h:idxP p f k = -1) (hp:p (f k)=true) (hn:k<n):idxP p f n=k:=by
 induction n with
 | zero=>omega
 | succ n ih =>
  by_cases e:k=n
  ·subst e; simp [idxP,h,hp]
  ·have:=ih (by omega); simp [idxP,this]
theorem ziy (p:Int->Bool) (f:Nat->Int) (n:Nat):(idxP p f n = -1/\∀ i,i<n->p (f i)=false)∨(∃ i,i<n/\idxP p f n=i/\p (f i)=true):=by
 induction n with
 | zero=>exact .inl ⟨rfl,fun i hi=>absurd hi (by omega)⟩
 | succ n ih =>
  rcases ih with ⟨h1,h2⟩ | ⟨i,hi,h1,h2⟩
  ·cases hp:p (f n)
   ·refine .inl ⟨zfR h1 hp,fun i hi=>?_⟩
    by_cases e:i=n
    ·subst e; exact hp
    ·exact h2 i (by omega)
   ·exact .inr ⟨n,by omega,zhj h1 hp (by omega),hp⟩
  ·exact .inr ⟨i,by omega,by simp [idxP,h1],h2⟩
theorem zd3 (fid:Nat) (p:Int->Bool) (hcf:∀ (x:Value) (W:World),(callFunc fid #[x]).run Tryz.prog W=.ok (.enter fid #[x]) W) (hp:∀ (x:Int) (W:World),Calls Tryz.prog fid #[.int .i64 x] W fun e W'=>e=.returned (.bool (p x))/\W=W')
  (F:Option Addr) (n d:Nat) (f:Nat->Int) (w:World) (hf:IntsR w w.heap.size F n f) (hn:n<=1024) :
  Calls Tryz.prog 174 #[.slice F n d,.func (.func fid) #[] #[]] w fun e w'=>e=.returned (.int .i64 (idxP p f n))/\w=w':=by
 have HP:=hid hp
 clear hp
 go_enter Tryz.func174, Tryz.ntmps174
 go_wp2
 go_loopw [8] (fun i wr=>∃ k:Nat,k<=n/\i=.int .i64 k/\idxP p f k = -1/\w=wr) (fun i _=>n - (intOf i).toNat)
 case atStart=>exact ⟨0,by omega,rfl,rfl,rfl⟩
 obtain ⟨k,hk,rfl,hi,rfl⟩:=hrel
 have a:=hid hi
 clear hi
 by_cases hlt:k<n
 rotate_left
 ·obtain rfl:k=n:=by omega
  go_wp2
  go_ret
  exact ⟨zan a.out.symm,rfl⟩
 obtain ⟨b,off,rfl,hb,e0⟩:=hf.at hlt
 cases hq:p (f k)
 ·have HQ:=hid hq
  clear hq
  go_wp2_with fail
  refine (HP.out _ _).mono ?_
  rintro e w1 ⟨rfl,rfl⟩
  rw [HQ.out]
  go_wp2
  go_roundw
  case rel=>exact ⟨k+1,by omega,by go_num,zfR a.out HQ.out,by first | trivial | rfl⟩
  case measure=>simp [intOf]; omega
 have HQ:=hid hq
 clear hq
 go_wp2_with fail
 refine (HP.out _ _).mono ?_
 rintro e w1 ⟨rfl,rfl⟩
 rw [HQ.out]
 go_wp2
 go_ret
 exact ⟨zan (zhj a.out HQ.out hlt).symm,rfl⟩
theorem zd4 (F:Option Addr) (n d:Nat) (f:Nat->Int) (w:World) (hf:IntsR w w.heap.size F n f) (hn:n<=1024) :
  Calls Tryz.prog 111 #[.slice F n d,.func (.func 112) #[] #[]] w fun e w'=>∃ b:Bool,e=.returned (.bool b)/\(b=true↔∃ i,i<n/\f i≠0)/\w=w':=by
 go_enter Tryz.func111, Tryz.ntmps111
 go_wp2_with fail
 refine (zd3 112 (fun x=>x != 0) (fun _ _=>by kernel_rfl) zeA F n d f w hf hn).mono ?_
 rintro e w1 ⟨rfl,rfl⟩
 obtain ⟨z,hz⟩:=exx (idxP (fun x=>x != 0) f n)
 have hs:=ziy (fun x=>x != 0) f n
 rw [<-hz] at hs ⊢
 have hd:decide (0<=z)=true↔∃ i,i<n/\f i≠0:=by
  rw [decide_eq_true_iff]
  rcases hs with ⟨h1,h2⟩ | ⟨i,hi,h1,h2⟩
  ·refine ⟨fun h=>by omega,fun ⟨i,hi,h⟩=>?_⟩
   have:=h2 i hi
   simp at this
   exact absurd this h
  ·exact ⟨fun _=>⟨i,hi,by simpa using h2⟩,fun _=>by omega⟩
 have HD:=hid hd
 clear hs hd hz
 go_wp2
 go_ret
 exact ⟨_,rfl,HD.out,rfl⟩
theorem zj3 {P M:Int} (h:256<P):ordV P M=0:=by
 unfold ordV
 split
 ·rename_i h2
  exfalso
  obtain ⟨h3,h4,_,h5⟩:=h2
  have h6:=Nat.pow_le_pow_right (n:=P.toNat) (show 0<P.toNat by omega) (show 1<=M.toNat by omega)
  rw [Nat.pow_one] at h6
  omega
 ·rfl
theorem zcC (P M:Int) (w:World):Calls Tryz.prog 146 #[.int .i64 P,.int .i64 M] w (OrderPost P M w):=by
 by_cases h1:P<2
 ·have hz:=hid (zdE (P:=P) (M:=M) (.inl h1))
  go_enter Tryz.func146, Tryz.ntmps146
  go_wp2
  go_ret
  exact zaH hz.out (Below.refl _ _)
 by_cases h2:P > 256
 ·have hz:=hid (zj3 (P:=P) (M:=M) h2)
  go_enter Tryz.func146, Tryz.ntmps146
  go_wp2
  go_ret
  exact zaH hz.out (Below.refl _ _)
 by_cases h3:M<1
 ·have hz:=hid (zdE (P:=P) (M:=M) (.inr (.inl h3)))
  go_enter Tryz.func146, Tryz.ntmps146
  go_wp2
  go_ret
  exact zaH hz.out (Below.refl _ _)
 by_cases h4:M > 8
 ·have hz:=hid (zdE (P:=P) (M:=M) (.inr (.inr h4)))
  go_enter Tryz.func146, Tryz.ntmps146
  go_wp2
  go_ret
  exact zaH hz.out (Below.refl _ _)
 obtain ⟨p,rfl⟩:∃ p:Nat,P=p:=⟨P.toNat,by omega⟩
 obtain ⟨m,rfl⟩:∃ m:Nat,M=m:=⟨M.toNat,by omega⟩
 have a:Hid (∀ v:Nat,(p ^ m<=256->v=p ^ m)->(256<p ^ m->v=0)->ordV (p:Int) (m:Int)=(v:Int)):=fun v hv1 hv2=>by
  unfold ordV
  rw [Int.toNat_natCast,Int.toNat_natCast]
  by_cases h:p ^ m<=256
  ·rw [if_pos ⟨by omega,by omega,by omega,h⟩,hv1 h]
  ·rw [if_neg (fun hh=>h hh.2.2.2),hv2 (by omega)]; rfl
 have l:(0:Int)<=(m:Int):=by omega
 go_enter Tryz.func146, Tryz.ntmps146
 go_wp2
 go_loopg [5,21] m (fun gg qv iv wx=>∃ i y:Nat,qv=.int .i64 (y:Nat)/\iv=.int .i64 (i:Nat)/\i<=m/\m<=i+gg/\Hid (y=p ^ i)/\y<=256/\wx=w)
 case atStart=>exact ⟨0,1,rfl,rfl,by omega,by omega,rfl,by omega,rfl⟩
 obtain ⟨i,y,rfl,rfl,hi,o,HY,hy,d⟩:=hrel
 subst d
 by_cases hlt:i<m
 rotate_left
 ·have c:¬ (i:Int)<(m:Int):=by omega
  obtain rfl:i=m:=by omega
  have b:=hid (a.out y (fun _=>HY.out) (fun h=>by have:=HY.out; omega))
  go_wp2
  go_ret
  exact ⟨by rw [b.out]; rfl,Below.refl _ _⟩
 have c:(i:Int)<(m:Int):=by omega
 obtain ⟨z,hz⟩:=exx (y*p)
 have j:(y:Int)*(p:Int)=(z:Int):=by rw [hz]; simp
 have k:z<=65536:=by rw [hz]; exact Nat.mul_le_mul (show y<=256 by omega) (show p<=256 by omega)
 have HZ:Hid (z=p ^ (i+1)):=by show _=_; rw [hz,HY.out,Nat.pow_succ]
 clear hz
 by_cases hb:z > 256
 ·have g:(z:Int) > 256:=by omega
  have e:=hid (a.out 0 (fun h=>by
   have h5:=Nat.pow_le_pow_right (n:=p) (by omega) (show i+1<=m by omega)
   rw [<-HZ.out] at h5
   omega) (fun _=>rfl))
  go_wp2
  go_ret
  exact ⟨by rw [e.out]; rfl,Below.refl _ _⟩
 have g:¬ (z:Int) > 256:=by omega
 go_wp2
 go_roundg (gk - 1)
 case measure=>omega
 case rel=>exact ⟨i+1,z,rfl,by go_num,by omega,by omega,HZ,by omega,rfl⟩
theorem zd5 {n d:Nat} (hd:n<d*d) (h:∀ e,2<=e->e<d->n % e≠0):PrimeB n:=by
 intro e h1 h2 h3
 obtain ⟨f,hf⟩:=Nat.dvd_of_mod_eq_zero h3
 have a:2<=f:=by
  rcases (show f=0∨f=1∨2<=f by omega) with e0 | e0 | e0
  ·subst e0; omega
  ·subst e0; omega
  ·exact e0
 by_cases he:e<d
 ·exact h e h1 he h3
 by_cases hfd:f<d
 ·exact h f a hfd (by rw [hf]; exact Nat.mul_mod_left e f)
 ·have:=Nat.mul_le_mul (show d<=e by omega) (show d<=f by omega)
  omega
theorem zgo (P:Nat) (w:World) (hP2:2<=P) (hP:P<=256) :
  Calls Tryz.prog 198 #[.int .i64 (P:Nat)] w (PrimePost P w):=by
 have l:(P:Int) ≥ 2:=by omega
 have g:(2:Int)<=(P:Int):=by omega
 go_enter Tryz.func198, Tryz.ntmps198
 go_wp2
 go_loopg [3] 20 (fun gg iv wx=>∃ d:Nat,iv=.int .i64 (d:Nat)/\2<=d/\d<=17/\20<=d+gg/\Hid (∀ d',2<=d'->d'<d->P % d'≠0)/\wx=w)
 case atStart=>exact ⟨2,rfl,by omega,by omega,by omega,fun d' h1 h2=>absurd h1 (by omega),rfl⟩
 obtain ⟨d,rfl,h2,hd,s,HG,i⟩:=hrel
 subst i
 have t:(2:Int)<=(d:Int):=by omega
 have u:¬ (d:Int)=0:=by omega
 have q:(d:Int)<=17:=by omega
 obtain ⟨z,hz⟩:=exx (d*d)
 have o:(d:Int)*(d:Int)=(z:Int):=by rw [hz]; simp
 have p:z<=289:=by rw [hz]; exact Nat.mul_le_mul hd hd
 have HZ:=hid hz
 clear hz
 by_cases hlt:z<=P
 rotate_left
 ·have b:¬ (z:Int)<=(P:Int):=by omega
  have c:=hid (zd5 (n:=P) (d:=d) (by have:=HZ.out; omega) HG.out)
  go_wp2
  go_ret
  exact ⟨true,rfl,⟨fun _=>c.out,fun _=>rfl⟩,rfl⟩
 have b:(z:Int)<=(P:Int):=by omega
 have a:(P:Int) % (d:Int)=((P % d:Nat):Int):=by simp
 obtain ⟨r,hr⟩:=exx (P % d)
 rw [<-hr] at a
 have HR:=hid hr
 clear hr
 have k:d<=16:=Classical.byContradiction fun hn=>by
  obtain rfl:d=17:=by omega
  have:=HZ.out
  omega
 by_cases h0:r=0
 ·subst h0
  have m:Hid (¬ PrimeB P):=fun h=>h d h2 (by
   have:=HZ.out
   have h5:2*d<=d*d:=Nat.mul_le_mul_right d h2
   omega) HR.out.symm
  go_wp2
  go_ret
  exact ⟨false,rfl,⟨(fun h=>by cases h),fun h=>absurd h m.out⟩,rfl⟩
 have hb:((r:Int) == 0)=false:=by simp; omega
 have j:Hid (∀ d',2<=d'->d'<d+1->P % d'≠0):=fun d' e1 e2=>by
  by_cases e:d'=d
  ·rw [e,<-HR.out]; exact h0
  ·exact HG.out d' e1 (by omega)
 go_wp2
 go_roundg (gk - 1)
 case measure=>omega
 case rel=>exact ⟨d+1,by go_num,by omega,by omega,by omega,j,rfl⟩
theorem zdf (x p n:Nat) (w:World) (hx:x<=1048576) (hp:1<=p) (hp2:p<=256) (hn:n<=64) :
  Calls Tryz.prog 227 #[.int .i64 (x:Nat),.int .i64 (p:Nat),.int .i64 (n:Nat)] w (RowPost n (fun i=>.int .i64 (dig p x i:Nat)) w):=by
 have o:=fun W=>zag (P:=Tryz.prog) 22 3 _ 8 Tryz.underlying22 Tryz.infoInt rfl (n:Int) (by omega) (by omega) (by omega) W
 simp only [Int.toNat_natCast] at o
 have row:=World.rowIs_made w (.int .i64 0) n 3
 have hB:=aly w (.cells (madeCells #[.int .i64 0] n) 3)
 have H:(1:Int)<=(p:Int):=by omega
 have I:¬ (p:Int)=0:=by omega
 have G:(p:Int)<=256:=by omega
 go_enter Tryz.func227, Tryz.ntmps227
 go_wp2
 obtain ⟨w1,b⟩:=exx (w.alloc (.cells (madeCells #[.int .i64 0] n) 3))
 obtain ⟨g,hg⟩:=exx w.heap.size
 rw [<-b,<-hg];rw [<-b] at hB row;rw [<-hg] at row
 have q:w.heap.size<=g:=by omega
 clear b hg o
 go_loopg [0,8,13] n (fun gg xv _ iv wx=>∃ i:Nat,iv=.int .i64 (i:Nat)/\xv=.int .i64 (x / p ^ i:Nat)/\i<=n/\n<=i+gg/\wx.rowIs g 3 n (fun j=>.int .i64 (if j<i then (dig p x j:Nat) else 0:Int))/\Below w.heap.size w wx)
 case atStart=>exact ⟨0,rfl,by simp,by omega,by omega,row.congr fun i _=>rfl,hB⟩
 clear row hB
 obtain ⟨i,rfl,rfl,hi,J,row,hB⟩:=hrel
 have K:(0:Int)<=(i:Int):=by omega
 have s:x / p ^ i<=x:=Nat.div_le_self _ _
 have c:x / p ^ (i+1)=x / p ^ i / p:=by rw [Nat.pow_succ,Nat.div_div_eq_div_mul]
 have m:dig p x i=x / p ^ i % p:=rfl
 obtain ⟨y,hy⟩:=exx (x / p ^ i)
 rw [<-hy] at s c m;rw [<-hy]
 have u:=hid c
 have v:=hid m
 clear hy c m
 by_cases hlt:i<n
 rotate_left
 ·obtain rfl:i=n:=by omega
  have k:¬ (i:Int)<(i:Int):=by omega
  have d:Hid (wr.rowIs g 3 i (fun j=>.int .i64 (dig p x j:Nat))):=row.congr fun j hj=>by rw [if_pos hj]
  clear row
  go_wp2
  go_ret
  exact ⟨g,rfl,q,d.out,hB⟩
 have k:(i:Int)<(n:Int):=by omega
 have F:(0:Int)<=(y:Int):=by omega
 have E:(y:Int)<=1048576:=by omega
 have h:(y:Int) % (p:Int)=((y % p:Nat):Int):=by simp
 have l:(y:Int) / (p:Int)=((y / p:Nat):Int):=by simp
 obtain ⟨r,hr⟩:=exx (y % p)
 obtain ⟨z,hz⟩:=exx (y / p)
 rw [<-hr] at h;rw [<-hz] at l
 have D:(0:Int)<=(z:Int):=by omega
 have C:(z:Int)<=1048576:=by have:y / p<=y:=Nat.div_le_self _ _; omega
 have HR:=hid hr
 have HZ:=hid hz
 clear hr hz
 have c0:=row.cell hlt
 have z0:=row.frozen i
 have a:Hid ((wr.setCell ⟨g,i,none⟩ (.int .i64 (r:Int))).rowIs g 3 n (fun j=>.int .i64 (if j<i+1 then (dig p x j:Nat) else 0:Int))):=(row.set i _).congr fun j hj=>by
  by_cases e:j=i
  ·subst e
   rw [if_pos rfl,if_pos (by omega),v.out,HR.out]
  rw [if_neg e]
  by_cases e2:j<i
  ·rw [if_pos e2,if_pos (by omega)]
  ·rw [if_neg e2,if_neg (by omega)]
 have B:Hid (Below w.heap.size w (wr.setCell ⟨g,i,none⟩ (.int .i64 (r:Int)))):=hB.setCell q _
 clear row hB
 go_wp2
 go_roundg (gk - 1)
 case measure=>omega
 case rel=>exact ⟨i+1,by go_num,by rw [u.out,HZ.out],by omega,by omega,a.out,B.out⟩
theorem zgp (P:Nat) (T:Option Addr) (n d:Nat) (f:Nat->Nat) (w:World) (hP2:2<=P) (hP:P<=256) (h:IntsR w w.heap.size T n (fun i=>(f i:Nat))) (hd:Hid (∀ i,i<n->f i<P)) (hn:P ^ n<=256) (hn8:n<=8) :
  Calls Tryz.prog 228 #[.slice T n d,.int .i64 (P:Nat)] w fun e w'=>e=.returned (.int .i64 (valN P f n:Nat))/\Below w.heap.size w w':=by
 have hT:=hid h
 clear h
 go_enter Tryz.func228, Tryz.ntmps228
 go_wp2
 go_loopg [5,6] n (fun gg xv iv wx=>∃ j:Nat,iv=.int .i64 ((n:Int) - 1 - (j:Nat))/\xv=.int .i64 (valN P (fun i=>f (n - j+i)) j:Nat)/\j<=n/\n<=j+gg/\Below w.heap.size w wx)
 case atStart=>exact ⟨0,by go_num,rfl,by omega,by omega,Below.refl _ _⟩
 obtain ⟨j,rfl,rfl,hj,E,hB⟩:=hrel
 have g:=zbl (p:=P) (n:=j) (f:=fun i=>f (n - j+i)) (fun i hi=>hd.out _ (by omega))
 have C:P ^ j<=P ^ n:=Nat.pow_le_pow_right (by omega) hj
 by_cases hlt:j<n
 rotate_left
 ·obtain rfl:j=n:=by omega
  have m:¬ (0:Int)<=(j:Int) - 1 - (j:Int):=by omega
  have r:¬ (j:Int)<=(j:Int) - 1:=by omega
  have hv:valN P (fun i=>f (j - j+i)) j=valN P f j:=zaW fun i _=>by rw [show j - j+i=i by omega]
  rw [hv] at g ⊢
  obtain ⟨V,hV⟩:=exx (valN P f j)
  rw [<-hV] at g ⊢
  have HV:=hid hV
  clear hV hv
  go_wp2
  go_ret
  exact ⟨by rw [HV.out]; rfl,hB⟩
 have m:(0:Int)<=(n:Int) - 1 - (j:Int):=by omega
 obtain ⟨i,hi⟩:∃ i:Nat,i=n - 1 - j:=⟨_,rfl⟩
 have k:(n:Int) - 1 - (j:Int)=(i:Int):=by omega
 have l:i<n:=by omega
 have q:(i:Int)<(n:Int):=by omega
 have F:(0:Int)<=(i:Int):=by omega
 rw [k]
 obtain ⟨b,o,rfl,hb,e0⟩:=(hT.out.on hB).at l
 have s:=hd.out i l
 have c:valN P (fun t=>f (n - (j+1)+t)) (j+1)=f i+P*valN P (fun t=>f (n - j+t)) j:=by
  show f (n - (j+1)+0)+P*valN P (fun t=>f (n - (j+1)+(t+1))) j=_
  rw [show n - (j+1)+0=i by omega]
  congr 2
  exact zaW fun t _=>by rw [show n - (j+1)+(t+1)=n - j+t by omega]
 obtain ⟨V,hV⟩:=exx (valN P (fun t=>f (n - j+t)) j)
 obtain ⟨D,hD⟩:=exx (f i)
 rw [<-hV] at g c;rw [<-hD] at e0 s c;rw [<-hV]
 have v:=hid c
 have x:=hid k
 clear hV hD c hi k m
 have H:(0:Int)<=(V:Int):=by omega
 have G:(V:Int)<=256:=by omega
 have J:(0:Int)<=(D:Int):=by omega
 have I:(D:Int)<=256:=by omega
 have u:V*P<=256*256:=Nat.mul_le_mul (by omega) hP
 have a:(V:Int)*(P:Int)=((V*P:Nat):Int):=by simp
 obtain ⟨R,hR⟩:=exx (V*P)
 rw [<-hR] at u a
 have HR:=hid hR
 clear hR
 have B:IntKind.i64.wrap ((V:Int)*(P:Int))=(R:Int):=by rw [a]; exact IntWalk.i64_in _ (by omega)
 have z:IntKind.i64.wrap ((R:Int)+(D:Int))=(R:Int)+(D:Int):=IntWalk.i64_in _ (by omega)
 have y:IntKind.i64.wrap (R:Int)=(R:Int):=IntWalk.i64_in _ (by omega)
 go_wp2
 go_roundg (gk - 1)
 case measure=>omega
 case rel=>exact ⟨j+1,by have:=x.out; go_num,by rw [v.out,Nat.mul_comm P V,<-HR.out]; go_num,by omega,by omega,hB⟩
def hStep (P M:Nat) (m:Nat->Nat) (a:Nat->Nat) (bi:Nat) (o:Nat->Nat) (j:Nat):Nat:=((if j=0 then 0 else o (j - 1))+(P - o (M - 1))*(if 1<M then m j else 0)+bi*a j) % P
def hOut (P M:Nat) (m a b:Nat->Nat):Nat->Nat->Nat
 | 0=>fun _=>0
 | s+1=>hStep P M m a (b (M - 1 - s)) (hOut P M m a b s)
theorem zeB {P M:Nat} {m a b:Nat->Nat} (hP:0<P):∀ s j,hOut P M m a b s j<P
 | 0,_=>hP
 | _+1,_=>Nat.mod_lt _ hP
theorem zjt {P M:Nat} {m a b:Nat->Nat} (hP:0<P):∀ s,s<=M->∀ j,j<M->cg P (hOut P M m a b s j) (sig s fun t=>(b (M - s+t):Int)*sig M fun i=>(a i:Int)*pwX M m (i+t) j)
 | 0,_,_,_=>zat _
 | s + 1, hs, j, hj => by
  have ih:=fun j' (hj':j'<M)=>zjt (m:=m) (a:=a) (b:=b) hP s (by omega) j' hj'
  have hlt:=zeB (M:=M) (m:=m) (a:=a) (b:=b) hP s (M - 1)
  obtain ⟨o,ho⟩:=exx (hOut P M m a b s)
  rw [<-ho] at ih hlt
  have e1:hOut P M m a b (s+1) j=((if j=0 then 0 else o (j - 1))+(P - o (M - 1))*(if 1<M then m j else 0)+b (M - 1 - s)*a j) % P:=by rw [ho]; rfl
  rw [e1]
  refine (zep _).trans ?_
  -- the sum without its first summand
  have e2:sig (s+1) (fun t=>(b (M - (s+1)+t):Int)*sig M fun i=>(a i:Int)*pwX M m (i+t) j)=(b (M - 1 - s):Int)*a j+sig s (fun t=>(b (M - s+t):Int)*sig M fun i=>(a i:Int)*pwX M m (i+t+1) j):=by
   rw [show s+1=1+s by omega,zik 1 s]
   congr 1
   ·show (0:Int)+(b (M - (1+s)):Int)*sig M (fun i=>(a i:Int)*pwX M m i j)=_
    rw [zb1 hj fun i hi hne=>by rw [zbH hi,if_neg (by omega)]; omega,zbH hj,if_pos rfl,show M - (1+s)=M - 1 - s by omega,Int.mul_one,Int.zero_add]
   ·refine zae fun t _=>?_
    rw [show M - (1+s)+(1+t)=M - s+t by omega]
    congr 1
    exact zae fun i _=>by rw [show i+(1+t)=i+t+1 by omega]
  rw [e2]
  have e3:sig s (fun t=>(b (M - s+t):Int)*sig M fun i=>(a i:Int)*pwX M m (i+t+1) j)=(if j=0 then 0 else sig s fun t=>(b (M - s+t):Int)*sig M fun i=>(a i:Int)*pwX M m (i+t) (j - 1)) - m j*sig s (fun t=>(b (M - s+t):Int)*sig M fun i=>(a i:Int)*pwX M m (i+t) (M - 1)):=by
   rw [<-zc7]
   by_cases e:j=0
   ·rw [if_pos e]
    have:(0:Int)=sig s fun _=>0:=(zbu s).symm
    rw [this,<-zfG]
    refine zae fun t _=>?_
    have h1:sig M (fun i=>(a i:Int)*pwX M m (i+t+1) j) = - (m j*sig M fun i=>(a i:Int)*pwX M m (i+t) (M - 1)):=by
     rw [<-zc7,<-zjj]
     refine zae fun i _=>?_
     show (a i:Int)*(if j<M then (if j=0 then 0 else pwX M m (i+t) (j - 1)) - m j*pwX M m (i+t) (M - 1) else 0)=_
     rw [if_pos hj,if_pos e]
     grind
    rw [h1]
    grind
   ·rw [if_neg e,<-zfG]
    refine zae fun t _=>?_
    have h1:sig M (fun i=>(a i:Int)*pwX M m (i+t+1) j)=sig M (fun i=>(a i:Int)*pwX M m (i+t) (j - 1)) - m j*sig M fun i=>(a i:Int)*pwX M m (i+t) (M - 1):=by
     rw [<-zc7,<-zfG]
     refine zae fun i _=>?_
     show (a i:Int)*(if j<M then (if j=0 then 0 else pwX M m (i+t) (j - 1)) - m j*pwX M m (i+t) (M - 1) else 0)=_
     rw [if_pos hj,if_neg e]
     grind
    rw [h1]
    grind
  rw [e3]
  have c1:cg P (((if j=0 then 0 else o (j - 1):Nat):Int)) (if j=0 then 0 else sig s fun t=>(b (M - s+t):Int)*sig M fun i=>(a i:Int)*pwX M m (i+t) (j - 1)):=by
   by_cases e:j=0
   ·rw [if_pos e,if_pos e]; exact zat _
   ·rw [if_neg e,if_neg e]; exact ih (j - 1) (by omega)
  have c2:cg P ((((P - o (M - 1))*(if 1<M then m j else 0):Nat):Int)) (- (m j*sig s fun t=>(b (M - s+t):Int)*sig M fun i=>(a i:Int)*pwX M m (i+t) (M - 1))):=by
   by_cases e:1<M
   ·rw [if_pos e]
    have h1:cg P (((P - o (M - 1))*m j:Nat):Int) (- (m j*(o (M - 1):Int))):=⟨m j,by rw [Int.natCast_mul,Int.natCast_sub (Nat.le_of_lt hlt)]; grind⟩
    exact h1.trans ((Go.Proofs.YtgekjfpapmlndaaGreat.cg.mulL _ (ih (M - 1) (by omega))).neg)
   ·rw [if_neg e,Nat.mul_zero]
    obtain rfl:s=0:=by omega
    exact zbZ (by show (0:Int) = -(m j*0); omega)
  rw [Int.natCast_add,Int.natCast_add,Int.natCast_mul (b (M - 1 - s))]
  refine ((c1.add c2).add (zat _)).trans (zbZ ?_)
  omega
theorem zj4 {P M:Nat} {m:Nat->Nat} (hP:0<P) (hM:1<=M) (x y:Nat):valN P (hOut P M m (dig P x) (dig P y) M) M=mulF P M m x y:=by
 refine zbI hP (zbl fun i _=>zeB hP M i) (za0 hP x y) fun j hj=>?_
 have h1:dgt P (valN P (hOut P M m (dig P x) (dig P y) M) M) j=((hOut P M m (dig P x) (dig P y) M j:Nat):Int):=by
  unfold dgt
  rw [za8 (fun i _=>zeB hP M i) j hj]
 rw [h1]
 refine (zjt hP M (Nat.le_refl _) j hj).trans (Go.Proofs.YtgekjfpapmlndaaGreat.cg.trans (zbZ ?_) (zdS hP hM x y hj).symm)
 rw [za4]
 unfold mulI
 refine zae fun t _=>?_
 rw [show M - M+t=t by omega]
 unfold dgt
 congr 1
 exact zae fun i _=>by rw [Nat.add_comm i t]
theorem drewSet {B:Nat} {a w:World} {p:Addr} {v:Value} (h:Below B a (w.setCell p v)):Below B a (w.drew.setCell p v):=⟨h.os,h.tape,h.output,h.size,h.block⟩
theorem ziz {w':World} {g M L:Nat} {t:TypeId} {F:Nat->Value} {cs:Array Value} (h1:cs.size=M) (h2:∀ i,i<M->cs[i]?=some (F i)) (hM:L+1=M) (h:w'.heap[g]?=some (.cells (splice cs.toList 1 ((List.range L).map F)).toArray t (0,0))):w'.rowIs g t M (fun j=>if j=0 then F 0 else F (j - 1)):=by
 have hl:(splice cs.toList 1 ((List.range L).map F)).length=M:=by rw [length_splice _ _ _ (by simp; omega)]; simpa using h1
 refine ⟨_,h,by simpa using hl,fun i hi=>?_⟩
 rw [List.getElem?_toArray]
 unfold splice
 have a:cs.toList.length=M:=by simpa using h1
 show _=some (if i=0 then F 0 else F (i - 1))
 by_cases e:i=0
 ·subst e
  rw [if_pos rfl,List.getElem?_append_left (by rw [List.length_take]; omega),List.getElem?_take_of_lt (by omega),Array.getElem?_toList]
  exact h2 0 hi
 ·rw [if_neg e,List.getElem?_append_right (by rw [List.length_take]; omega),List.length_take,show i - min 1 cs.toList.length=i - 1 by omega,List.getElem?_append_left (by simp; omega)]
  simp [show i - 1<L by omega]
theorem zdg (P M:Nat) (A:Option Addr) (k c:Nat) (m:Nat->Nat) (x y:Nat) (w:World) (hf:FldOk P M) (hm:ModOk w P M A m) (hkM:M=1∨k=M) (hx:x<P ^ M) (hy:y<P ^ M) :
  Calls Tryz.prog 200 #[.agg #[.int .i64 (P:Nat),.int .i64 (M:Nat),.slice A k c],.int .i64 (x:Nat),.int .i64 (y:Nat)] w fun e w'=>e=.returned (.int .i64 (mulF P M m x y:Nat))/\Below w.heap.size w w':=by
 have hq:=hf.2.2.2
 have bn:=hf.1
 have a7:=hf.P_le
 have bq:=hf.2.1
 have bo:=hf.2.2.1
 have ao:1<=P:=by omega
 have u:0<P:=by omega
 have b3:x<=1048576:=by omega
 have b2:y<=1048576:=by omega
 have ap:M<=64:=by omega
 have ax:=hid (zj4 (m:=m) u bq x y)
 have HQ:=hid hq
 clear hq hx hy
 obtain ⟨w1,D,hB,rf⟩:=zaq w (.int .i64 (P:Nat)) (.int .i64 (M:Nat)) (.slice A k c) 24
 have am:=fun W=>zag (P:=Tryz.prog) 22 3 _ 8 Tryz.underlying22 Tryz.infoInt rfl (M:Int) (by omega) (by omega) (by omega) W
 simp only [Int.toNat_natCast] at am
 go_enter Tryz.func200, Tryz.ntmps200
 go_upto_region 1 with fail
 rw [<-D];clear D
 refine wp_region_held_drew (S:=fun w'=>w'.cell? ⟨w.heap.size,0,none⟩=some (.int .i64 (P:Nat))/\w'.cell? ⟨w.heap.size,1,none⟩=some (.int .i64 (M:Nat))) (by kernel_rfl) ⟨cellS (Below.refl _ _).drew (rf.cell (i:=0) (by omega)),cellS (Below.refl _ _).drew (rf.cell (i:=1) (by omega))⟩ (fun hHeld=>?_)
 obtain ⟨w2,hw,kb⟩:=dwx w1
 rw [<-hw] at hHeld ⊢;clear hw;replace rf:=zab rf kb;replace hB:=onS hB kb;clear kb
 refine tkq 0 (h:=tkq 1 (h:=tkq 2 (h:=tkq 3 (h:=tkq 4 (h:=tkq 6 (h:=tkq 7 (h:=tkq 8 (h:=tkq 9 (h:=tkq 10 (h:=?_))))))))))
 refine rdq 5 (h:=fun K hK=>?_)
 go_simp
 go_wp2_with fail
 refine (zdf x P M w2 b3 ao a7 ap).mono ?_
 rintro e w3 ⟨ga,rfl,cj,ra,kb⟩
 replace rf:=zab rf kb;replace hB:=onS hB kb;clear kb
 refine bkq hK ⟨qc0 rf,qc1 rf⟩ (h:=fun hHeld=>?_)
 clear hK K
 refine rdq 11 (h:=fun K hK=>?_)
 have ch:=hB.size
 go_simp
 go_wp2_with fail
 refine (zdf y P M w3 b2 ao a7 ap).mono ?_
 rintro e w4 ⟨gb,rfl,ci,rb,kb⟩
 replace rf:=zab rf kb;replace ra:=zab ra kb;replace hB:=onS hB kb;clear kb
 refine bkq hK ⟨qc0 rf,qc1 rf⟩ (h:=fun hHeld=>?_)
 clear hK K
 refine tkq 12 (h:=tkq 13 (h:=?_))
 refine wpAnyH_done (by kernel_rfl) ?_ _
 clear hHeld
 obtain ⟨wA,ah⟩:=exx w4
 rw [<-ah] at rf hB ra rb ⊢;clear ah
 have q1:=qc1 rf
 go_upto_region 3 with fail
 have row:=World.rowIs_made wA (.int .i64 0) M 3
 have kb:=(Below.refl wA.heap.size wA).alloc (Nat.le_refl _) (Obj.cells (madeCells #[Value.int .i64 0] M) 3)
 obtain ⟨wB,ag⟩:=exx (wA.alloc (Obj.cells (madeCells #[Value.int .i64 0] M) 3))
 obtain ⟨g,hg⟩:=exx wA.heap.size
 rw [<-ag] at kb row ⊢;rw [<-hg] at row ⊢
 have Y:wA.heap.size<=g:=by omega
 have cg:w.heap.size≠g:=by have:=rf.lt; omega
 have G:=hid rf
 have bz:=hid ra
 have bx:=hid rb
 have b1:=hid hB
 clear ag hg q1 am rf ra rb hB
 have q1:wB.cell? ⟨w.heap.size,1,none⟩=some (.int .i64 (M:Nat)):=cellS kb (G.out.cell (i:=1) (by omega))
 have I:(Tryz.prog.info? 3).map (·.size)=some 1:=by
  obtain ⟨i,hi,H⟩:=Option.map_eq_some_iff.1 Tryz.infoInt
  simp only [Prod.mk.injEq] at H
  rw [hi]
  simp [H.2.1]
 have ab:=hid I
 clear I
 obtain ⟨L,hL⟩:=exx (M - 1)
 have br:(M:Int) - 1=(L:Int):=by omega
 have bt:L<M:=by omega
 have bs:(L:Int)<(M:Int):=by omega
 have HL:=hid hL
 clear hL
 have b:=hid (row.congr (g:=fun j=>.int .i64 (hOut P M m (dig P x) (dig P y) 0 j:Nat)) fun _ _=>rfl)
 have C:=hid kb
 clear row
 go_wp2
 clear q1
 go_loopg [10,11,12,13] (M+1) (fun gg iv _ _ _ wx=>∃ s:Nat,iv=.int .i64 ((M:Int) - 1 - (s:Int))/\s<=M/\M+1<=s+gg/\Hid (wx.rowIs g 3 M (fun j=>.int .i64 (hOut P M m (dig P x) (dig P y) s j:Nat)))/\Hid (Below wA.heap.size wA wx))
 case atStart=>exact ⟨0,by rw [<-br]; simp,by omega,by omega,b,C⟩
 clear b C kb
 obtain ⟨s,rfl,hs,b8,b,C⟩:=hrel
 by_cases hlt:s<M
 rotate_left
 ·have bb:¬ ((M:Int) - 1 - (s:Int)) ≥ 0:=by omega
  obtain rfl:s=M:=by omega
  have ai:=rowInts (f:=hOut P s m (dig P x) (dig P y) s) b.out
  have bw:=hid ai
  have c4:Hid (∀ i,i<s->hOut P s m (dig P x) (dig P y) s i<P):=fun i _=>zeB u s i
  have ar:=onS b1.out C.out
  have q0:wr.cell? ⟨w.heap.size,0,none⟩=some (.int .i64 (P:Nat)):=cellS C.out (G.out.cell (i:=0) (by omega))
  clear ai b
  go_wp2_with fail
  refine (zgp P (some ⟨g,0,none⟩) s s _ wr bn a7 bw.out c4 (HQ.out) bo).mono ?_
  rintro e w9 ⟨rfl,kb⟩
  rw [ax.out]
  have bu:=onS ar kb
  clear kb q0 ar
  obtain ⟨V,hV⟩:=exx (mulF P s m x y)
  rw [<-hV]
  have bv:=hid hV
  clear hV ax
  go_wp2
  go_ret
  exact ⟨by rw [bv.out]; rfl,bu⟩
 obtain ⟨i,hi⟩:=exx (M - 1 - s)
 have a5:(M:Int) - 1 - (s:Int)=(i:Int):=by omega
 have bg:i<M:=by omega
 have bf:(i:Int)<(M:Int):=by omega
 have cf:(0:Int)<=(i:Int):=by omega
 rw [a5]
 have HI:=hid hi
 have c6:=hid a5
 clear hi a5
 obtain ⟨gO,bh⟩:=exx gk
 rw [<-bh] at b8
 obtain ⟨o,ho⟩:=exx (hOut P M m (dig P x) (dig P y) s)
 have aj:∀ j,o j<P:=fun j=>by rw [ho]; exact zeB u s j
 have row:=b.out
 rw [<-ho] at row
 have q:hOut P M m (dig P x) (dig P y) (s+1)=hStep P M m (dig P x) (dig P y i) o:=by rw [ho,HI.out]; rfl
 have c0:=hid q
 have av:=hid aj
 clear ho q b aj
 obtain ⟨tp,U⟩:=exx (o L)
 have t0:=row.cell bt
 rw [<-U] at t0
 have b6:tp<P:=by rw [U]; exact av.out L
 have au:=hid U
 clear U
 have c8:IntKind.i64.wrap (L:Int)=(L:Int):=IntWalk.i64_in _ (by omega)
 have co:(0:Int)<=(L:Int):=by omega
 have cn:(L:Int)<=(M:Int):=by omega
 have bp:(1:Int)<=(M:Int):=by omega
 obtain ⟨dp,bi⟩:∃ dp:Option Addr,(if M=1 then some ⟨g,0,none⟩ else some ⟨g,1,none⟩:Option Addr)=dp:=⟨_,rfl⟩
 have c7:Hid (0<L->dp=some ⟨g,1,none⟩):=fun h=>by rw [<-bi,if_neg (by have:=HL.out; omega)]
 have cl:M - 1=L:=HL.out.symm
 have q1:wr.cell? ⟨w.heap.size,1,none⟩=some (.int .i64 (M:Nat)):=cellS C.out (G.out.cell (i:=1) (by omega))
 obtain ⟨w1,D⟩:=exx wr
 rw [<-D] at C row t0 q1 ⊢;clear D
 go_wp2
 refine wp_region_held_drew (S:=fun w'=>w'.cell? ⟨w.heap.size,1,none⟩=some (.int .i64 (M:Nat))) (by kernel_rfl) (cellS (Below.refl _ _).drew (q1)) (fun hHeld=>?_)
 obtain ⟨w2,hw,kb⟩:=dwx w1
 rw [<-hw] at hHeld ⊢;clear hw;replace row:=zab row kb;replace q1:=cellS kb q1
 have ae:=hid (onS C.out kb)
 clear kb
 refine tkq 0 (h:=tkq 1 (h:=tkq 2 (h:=tkq 3 (h:=tkq 4 (h:=tkq 5 (h:=tkq 6 (h:=?_)))))))
 refine rdq 7 (h:=fun K hK=>?_)
 have row2:=row
 obtain ⟨cs,c1,c2,c3⟩:=row
 have aw:Hid (w2.heap[g]?=some (.cells cs.toList.toArray 3 (0,0))):=by show _=_; simpa using c1
 have J:Hid (0<((List.range L).map fun t=>Value.int .i64 (o t:Nat)).length->dp=some ⟨g,1,none⟩/\∃ ad,(some ⟨g,0,none⟩:Option Addr)=some ad/\∀ j v,((List.range L).map fun t=>Value.int .i64 (o t:Nat))[j]?=some v->w2.cell? (ad.add j)=some v):=fun h=>by
  refine ⟨c7.out (by simpa using h),⟨g,0,none⟩,rfl,fun j v hv=>?_⟩
  rw [List.getElem?_map] at hv
  obtain ⟨t,ht,e⟩:=Option.map_eq_some_iff.1 hv
  obtain ⟨h1,h2⟩:=List.getElem?_eq_some_iff.1 ht
  rw [List.getElem_range] at h2
  subst h2 e
  rw [zcK,Nat.zero_add]
  exact row2.cell (by simp at h1; omega)
 have O:Hid (((List.range L).map fun t=>Value.int .i64 (o t:Nat)).length=Nat.min L L):=by show _=_; simp
 have Q:Hid (1+((List.range L).map fun t=>Value.int .i64 (o t:Nat)).length<=cs.toList.length):=by show _<=_; simp; omega
 have N:Hid (∀ v ∈ (List.range L).map fun t=>Value.int .i64 (o t:Nat),v.oneCell'=true):=fun v hv=>by
  obtain ⟨t,_,rfl⟩:=List.mem_map.1 hv
  rfl
 refine step_copy_splice (cur:=cs.toList) (cs:=(List.range L).map fun t=>Value.int .i64 (o t:Nat)) (B:=wA.heap.size) (w0:=wA) (by rfl) (.tmp 43) (.tmp 48) 22 22 (by rfl) 3 Tryz.underlying22 ab.out dp (some ⟨g,0,none⟩) L L L M (by rfl) (by rfl) g 1 3 aw.out O.out J.out Q.out N.out ae.out Y ?_
 intro w3 hg3 hb3
 have row:=ziz (F:=fun t=>.int .i64 (o t:Nat)) c2 (fun i hi=>c3 i hi) (show L+1=M by omega) hg3.out
 clear hg3 row2 c1 c2 c3 aw J O Q N
 have q19:w3.cell? ⟨w.heap.size,1,none⟩=some (.int .i64 (M:Nat)):=cellS hb3 (G.out.cell (i:=1) (by omega))
 clear q1
 have q1:=q19
 clear q19
 refine bkq hK q1 (h:=fun hHeld=>?_)
 clear hK K
 refine wpAnyH_done (by kernel_rfl) ?_ _
 clear hHeld
 obtain ⟨w4,T⟩:=exx w3
 rw [<-T] at row hb3 ⊢;clear T
 have y0:=row.cell (i:=0) (by omega)
 have z0:=row.frozen 0
 have d:=hid ((row.set 0 (.int .i64 0)).congr (g:=fun j=>.int .i64 (if j=0 then 0 else o (j - 1):Nat)) fun j _=>by
  by_cases e:j=0
  ·subst e; rfl
  ·rw [if_neg e,if_neg e,if_neg e])
 have af:=hid (hb3.setCell (p:=⟨g,0,none⟩) Y (.int .i64 0))
 clear row hb3 q1
 have cm:(0:Int)<(M:Int):=by omega
 go_wp2
 clear y0 z0
 obtain ⟨w5,R⟩:=exx (w4.setCell ⟨g,0,none⟩ (.int .i64 0))
 rw [<-R] at d af ⊢;clear R
 have a:=hid (d.out.congr (g:=fun t=>.int .i64 (if t<0 then hStep P M m (dig P x) (dig P y i) o t else if t=0 then 0 else o (t - 1):Nat)) fun _ _=>rfl)
 clear d
 go_loopg [12,13,54] M (fun gg _ _ jv wx=>∃ j:Nat,jv=.int .i64 (j:Nat)/\j<=M/\M<=j+gg/\Hid (wx.rowIs g 3 M (fun t=>.int .i64 (if t<j then hStep P M m (dig P x) (dig P y i) o t else if t=0 then 0 else o (t - 1):Nat)))/\Hid (Below wA.heap.size wA wx))
 case atStart=>exact ⟨0,rfl,by omega,by omega,a,af⟩
 clear a af
 obtain ⟨j,rfl,hj,cd,a,l⟩:=hrel
 by_cases hjl:j<M
 rotate_left
 ·have a4:¬ (j:Int)<(M:Int):=by omega
  obtain rfl:j=M:=by omega
  have a2:=hid (a.out.congr (g:=fun t=>.int .i64 (hOut P j m (dig P x) (dig P y) (s+1) t:Nat)) fun t ht=>by rw [if_pos ht,c0.out])
  clear a
  go_wp2
  go_roundg (gO - 1)
  case measure=>omega
  case rel=>exact ⟨s+1,by have:=c6.out; go_num,by omega,by omega,a2,l⟩
 have a4:(j:Int)<(M:Int):=by omega
 have ce:(0:Int)<=(j:Int):=by omega
 have e0:=a.out.cell hjl
 rw [if_neg (by omega)] at e0
 have z0:=a.out.frozen j
 obtain ⟨v,hv⟩:∃ v,v=if j=0 then 0 else o (j - 1):=⟨_,rfl⟩
 rw [<-hv] at e0
 have ca:v<P:=by
  rw [hv]
  split
  ·exact u
  ·exact av.out _
 have f0:wr.cell? ⟨ga,j,none⟩=some (.int .i64 (dig P x j:Nat)):=cellS l.out (bz.out.cell hjl)
 have f1:wr.cell? ⟨gb,i,none⟩=some (.int .i64 (dig P y i:Nat)):=cellS l.out (bx.out.cell bg)
 obtain ⟨da,a0⟩:=exx (dig P x j)
 obtain ⟨db,Z⟩:=exx (dig P y i)
 rw [<-a0] at f0;rw [<-Z] at f1
 have bk:da<P:=by rw [a0]; exact zce u _ _
 have bj:db<P:=by rw [Z]; exact zce u _ _
 have q0:wr.cell? ⟨w.heap.size,0,none⟩=some (.int .i64 (P:Nat)):=cellS l.out (G.out.cell (i:=0) (by omega))
 have q1:wr.cell? ⟨w.heap.size,1,none⟩=some (.int .i64 (M:Nat)):=cellS l.out (G.out.cell (i:=1) (by omega))
 have q2:wr.cell? ⟨w.heap.size,2,none⟩=some (.slice A k c):=cellS l.out (G.out.cell (i:=2) (by omega))
 have HV:=hid hv
 have az:=hid a0
 have ay:=hid Z
 clear hv a0 Z
 by_cases hM2:1<M
 focus
  have a9:(M:Int) > 1:=by omega
  rcases hm with hm | ⟨ak,al⟩
  ·omega
  obtain rfl:M=k:=(hkM.resolve_left (by omega)).symm
  obtain ⟨mb,mo,hA,bc,f2⟩:=ak.at hjl
  subst hA
  obtain ⟨lo,X⟩:=exx (m j)
  rw [<-X] at f2
  have be:lo<P:=by rw [X]; exact al j hjl
  have c5:=hid X
  have f29:=((onS b1.out l.out).cell (p:=⟨mb,mo+j,none⟩) bc).trans f2
  clear X f2 ak al
  obtain ⟨z,hz⟩:=exx (v+(P - tp)*lo+db*da)
  obtain ⟨r,hr⟩:=exx (z % P)
  have ba:r<P:=by rw [hr]; exact Nat.mod_lt _ u
  have ac:Hid (r=hStep P M m (dig P x) (dig P y i) o j):=by
   show _=_
   rw [hr,hz,HV.out,az.out,ay.out,au.out,HL.out,c5.out]
   unfold hStep
   rw [if_pos hM2]
  obtain ⟨R2,n⟩:=exx (db*da)
  have a6:R2<=256*256:=by rw [n]; exact Nat.mul_le_mul (by omega) (by omega)
  have bd:(db:Int)*(da:Int)=(R2:Int):=by rw [n]; simp
  obtain ⟨D1,aq⟩:=exx (P - tp)
  have aa:D1<=256:=by omega
  have ck:(P:Int) - (tp:Int)=(D1:Int):=by omega
  obtain ⟨R1,a1⟩:=exx (D1*lo)
  have bl:R1<=256*256:=by rw [a1]; exact Nat.mul_le_mul aa (by omega)
  have cc:(D1:Int)*(lo:Int)=(R1:Int):=by rw [a1]; simp
  obtain ⟨S1,an⟩:=exx (v+R1)
  have cb:(v:Int)+(R1:Int)=(S1:Int):=by omega
  have D:IntKind.i64.wrap (D1:Int)=(D1:Int):=IntWalk.i64_in _ (by omega)
  have c9:IntKind.i64.wrap (R1:Int)=(R1:Int):=IntWalk.i64_in _ (by omega)
  have b5:IntKind.i64.wrap (S1:Int)=(S1:Int):=IntWalk.i64_in _ (by omega)
  have H:z=S1+R2:=by rw [hz,an,a1,aq,n]
  have b9:(S1:Int)+(R2:Int)=(z:Int):=by omega
  have T:IntKind.i64.wrap (R2:Int)=(R2:Int):=IntWalk.i64_in _ (by omega)
  have R:IntKind.i64.wrap (z:Int)=(z:Int):=IntWalk.i64_in _ (by omega)
  have b4:IntKind.i64.wrap (r:Int)=(r:Int):=IntWalk.i64_in _ (by omega)
  have E:(z:Int) % (P:Int)=(r:Int):=by rw [hr]; simp
  have a3:(0:Int)<=(z:Int):=by omega
  have a8:¬ (P:Int)=0:=by omega
  have bm:¬ P=0:=by omega
  have b7:(z:Int).tmod (P:Int)=(r:Int):=by rw [Int.tmod_eq_emod_of_nonneg a3,E]
  have a2:=hid ((a.out.set j (.int .i64 (r:Nat))).congr (g:=fun t=>.int .i64 (if t<j+1 then hStep P M m (dig P x) (dig P y i) o t else if t=0 then 0 else o (t - 1):Nat)) fun t _=>by
   by_cases e:t=j
   ·subst e; rw [if_pos rfl,if_pos (by omega),ac.out]
   rw [if_neg e]
   by_cases e2:t<j
   ·rw [if_pos e2,if_pos (show t<j+1 by omega)]
   ·rw [if_neg e2,if_neg (show ¬ t<j+1 by omega)])
  have b0:=hid (l.out.setCell (p:=⟨g,j,none⟩) Y (.int .i64 (r:Nat)))
  clear hz hr n H a l aq a1 an
 rotate_left
 focus
  have a9:¬ (M:Int) > 1:=by omega
  obtain ⟨z,hz⟩:=exx (v+(P - tp)*0+db*da)
  obtain ⟨r,hr⟩:=exx (z % P)
  have ba:r<P:=by rw [hr]; exact Nat.mod_lt _ u
  have ac:Hid (r=hStep P M m (dig P x) (dig P y i) o j):=by
   show _=_
   rw [hr,hz,HV.out,az.out,ay.out,au.out,HL.out]
   unfold hStep
   rw [if_neg (show ¬ 1<M by omega)]
  obtain ⟨R2,n⟩:=exx (db*da)
  have a6:R2<=256*256:=by rw [n]; exact Nat.mul_le_mul (by omega) (by omega)
  have bd:(db:Int)*(da:Int)=(R2:Int):=by rw [n]; simp
  have b5:IntKind.i64.wrap (v:Int)=(v:Int):=IntWalk.i64_in _ (by omega)
  have D:IntKind.i64.wrap ((P:Int) - (tp:Int))=(P:Int) - (tp:Int):=IntWalk.i64_in _ (by omega)
  have H:z=v+R2:=by rw [hz,n,Nat.mul_zero,Nat.add_zero]
  have b9:(v:Int)+(R2:Int)=(z:Int):=by omega
  have T:IntKind.i64.wrap (R2:Int)=(R2:Int):=IntWalk.i64_in _ (by omega)
  have R:IntKind.i64.wrap (z:Int)=(z:Int):=IntWalk.i64_in _ (by omega)
  have b4:IntKind.i64.wrap (r:Int)=(r:Int):=IntWalk.i64_in _ (by omega)
  have E:(z:Int) % (P:Int)=(r:Int):=by rw [hr]; simp
  have a3:(0:Int)<=(z:Int):=by omega
  have a8:¬ (P:Int)=0:=by omega
  have bm:¬ P=0:=by omega
  have b7:(z:Int).tmod (P:Int)=(r:Int):=by rw [Int.tmod_eq_emod_of_nonneg a3,E]
  have a2:=hid ((a.out.set j (.int .i64 (r:Nat))).congr (g:=fun t=>.int .i64 (if t<j+1 then hStep P M m (dig P x) (dig P y i) o t else if t=0 then 0 else o (t - 1):Nat)) fun t _=>by
   by_cases e:t=j
   ·subst e; rw [if_pos rfl,if_pos (by omega),ac.out]
   rw [if_neg e]
   by_cases e2:t<j
   ·rw [if_pos e2,if_pos (show t<j+1 by omega)]
   ·rw [if_neg e2,if_neg (show ¬ t<j+1 by omega)])
  have b0:=hid (l.out.setCell (p:=⟨g,j,none⟩) Y (.int .i64 (r:Nat)))
  clear hz hr n H a l 
 rotate_left
 all_goals
  go_wp2
  go_still_tail 27,(by kernel_rfl)
  change wpList _ _ _ _ _ wr.drew
  go_wp2
  go_roundg (gk - 1)
  case measure=>omega
  case rel=>exact ⟨j+1,by go_num,by omega,by omega,hid (show World.rowIs _ _ _ _ _ from a2.out),hid (drewSet b0.out)⟩
end Go.Proofs.YtgekjfpapmlndaaGreat