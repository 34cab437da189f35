/- Merged texts of a claim: WordsAll, AppCells, NatA, NatB, NatC, RatA, RatB, Rat13, RatC, PolyA, PAddAll, PMulAll, RefEval, PolyC, WtsAll, PatAll, UndAll, DualPl, SeesCode, Cyc, Gf1. -/
import Derived.Test.YtioagplajkoohaaGreatTQ1
import Derived.Test.YtioagplajkoohaaGreatTQ2
import Derived.Test.YtioagplajkoohaaGreatTQ3
import Derived.Test.YtioagplajkoohaaGreatTQ4
import Derived.Test.YtioagplajkoohaaGreatTQ6
import Derived.Deep.QuietTactic
import Derived.BigQuiet
import Derived.Deep.CutBlock
import Derived.Deep.DeepCutAuto
import Derived.Deep.LoopGhost
import Derived.StillTailTactics
import Derived.Deep.RegionHeld3
namespace Go.Proofs.YtioagplajkoohaaGreat
set_option maxRecDepth 100000
set_option maxHeartbeats 32000000
open KA KB KC KE
open Go.RowKit
theorem ziJ {P M:Nat} {m:Nat->Nat} {V:Nat->Nat->Nat} {x:Nat->Nat} (hL:FieldLaws (P ^ M) (addF P M) (mulF P M m)) {i j:Nat} (hx:x i<P ^ M) (y:Nat) (hy:y=spE (addF P M) (mulF P M m) V x i j):atF P M m (x i) (fun _=>y) (V i) j=spE (addF P M) (mulF P M m) V x (i+1) j:=by
 have hyl:y<P ^ M:=by rw [hy]; exact zcL hL x i j
 unfold atF
 show _=addF P M (spE (addF P M) (mulF P M m) V x i j) (mulF P M m (x i) (V i j))
 rw [<-hy]
 split
 ·rename_i h
  rw [h,hL.mulZero hx,hL.addZero hyl]
 ·rfl
theorem ziK {P M:Nat} {m:Nat->Nat} {V:Nat->Nat->Nat} {x:Nat->Nat} (hL:FieldLaws (P ^ M) (addF P M) (mulF P M m)) {i j:Nat} (hx:x i=0) (hV:V i j<P ^ M):spE (addF P M) (mulF P M m) V x (i+1) j=spE (addF P M) (mulF P M m) V x i j:=by
 have h2:=hL.two
 show addF P M (spE (addF P M) (mulF P M m) V x i j) (mulF P M m (x i) (V i j))=_
 rw [hx,hL.mulComm 0 _ (by omega) hV,hL.mulZero hV,hL.addZero (zcL hL x i j)]
theorem zfH (P M:Nat) (A:Option Addr) (k c:Nat) (m:Nat->Nat) (X:Option Addr) (xc:Nat) (x:Nat->Nat) (T:Option Addr) (n d N:Nat) (V:Nat->Nat->Nat) (w:World) (hf:FieldOk P M m) (hm:ModOk w P M A m) (hkM:M=1∨k=M)
  (hx:IntsR w w.heap.size X n (fun i=>(x i:Nat))) (hxq:∀ i,i<n->x i<P ^ M) (h:MRows w T n N V) (hV:∀ i,i<n->∀ j,j<N->V i j<P ^ M) (hN2:N<=1048576) (hn:n<=1048576) :
  Calls Tryz.prog 134 #[.agg #[.int .i64 (P:Nat),.int .i64 (M:Nat),.slice A k c],.slice X n xc,.slice T n d,.int .i64 (N:Nat)] w (RowPost N (fun j=>.int .i64 (spE (addF P M) (mulF P M m) V x n j:Nat)) w):=by
 have hfo:=hf.1
 have hL:=fieldLaws hf
 have HX:=hid hx
 have HXQ:=hid hxq
 have HT:=hid h
 have HV:=hid hV
 clear hx hxq h hV
 have hB:Below w.heap.size w (w.alloc (.cells #[.int .i64 (P:Nat),.int .i64 (M:Nat),.slice A k c] 24)):=(Below.refl _ _).alloc (Nat.le_refl _) _
 have rf:=zad (w:=w) (a:=.int .i64 (P:Nat)) (b:=.int .i64 (M:Nat)) (c:=.slice A k c) (T := 24)
 obtain ⟨w0,hw0⟩:∃ W,W=w.alloc (.cells #[.int .i64 (P:Nat),.int .i64 (M:Nat),.slice A k c] 24):=⟨_,rfl⟩
 rw [<-hw0] at hB rf
 have hmk:=fun W=>zaf (P:=Tryz.prog) 22 3 _ 8 Tryz.underlying22 Tryz.infoInt rfl (N:Int) (by omega) (by omega) (by omega) W
 simp only [Int.toNat_natCast] at hmk
 go_enter Tryz.func134, Tryz.ntmps134
 go_upto_region 1 with fail
 rw [<-hw0];clear hw0
 go_upto_region 2 with fail
 have kb:=(Below.refl w0.heap.size w0).alloc (Nat.le_refl _) (Obj.cells (madeCells #[Value.int .i64 0] N) 3)
 have ra:=World.rowIs_made w0 (.int .i64 0) N 3
 have hfl:=rf.lt
 have hgz:=hB.size
 obtain ⟨w1,hw1⟩:∃ W,W=w0.alloc (Obj.cells (madeCells #[Value.int .i64 0] N) 3):=⟨_,rfl⟩
 obtain ⟨g,hg⟩:∃ b,b=w0.heap.size:=⟨_,rfl⟩
 rw [<-hw1] at kb ra ⊢;rw [<-hg] at ra hfl hgz ⊢;replace rf:=zaa rf kb;replace hB:=onS hB kb
 have HRA:Hid (w1.rowIs g 3 N (fun j=>.int .i64 (spE (addF P M) (mulF P M m) V x 0 j:Nat))):=ra.congr fun t _=>rfl
 clear kb hw1 hg hmk hfl ra
 go_wp2
 go_loopg [9,10] n (fun gg ov iv wx=>∃ i g2:Nat,ov=.slice (some ⟨g2,0,none⟩) N N/\iv=.int .i64 (i:Nat)/\w.heap.size<=g2/\i<=n/\n<=i+gg/\Hid (wx.rowIs g2 3 N (fun j=>.int .i64 (spE (addF P M) (mulF P M m) V x i j:Nat)))/\wx.rowIs w.heap.size 24 3 (fldCell (.int .i64 (P:Nat)) (.int .i64 (M:Nat)) (.slice A k c))/\Below w.heap.size w wx)
 case atStart=>exact ⟨0,g,rfl,rfl,hgz,by omega,by omega,HRA,rf,hB⟩
 case round =>
  clear rf hB HRA
  obtain ⟨i,g2,rfl,rfl,hg2,hi,hig,HRA,rf,hB⟩:=hrel
  have hi0:(0:Int)<=(i:Int):=by omega
  by_cases hlt:i<n
  ·have hlt':(i:Int)<(n:Int):=by omega
   have hd:decide ((i:Int)<(n:Int))=true:=by simpa using hlt
   obtain ⟨xb,xo,hXe,hxb,x0⟩:=HX.out.at hlt
   subst hXe
   replace x0:=(hB.cell (p:=⟨xb,xo+i,none⟩) hxb).trans x0
   obtain ⟨a,ha⟩:∃ a,a=x i:=⟨_,rfl⟩
   rw [<-ha] at x0
   have haq:a<P ^ M:=by rw [ha]; exact HXQ.out i hlt
   have HA:=hid ha
   clear ha
   by_cases ha0:a=0
   ·have ha0':((a:Int) != 0)=false:=by simp [ha0]
    have HRN:=hid (HRA.out.congr (g:=fun j=>.int .i64 (spE (addF P M) (mulF P M m) V x (i+1) j:Nat)) fun j hj=>by rw [ziK hL (by rw [<-HA.out,ha0]) (HV.out i hlt j hj)])
    clear ha0
    go_wp2
    go_roundg (gk - 1)
    case measure=>omega
    case rel=>exact ⟨i+1,g2,rfl,by go_num,hg2,by omega,by omega,HRN,rf,hB⟩
   ·have ha0':((a:Int) != 0)=true:=by simp; omega
    obtain ⟨tb,to0,RA,rc,hTe,htb,t0,_,_,hrow,_⟩:=HT.out i hlt
    subst hTe
    replace t0:=(hB.cell (p:=⟨tb,to0+i,none⟩) htb).trans t0
    have hrow1:=hrow.on hB
    have hra:=rowInts (w:=wr) (n:=N) (f:=fun j=>spE (addF P M) (mulF P M m) V x i j) HRA.out
    clear hrow ha0
    have q0:=qc0 rf
    have q1:=qc1 rf
    have q2:=qc2 rf
    obtain ⟨w1,hw1⟩:∃ X,X=wr:=⟨_,rfl⟩
    rw [<-hw1] at hB rf x0 t0 q0 q1 q2 hrow1 hra ⊢;clear hw1 HRA
    go_wp2
    refine wp_region_held_drew (S:=fun w'=>w'.cell? ⟨w.heap.size,0,none⟩=some (.int .i64 (P:Nat))/\w'.cell? ⟨w.heap.size,1,none⟩=some (.int .i64 (M:Nat))/\w'.cell? ⟨w.heap.size,2,none⟩=some (.slice A k c)/\w'.cell? ⟨xb,xo+i,none⟩=some (.int .i64 (a:Nat))/\w'.cell? ⟨tb,to0+i,none⟩=some (.slice RA N rc)) (by kernel_rfl) ⟨cellS (Below.refl _ _).drew q0,cellS (Below.refl _ _).drew q1,cellS (Below.refl _ _).drew q2,cellS (Below.refl _ _).drew x0,cellS (Below.refl _ _).drew t0⟩ (fun hHeld=>?_)
    obtain ⟨w2,hw⟩:∃ W,W=World.drew w1:=⟨_,rfl⟩
    have kb:Below w1.heap.size w1 w2:=by rw [hw]; exact (Below.refl _ _).drew
    rw [<-hw] at hHeld ⊢;clear hw;replace rf:=zaa rf kb;replace hB:=onS hB kb;replace x0:=cellS kb x0;replace t0:=cellS kb t0;replace q0:=cellS kb q0;replace q1:=cellS kb q1;replace q2:=cellS kb q2;replace hrow1:=hrow1.on kb;replace hra:=hra.on kb;clear kb
    refine tkq 0 (h:=tkq 1 (h:=tkq 2 (h:=tkq 3 (h:=tkq 4 (h:=tkq 5 (h:=tkq 6 (h:=tkq 7 (h:=tkq 8 (h:=tkq 9 (h:=?_))))))))))
    refine rdq 10 (h:=fun K hK=>?_)
    go_simp
    go_wp2_with fail
    have HGW:=hid hB.size
    refine (zb0 P M A k c m a (some ⟨g2,0,none⟩) RA N N N rc (fun j=>spE (addF P M) (mulF P M m) V x i j) (V i) w2 hfo (zav hm hB) hkM haq hra (fun j _=>zcL hL x i j) hrow1 (HV.out i hlt) (Nat.le_refl _) hN2).mono ?_
    rintro e w3 ⟨g3,rfl,hg3,hr3,kb⟩
    replace rf:=zaa rf kb;replace hB:=onS hB kb;replace x0:=cellS kb x0;replace t0:=cellS kb t0;replace q0:=cellS kb q0;replace q1:=cellS kb q1;replace q2:=cellS kb q2;replace hrow1:=hrow1.on kb;replace hra:=hra.on kb;clear kb
    have HRN:=hid hr3
    have HG3:=hid hg3
    clear hr3 hg3
    refine bkq hK ⟨q0,q1,q2,x0,t0⟩ (h:=fun hHeld=>?_)
    clear hK K
    refine tkq 11 (h:=?_)
    refine wpAnyH_done (by kernel_rfl) ?_ _
    clear hHeld
    have HRM:=hid (HRN.out.congr (g:=fun j=>.int .i64 (spE (addF P M) (mulF P M m) V x (i+1) j:Nat)) fun j _=>by rw [HA.out]; exact congrArg (fun z:Nat=>Value.int .i64 (z:Int)) (ziJ (V:=V) (j:=j) hL (HXQ.out i hlt) _ rfl))
    have hg9:w.heap.size<=g3:=Nat.le_trans HGW.out HG3.out
    clear q0 q1 q2 x0 t0 hrow1 hra HRN HG3
    go_wp2
    go_roundg (gk - 1)
    case measure=>omega
    case rel=>exact ⟨i+1,g3,rfl,by go_num,hg9,by omega,by omega,HRM,rf,hB⟩
  ·have hlt':¬ (i:Int)<(n:Int):=by omega
   have hd:decide ((i:Int)<(n:Int))=false:=by simp; omega
   obtain rfl:i=n:=by omega
   go_wp2
   go_ret
   exact ⟨g2,rfl,hg2,HRA.out,hB⟩
def msgD (q n x t:Nat):Nat:=dig q x (n - 1 - t)
theorem zeb {q n x t:Nat} (hq:0<q):msgD q n x t<q:=zbT hq x _
theorem ziL (x P M:Nat) (m:Nat->Nat) (A:Option Addr) (k c N:Nat) (T:Option Addr) (n d:Nat) (V:Nat->Nat->Nat) (w:World) (h:CodeR w P M m A k N T n V) (hx:x<=1048576) :
  Calls Tryz.prog 72 #[.agg #[.int .i64 (P:Nat),.int .i64 (M:Nat),.slice A k c,.int .i64 (N:Nat),.slice T n d],.int .i64 (x:Nat)] w (RowPost N (fun j=>.int .i64 (spE (addF P M) (mulF P M m) V (msgD (P ^ M) n x) n j:Nat)) w):=by
 have HC:=hid h
 have hn:=h.n_le
 have hN:=h.ln2
 have hN1:=h.ln1
 have hL:=fieldLaws h.fld
 have hfo:=h.fld.1
 have HORD:=hid (zbS hfo)
 have hq256:=hfo.2.2.2
 have hq2:=hL.two
 clear h
 have rf:=zam (w:=w) (a:=.int .i64 (P:Nat)) (b:=.int .i64 (M:Nat)) (c:=.slice A k c) (d:=.int .i64 (N:Nat)) (e:=.slice T n d) (T := 27)
 have hB:Below w.heap.size w (w.alloc (.cells #[.int .i64 (P:Nat),.int .i64 (M:Nat),.slice A k c,.int .i64 (N:Nat),.slice T n d] 27)):=(Below.refl _ _).alloc (Nat.le_refl _) _
 obtain ⟨w1,hw1⟩:∃ W,W=w.alloc (.cells #[.int .i64 (P:Nat),.int .i64 (M:Nat),.slice A k c,.int .i64 (N:Nat),.slice T n d] 27):=⟨_,rfl⟩
 rw [<-hw1] at hB rf
 have hmk:=fun W=>zaf (P:=Tryz.prog) 22 3 _ 8 Tryz.underlying22 Tryz.infoInt rfl (n:Int) (by omega) (by omega) (by omega) W
 simp only [Int.toNat_natCast] at hmk
 go_enter Tryz.func72, Tryz.ntmps72
 go_upto_region 1 with fail
 rw [<-hw1];clear hw1
 have q0:=qc0 rf
 have q1:=qc1 rf
 have q2:=qc2 rf
 go_wp2_with fail
 refine (zbB (P:Int) (M:Int) A k c w1).mono ?_
 rintro e w2 ⟨rfl,kb⟩
 rw [HORD.out];replace rf:=zaa rf kb;replace hB:=onS hB kb;clear kb q0 q1 q2
 obtain ⟨q,hQ⟩:∃ Q,Q=P ^ M:=⟨_,rfl⟩
 rw [<-hQ]
 have HQ:=hid hQ
 rw [<-hQ] at hq2 hq256;clear hQ
 have q4:=qc4 rf
 go_upto_region 3 with fail
 have row:=World.rowIs_made w2 (.int .i64 0) n 3
 have kb:=(Below.refl w2.heap.size w2).alloc (Nat.le_refl _) (Obj.cells (madeCells #[Value.int .i64 0] n) 3)
 obtain ⟨w3,hw3⟩:∃ W,W=w2.alloc (Obj.cells (madeCells #[Value.int .i64 0] n) 3):=⟨_,rfl⟩
 obtain ⟨g,hg⟩:∃ b,b=w2.heap.size:=⟨_,rfl⟩
 rw [<-hw3] at kb row ⊢;rw [<-hg] at row ⊢
 have hgB:w2.heap.size<=g:=by omega
 have HRF:=hid rf
 have HB2:=hid hB
 clear hw3 hg q4 hmk rf hB
 have hp1:(1:Int)<=(q:Int):=by omega
 have hp0:¬ (q:Int)=0:=by omega
 have hpm:(q:Int)<=256:=by omega
 go_wp2
 go_loopg [1,7] (n+1) (fun gg xv iv wx=>∃ j:Nat,iv=.int .i64 ((n:Int) - 1 - (j:Int))/\xv=.int .i64 (x / q ^ j:Nat)/\j<=n/\n+1<=j+gg/\wx.rowIs g 3 n (fun t=>.int .i64 (if n - 1 - t<j then (msgD q n x t:Nat) else 0:Int))/\Below w2.heap.size w2 wx)
 case atStart=>exact ⟨0,by simp,by simp,by omega,by omega,row.congr fun i _=>rfl,kb⟩
 case round =>
  clear row kb
  obtain ⟨j,rfl,rfl,hj,hjg,row,kb⟩:=hrel
  have hle:x / q ^ j<=x:=Nat.div_le_self _ _
  have hst:x / q ^ (j+1)=x / q ^ j / q:=by rw [Nat.pow_succ,Nat.div_div_eq_div_mul]
  have hdg:dig q x j=x / q ^ j % q:=rfl
  obtain ⟨y,hy⟩:∃ y,y=x / q ^ j:=⟨_,rfl⟩
  rw [<-hy] at hle hst hdg;rw [<-hy]
  have HST:=hid hst
  have HDG:=hid hdg
  clear hy hst hdg
  by_cases hlt:j<n
  ·obtain ⟨i,hi⟩:∃ i,i=n - 1 - j:=⟨_,rfl⟩
   have hie:(n:Int) - 1 - (j:Int)=(i:Int):=by omega
   have hin:i<n:=by omega
   have hin':(i:Int)<(n:Int):=by omega
   have hi0:(0:Int)<=(i:Int):=by omega
   rw [hie]
   have HI:=hid hi
   have HIE:=hid hie
   clear hi hie
   have hy0:(0:Int)<=(y:Int):=by omega
   have hy1:(y:Int)<=1048576:=by omega
   have hmod:(y:Int) % (q:Int)=((y % q:Nat):Int):=by simp
   have hdiv:(y:Int) / (q:Int)=((y / q:Nat):Int):=by simp
   obtain ⟨r,hr⟩:∃ r,r=y % q:=⟨_,rfl⟩
   obtain ⟨z,hz⟩:∃ r,r=y / q:=⟨_,rfl⟩
   rw [<-hr] at hmod;rw [<-hz] at hdiv
   have hz0:(0:Int)<=(z:Int):=by omega
   have hz1:(z:Int)<=1048576:=by have:y / q<=y:=Nat.div_le_self _ _; omega
   have HR:=hid hr
   have HZ:=hid hz
   clear hr hz
   have c0:=row.cell hin
   have z0:=row.frozen i
   have HROW2:Hid ((wr.setCell ⟨g,i,none⟩ (.int .i64 (r:Int))).rowIs g 3 n (fun t=>.int .i64 (if n - 1 - t<j+1 then (msgD q n x t:Nat) else 0:Int))):=(row.set i _).congr fun t ht=>by
    have:=HI.out
    by_cases e:t=i
    ·subst e
     rw [if_pos rfl,if_pos (by omega)]
     unfold msgD
     rw [show n - 1 - t=j by omega,HDG.out,HR.out]
    ·rw [if_neg e]
     by_cases e2:n - 1 - t<j
     ·rw [if_pos e2,if_pos (by omega)]
     ·rw [if_neg e2,if_neg (by omega)]
   have HKB:=hid (kb.setCell (p:=⟨g,i,none⟩) hgB (.int .i64 (r:Int)))
   clear row kb
   go_wp2
   go_roundg (gk - 1)
   case measure=>omega
   case rel=>exact ⟨j+1,by have:=HIE.out; show Value.int .i64 ((i:Int) - 1)=_; rw [<-this]; go_num,by rw [HST.out,HZ.out],by omega,by omega,HROW2.out,HKB.out⟩
  ·obtain rfl:j=n:=by omega
   have hneg:¬ ((j:Int) - 1 - (j:Int)) ≥ 0:=by omega
   have hrow:IntsR wr wr.heap.size (some ⟨g,0,none⟩) j (fun t=>((msgD q j x t:Nat):Int)):=rowInts (row.congr fun t ht=>by rw [if_pos (by omega)])
   have hB:=onS HB2.out kb
   have rf:=zaa HRF.out kb
   have q0:=qc0 rf
   have q1:=qc1 rf
   have q2:=qc2 rf
   have q3:=qc3 rf
   have q4:=qc4 rf
   have HRW:=hid hrow
   have h1:=HC.out.on hB
   have HQL:Hid (∀ i,i<j->msgD q j x i<P ^ M):=fun i _=>by rw [<-HQ.out]; exact zeb (by omega)
   clear row kb hrow
   go_wp2_with fail
   refine (zfH P M A k c m (some ⟨g,0,none⟩) j (msgD q j x) T j d N V wr h1.fld h1.mod h1.km HRW.out HQL.out h1.rows h1.lt (by omega) (by omega)).mono ?_
   rintro e w5 ⟨g5,rfl,hg5,hr5,kb⟩
   have hg9:w.heap.size<=g5:=Nat.le_trans hB.size hg5
   have hB9:=onS hB kb
   have HR5:=hid hr5
   clear hr5 kb hB rf q0 q1 q2 q3 q4 h1 hg5
   go_wp2
   go_ret
   exact ⟨g5,rfl,hg9,by rw [<-HQ.out]; exact HR5.out,hB9⟩
def Words12Post (q:Nat) (add mul:Nat->Nat->Nat) (n N:Nat) (V:Nat->Nat->Nat) (w:World) (e:Ending) (w':World):Prop :=
 ∃ lv,e=.returned (.tuple #[lv,.int .i64 0])/\MTab w' w.heap.size lv (q ^ n) N (fun i=>spE add mul V (msgD q n i) n)/\Below w.heap.size w w'
theorem zfI (P M:Nat) (m:Nat->Nat) (A:Option Addr) (k c N:Nat) (T:Option Addr) (n d:Nat) (V:Nat->Nat->Nat) (w:World) (h:CodeR w P M m A k N T n V) (hsz:(P ^ M) ^ n<=65536) :
  Calls Tryz.prog 16 #[.agg #[.int .i64 (P:Nat),.int .i64 (M:Nat),.slice A k c,.int .i64 (N:Nat),.slice T n d]] w (Words12Post (P ^ M) (addF P M) (mulF P M m) n N V w):=by
 have HC:=hid h
 have hN:=h.ln2
 clear h
 have rf:=zam (w:=w) (a:=.int .i64 (P:Nat)) (b:=.int .i64 (M:Nat)) (c:=.slice A k c) (d:=.int .i64 (N:Nat)) (e:=.slice T n d) (T := 27)
 have hB:Below w.heap.size w (w.alloc (.cells #[.int .i64 (P:Nat),.int .i64 (M:Nat),.slice A k c,.int .i64 (N:Nat),.slice T n d] 27)):=(Below.refl _ _).alloc (Nat.le_refl _) _
 obtain ⟨w1,hw1⟩:∃ W,W=w.alloc (.cells #[.int .i64 (P:Nat),.int .i64 (M:Nat),.slice A k c,.int .i64 (N:Nat),.slice T n d] 27):=⟨_,rfl⟩
 rw [<-hw1] at hB rf
 go_enter Tryz.func16, Tryz.ntmps16
 go_upto_region 1 with fail
 rw [<-hw1];clear hw1
 have q0:=qc0 rf
 have q1:=qc1 rf
 have q2:=qc2 rf
 have q3:=qc3 rf
 have q4:=qc4 rf
 go_wp2_with fail
 have h1:=HC.out.on hB
 refine (zea (P:Int) (M:Int) A k c _ (N:Int) T n d _ _ w1 h1.ints h1.rows).mono ?_
 rintro e w2 ⟨v,u,rfl,hu,hv1,hv2,kb⟩
 have hu0:u=0:=FirstErr.unique hu (FirstErr.app_all HC.out.errs (.inr ⟨by rw [Int.toNat_natCast,Int.toNat_natCast]; exact hsz,rfl⟩) (by simp [CodeErrs]))
 have hv:=hv1 hu0
 rw [Int.toNat_natCast,Int.toNat_natCast] at hv
 subst hu0
 obtain ⟨S,hS⟩:∃ S,S=(P ^ M) ^ n:=⟨_,rfl⟩
 rw [<-hS] at hv hsz
 subst hv
 have HSS:=hid hS
 replace rf:=zaa rf kb;replace hB:=onS hB kb;clear kb q0 q1 q2 q3 q4 hu hv1 hv2 h1 hS
 have H0:=hid (MTab.nil w2 w.heap.size N (fun i=>spE (addF P M) (mulF P M m) V (msgD (P ^ M) n i) n))
 go_wp2
 obtain ⟨nv,hnv⟩:∃ x:Value,x=.slice none 0 0:=⟨_,rfl⟩
 rw [<-hnv] at H0 ⊢;clear hnv
 go_loopg [6,7] S (fun gg ov iv wx=>∃ i:Nat,iv=.int .i64 (i:Nat)/\i<=S/\S<=i+gg/\Hid (MTab wx w.heap.size ov i N (fun i=>spE (addF P M) (mulF P M m) V (msgD (P ^ M) n i) n))/\wx.rowIs w.heap.size 27 5 (codCell (.int .i64 (P:Nat)) (.int .i64 (M:Nat)) (.slice A k c) (.int .i64 (N:Nat)) (.slice T n d))/\Below w.heap.size w wx)
 case atStart=>exact ⟨0,rfl,by omega,by omega,H0,rf,hB⟩
 case round =>
  clear H0 rf hB
  obtain ⟨i,rfl,hi,hig,HM,rf,hB⟩:=hrel
  have hi0:(0:Int)<=(i:Int):=by omega
  by_cases hlt:i<S
  ·have hlt':(i:Int)<(S:Int):=by omega
   have q0:=qc0 rf
   have q1:=qc1 rf
   have q2:=qc2 rf
   have q3:=qc3 rf
   have q4:=qc4 rf
   have h1:=HC.out.on hB
   have hub:∀ q,u6.ownBlock=some q->w.heap.size<=q:=fun q e=>(HM.out.choose_spec.1.lt q e).1
   have HUB:=hid hub
   clear hub
   go_wp2_with fail
   refine (ziL i P M m A k c N T n d V wr h1 (by omega)).mono ?_
   rintro e w3 ⟨g,rfl,hg,hr,kb⟩
   have hr2:=zau hr (show w.heap.size<=g by have:=hB.size; omega) (show N<=maxLen by unfold maxLen; omega)
   have kb2:=(Below.refl w3.heap.size w3).alloc (Nat.le_refl _) (Obj.cells #[Value.slice (some ⟨g,0,none⟩) N N] 22)
   have HX8:=hid (hr2.on kb2)
   have HO8:=hid ((HM.out.on kb).on kb2)
   have HB8:=hid (onS (onS hB kb) kb2)
   have HRF8:=hid (zaa (zaa rf kb) kb2)
   have HC8:Hid ((w3.alloc (Obj.cells #[Value.slice (some ⟨g,0,none⟩) N N] 22)).cell? ((⟨w3.heap.size,0,none⟩:Addr).add 0)=some (.slice (some ⟨g,0,none⟩) N N)):=tbox2
   have HZ8:=hid HB8.out.size
   have HIL:Hid (i<=1048576):=by show _<=_; omega
   clear hr hr2 kb kb2 hg q0 q1 q2 q3 q4 rf hB h1
   go_wp2_with (first | (at_builtin; (refine zaz rfl (.tmp 21) (.tmp 25) rfl HO8.out rfl (ad:=⟨w3.heap.size,0,none⟩) (c:=1) rfl HC8.out rfl HX8.out HZ8.out HIL.out ?_); intro v9 w9 o1 o2 o3))
   have HM9:=hid (o1.congr (W':=fun i=>spE (addF P M) (mulF P M m) V (msgD (P ^ M) n i) n) fun u hu j _=>by
    by_cases e:u=i
    ·subst e; rw [if_pos rfl]
    ·rw [if_neg e])
   have HB9:=hid (HB8.out.grown o2 HZ8.out o3)
   have HRF9:=hid (HRF8.out.of_block (o2.block _ HRF8.out.lt fun e=>absurd (zar HRF8.out HO8.out.choose_spec.1 (by decide)) (by rw [<-e]; simp)))
   clear o1 o2 o3
   go_wp2
   go_roundg (gk - 1)
   case measure=>omega
   case rel=>exact ⟨i+1,by go_num,by omega,by omega,HM9,HRF9.out,HB9.out⟩
  ·have hlt':¬ (i:Int)<(S:Int):=by omega
   obtain rfl:i=S:=by omega
   go_wp2
   go_ret2
   exact ⟨_,rfl,by rw [<-HSS.out]; exact HM.out,hB⟩
def NoInt (w:World) (b:Nat):Prop:=∀ j n,w.cell? ⟨b,j,none⟩≠some (.int .u32 n)
theorem ziM {w:World} {g:Nat} {c:Array Value} {e:TypeId} {fr:Nat × Nat} (hg:w.heap[g]?=some (.cells c e fr)) (h:∀ u ∈ c.toList,∀ n,u≠.int .u32 n):NoInt w g:=fun j n hj=>by
 rw [cell_of_row w g j c e fr hg] at hj
 exact h _ (by rw [Array.mem_toList_iff]; exact Array.mem_of_getElem? hj) n rfl
theorem zeL {w:World} {g:Nat} {c:Array Value} {e:TypeId} {fr:Nat × Nat} (hg:w.heap[g]?=some (.cells c e fr)) (h:NoInt w g):∀ u ∈ c.toList,∀ n,u≠.int .u32 n:=fun u hu n e'=>by
 rw [Array.mem_toList_iff] at hu
 obtain ⟨j,hj,e2⟩:=Array.getElem_of_mem hu
 exact h j n (by rw [cell_of_row w g j c _ fr hg,Array.getElem?_eq_getElem hj,e2,e'])
theorem zdd {w w':World} {B n:Nat} {A:Option Addr} {f:Nat->Nat} {row:Option Nat} (h:Lims w B A n f) (hB:B<=w.heap.size) (hg:w.grownBy w' row) (hni:∀ g,row=some g->NoInt w g):Lims w' B A n f:=fun k hk=>by
 obtain ⟨b',o',e,h1,h2⟩:=h k hk
 refine ⟨b',o',e,h1,fun j hj=>?_⟩
 have hc:=h2 j hj
 rw [<-hc]
 have hne:row≠some b':=fun e=>hni b' e _ _ hc
 have:=hg.block b' (by omega) (fun e=>hne e.symm)
 simp only [World.cell?,this]
theorem zec {z:Array Value} {n:Nat} {u:Value} (h:u ∈ (Builtin.zeroCells z n).toList):u ∈ z.toList:=by
 simp only [Builtin.zeroCells,Array.toList_map,List.mem_map,Array.toList_range,List.mem_range] at h
 obtain ⟨k,hk,rfl⟩:=h
 have h0:0<z.size:=Nat.pos_of_ne_zero fun e=>by rw [e] at hk; simp at hk
 have h1:k % z.size<z.size:=Nat.mod_lt _ h0
 rw [getElem!_pos z _ h1]
 exact Array.getElem_mem_toList h1
section
variable {P:Program} (w:World)
theorem zcN (Pv:Value->Prop) (base:Nat) (t ty e:TypeId) (i:TypeInfo) (z:Value) (s bytes:Nat) (ht:P.underlying t=some (.slice e)) (hi:P.info? e=some i) (hz:i.zero=some z)
  (hsize:i.size=s) (hby:i.bytes=bytes) (hs:0<s)
  (v:Value) (n:Nat) (f:Nat->Nat->Value) (hown:Own w base e s v n f)
  (a:Addr) (c:Nat) (hnews:∀ j,j<s->w.cell? (a.add j)=some (f n j)) (h1:∀ j,j<s->(f n j).oneCell'=true)
  (h63:n+1<=maxLen) (hbytes:(n+1)*bytes<=140737488355328)
  (hPz:∀ u ∈ z.cells.toList,Pv u) (hPf:∀ k j,k<=n->j<s->Pv (f k j)) (hPv:∀ g c e fr,v.ownBlock=some g->w.heap[g]?=some (.cells c e fr)->∀ u ∈ c.toList,Pv u) :
  ∃ v' w',(Builtin.append_ #[t,t] ty #[v,.slice (some a) 1 c]).run P w=.ok v' w'/\∀ g,v'.ownBlock=some g->∃ c e fr,w'.heap[g]?=some (.cells c e fr)/\∀ u ∈ c.toList,Pv u:=by
 subst hsize
 subst hby
 have hsmall:n+1<=9223372036854775807:=by simp only [maxLen] at h63; omega
 have hnews':∀ j u,(elem i.size (f n))[j]?=some u->w.cell? (a.add j)=some u:=fun j u hu=>by
  have hj:j<i.size:=by have:=(List.getElem?_eq_some_iff.1 hu).1; rwa [zao] at this
  rw [zdl hj] at hu
  injection hu with hu
  subst hu
  exact hnews j hj
 have h1':∀ u ∈ elem i.size (f n),u.oneCell'=true:=fun u hu=>by
  obtain ⟨j,hj,rfl⟩:=List.mem_map.1 hu
  exact h1 j (List.mem_range.1 hj)
 have hPe:∀ u ∈ elem i.size (f n),Pv u:=fun u hu=>by
  obtain ⟨j,hj,rfl⟩:=List.mem_map.1 hu
  exact hPf n j (Nat.le_refl _) (List.mem_range.1 hj)
 have hPo:∀ u ∈ flat i.size f n,Pv u:=fun u hu=>by
  obtain ⟨j,hj,rfl⟩:=List.mem_map.1 hu
  have hj:=List.mem_range.1 hj
  exact hPf _ _ (Nat.le_of_lt (Nat.div_lt_of_lt_mul (by rw [Nat.mul_comm]; exact hj))) (Nat.mod_lt _ hs)
 have hsrc:=Src.ofSlice (P:=P) w (size:=i.size) (e':=e) ht a 1 c (elem i.size (f n)) (by rw [zao]; omega) hnews' h1'
 have grown:∀ (A:Option Addr) (cap:Nat),cap<n+1->(Builtin.firstCells i.size n (.slice A n cap)).run P w.drew=.ok (flat i.size f n).toArray w.drew ->
   ∃ v' w',(Builtin.append_ #[t,t] ty #[.slice A n cap,.slice (some a) 1 c]).run P w=.ok v' w'/\∀ g,v'.ownBlock=some g->∃ c e fr,w'.heap[g]?=some (.cells c e fr)/\∀ u ∈ c.toList,Pv u:=by
  intro A cap hcap hold
  have hrun:=run_append_grow_src (P:=P) w t t ty e i z ht hi hz A n cap (flat i.size f n) hold (.slice (some a) 1 c) 1 (elem i.size (f n)) hsrc hcap (by omega) (growslice_fits hcap hbytes)
  refine ⟨_,_,hrun,fun g hg=>?_⟩
  simp [Value.ownBlock] at hg
  subst hg
  refine ⟨_,e,_,heap_alloc_new w.drew _,fun u hu=>?_⟩
  simp only [Array.toList_append,List.mem_append] at hu
  rcases hu with (hu | hu) | hu
  ·exact hPo u hu
  ·exact hPe u hu
  ·exact hPz u (zec hu)
 rcases hown with ⟨rfl,rfl⟩ | ⟨g,o,cap,cur,rfl,hb,hg,hnc,hcm,hfit,hcur⟩
 ·exact grown none 0 (by omega) (by simp [Builtin.firstCells,flat])
 ·by_cases hroom:n+1<=cap
  ·have hsz:o+n*i.size+(elem i.size (f n)).length<=cur.size:=by
    rw [zao]
    have:(n+1)*i.size<=cap*i.size:=Nat.mul_le_mul_right i.size hroom
    rw [Nat.add_mul] at this; omega
   have hrun:=zba (P:=P) w t ty e i ht hi g o n cap cur hg a c (elem i.size (f n)) (zao _ _) hnews' h1' hroom hsz
   refine ⟨_,_,hrun,fun g' hg'=>?_⟩
   simp [Value.ownBlock] at hg'
   subst hg'
   refine ⟨_,e,_,zbu hg,fun u hu=>?_⟩
   have hold:=hPv g cur e _ rfl hg
   simp only [List.mem_append] at hu
   rcases hu with (hu | hu) | hu
   ·exact hold u (List.mem_of_mem_take hu)
   ·exact hPe u hu
   ·exact hold u (List.mem_of_mem_drop hu)
  ·have hcap:cap=n:=by omega
   subst hcap
   have hold:(Builtin.firstCells i.size cap (.slice (some ⟨g,o,none⟩) cap cap)).run P w.drew=.ok (flat i.size f cap).toArray w.drew:=by
    refine run_firstCells_some (P:=P) w.drew i.size cap ⟨g,o,none⟩ cap cap (flat i.size f cap) (zat _ _ _) fun j u hu=>?_
    have hj:j<cap*i.size:=by have:=(List.getElem?_eq_some_iff.1 hu).1; rwa [zat] at this
    have e1:j / i.size<cap:=Nat.div_lt_of_lt_mul (by rw [Nat.mul_comm]; exact hj)
    have e2:j % i.size<i.size:=Nat.mod_lt _ hs
    have e3:j / i.size*i.size+j % i.size=j:=Nat.div_add_mod' j i.size
    have:=zcz (f:=f) hs e1 e2
    rw [e3,hu] at this
    injection this with this
    subst this
    have:=hcur _ e1 _ e2
    have hadd:(⟨g,o,none⟩:Addr).add j=⟨g,o+j,none⟩:=by unfold Addr.add; split <;> simp_all
    rw [hadd]
    show w.cell? ⟨g,o+j,none⟩=_
    rw [cell_of_row w g _ cur e (0,0) hg,<-this]
    congr 1; omega
   exact grown (some ⟨g,o,none⟩) cap (by omega) hold
end
def NatOwn (w:World) (base:Nat) (v:Value) (k:Nat) (x:Nat->Nat):Prop :=
 ∃ f:Nat->Nat->Value,Own w base 47 1 v k f/\(∀ g,v.ownBlock=some g->NoInt w g)/\∀ i,i<k->∃ A c,f i 0=.slice A (dl (x i)) c/\NatOk w w.heap.size A (x i)/\dl (x i)<=c/\c<=maxLen
theorem NatOwn.nil (w:World) (base:Nat) (x:Nat->Nat):NatOwn w base (.slice none 0 0) 0 x:=⟨fun _ _=>undef,.inl ⟨rfl,rfl⟩,fun g h=>by simp [Value.ownBlock] at h,fun i hi=>by omega⟩
theorem NatOwn.on {w w':World} {base k:Nat} {v:Value} {x:Nat->Nat} (h:NatOwn w base v k x) (hb:Below w.heap.size w w'):NatOwn w' base v k x:=by
 obtain ⟨f,h1,h2,h3⟩:=h
 refine ⟨f,h1.on hb,fun g hg j n hj=>?_,fun i hi=>?_⟩
 ·have hlt:=(h1.lt g hg).2
  exact h2 g hg j n (by rw [<-hb.cell (p:=⟨g,j,none⟩) hlt]; exact hj)
 ·obtain ⟨A,c,e0,n1,h4⟩:=h3 i hi
  exact ⟨A,c,e0,n1.on hb,h4⟩
theorem NatOwn.tab {w:World} {base k:Nat} {v:Value} {x:Nat->Nat} (h:NatOwn w base v k x):∃ A c,v=.slice A k c/\k<=c/\c<=maxLen/\NatTab w w.heap.size A k x:=by
 obtain ⟨f,h1,_,h3⟩:=h
 obtain ⟨A,c,rfl⟩:=h1.shape
 have hc:k<=c/\c<=maxLen:=by
  rcases h1 with ⟨e1,e2⟩ | ⟨g1,o1,cap,cur,e1,_,_,h3,h4,_⟩
  ·injection e1 with _ _ e3; subst e3; exact ⟨by omega,by unfold maxLen; omega⟩
  ·injection e1 with _ _ e3; subst e3; exact ⟨h3,h4⟩
 refine ⟨A,c,rfl,hc.1,hc.2,fun i hi=>?_⟩
 obtain ⟨b,off,e,hb,hcell⟩:=h1.rd rfl i hi
 obtain ⟨B,d,e0,n1,n2,n3⟩:=h3 i hi
 have hc0:=hcell 0 (by omega)
 rw [Nat.mul_one,Nat.add_zero,e0] at hc0
 exact ⟨b,off,B,d,e,hb,hc0,n2,n3,n1⟩
theorem Tryz.infoNat:(Tryz.prog.info? 47).map (fun i=>(i.zero,i.size,i.bytes))=some (some (.slice none 0 0),1,24):=by kernel_rfl
theorem zdC (w:World) (ty:TypeId) (base:Nat) (v:Value) (k:Nat) (x:Nat->Nat) (h:NatOwn w base v k x) (hbase:base<=w.heap.size) (hk:k<=1048576)
  (b c:Nat) (A:Option Addr) (d:Nat) (y:Nat) (hr:x k=y)
  (c0:w.cell? ⟨b,0,none⟩=some (.slice A (dl y) d)) (m1:NatOk w w.heap.size A y) (m3:dl y<=d) (m4:d<=maxLen) :
  ∃ v' w',(Builtin.append_ #[107, 107] ty #[v,.slice (some ⟨b,0,none⟩) 1 c]).run Tryz.prog w=.ok v' w'/\NatOwn w' base v' (k+1) x/\w.grownBy w' v.ownBlock/\(∀ g,v.ownBlock=some g->base<=g):=by
 subst hr
 obtain ⟨f,hown,hni,hf⟩:=h
 obtain ⟨i,hi,hzz⟩:=Option.map_eq_some_iff.1 Tryz.infoNat
 simp only [Prod.mk.injEq] at hzz
 obtain ⟨hz,hs,hb⟩:=hzz
 let f':Nat->Nat->Value:=fun i j=>if i<k then (if j<1 then f i 0 else undef) else .slice A (dl (x k)) d
 have hown':Own w base 47 1 v k f':=hown.congr fun i hi j hj=>by
  obtain rfl:j=0:=by omega
  simp [f',hi]
 have hnews:∀ j,j<1->w.cell? ((⟨b,0,none⟩:Addr).add j)=some (f' k j):=fun j hj=>by
  obtain rfl:j=0:=by omega
  have:(⟨b,0,none⟩:Addr).add 0=⟨b,0,none⟩:=by unfold Addr.add; split <;> simp_all
  rw [this]
  simpa [f'] using c0
 have h1:∀ j,j<1->(f' k j).oneCell'=true:=fun j hj=>by simp [f']; rfl
 obtain ⟨v1,w1,e1,o1,g1,a1,_⟩:=zaZ (P:=Tryz.prog) w base 107 ty 47 i _ 1 24 Tryz.underlying107 hi hz hs hb rfl (by omega) v k f' hown' ⟨b,0,none⟩ c hnews h1 (by unfold maxLen; omega) (by omega) hbase
 obtain ⟨v2,w2,e2,hcells⟩:=zcN (P:=Tryz.prog) w (fun u=>∀ n,u≠.int .u32 n) base 107 ty 47 i _ 1 24 Tryz.underlying107 hi hz hs hb (by omega) v k f' hown' ⟨b,0,none⟩ c hnews h1 (by unfold maxLen; omega) (by omega)
  (fun u hu n e=>by
   have hu:u ∈ [Value.slice none 0 0]:=hu
   rw [e] at hu; simp at hu)
  (fun i j hi hj n=>by
   obtain rfl:j=0:=by omega
   by_cases e:i<k
   ·obtain ⟨B,x,e0,_⟩:=hf i e
    simp [f',e,e0]
   ·simp [f',e])
  (fun g c' e' fr hg hh=>zeL hh (hni g hg))
 rw [e1] at e2
 injection e2 with e2 e3
 subst e2 e3
 have nat:∀ A' y,NatOk w w.heap.size A' y->NatOk w1 w1.heap.size A' y:=fun A' y hx=>by
  have:=zdd hx (Nat.le_refl _) g1 (fun g hg=>hni g hg)
  intro q hq
  obtain ⟨b',o',e,h1,h2⟩:=this q hq
  exact ⟨b',o',e,Nat.lt_of_lt_of_le h1 g1.size,h2⟩
 refine ⟨v1,w1,e1,⟨f',o1,fun g hg=>?_,fun i hi=>?_⟩,g1,fun g hg=>(hown.lt g hg).1⟩
 ·obtain ⟨c',e',fr,hh,hu⟩:=hcells g hg
  exact ziM hh hu
 ·by_cases e:i<k
  ·obtain ⟨B,z,e0,n1,h4⟩:=hf i e
   exact ⟨B,z,by simp [f',e,e0],nat _ _ n1,h4⟩
  ·obtain rfl:i=k:=by omega
   exact ⟨A,d,by simp [f'],nat _ _ m1,m3,m4⟩
theorem zgv (n:Int):bits .and .i64 n 1=n % 2:=by
 have h1:(BitVec.ofInt 64 1).toNat=2 ^ 1 - 1:=by decide
 have key:(BitVec.ofInt 64 n &&& BitVec.ofInt 64 1).toNat=(n % ((2 ^ 64:Nat):Int)).toNat % 2 ^ 1:=by
  rw [BitVec.toNat_and,BitVec.toNat_ofInt,h1,Nat.and_two_pow_sub_one_eq_mod]
 show IntKind.i64.wrap ((BitVec.ofInt 64 n &&& BitVec.ofInt 64 1).toNat:Nat)=n % 2
 rw [key,IntKind.wrap_i64]
 omega
theorem zdD (X:World) (o:Obj):Below X.heap.size X (X.alloc o):=(Below.refl _ _).alloc (Nat.le_refl _) _
def NatOkPost (x:Nat) (w:World) (e:Ending) (w':World):Prop :=
 ∃ A c,e=.returned (.tuple #[.slice A (dl x) c,.int .i64 0])/\dl x<=c/\c<=maxLen/\NatOk w' w'.heap.size A x/\Below w.heap.size w w'
theorem zjm {o s x n k:Nat} (h:o*s ^ k=x ^ n) (hk:k % 2=1):o*s*(s*s) ^ (k / 2)=x ^ n:=by
 rw [<-h,<-Nat.pow_two,<-Nat.pow_mul,Nat.mul_assoc,<-Nat.pow_add_one']
 congr 2
 omega
theorem ziN {o s x n k:Nat} (h:o*s ^ k=x ^ n) (hk:k % 2=0):o*(s*s) ^ (k / 2)=x ^ n:=by
 rw [<-h,<-Nat.pow_two,<-Nat.pow_mul]
 congr 2
 omega
theorem zgw {o s x n k:Nat} (h:o*s ^ k=x ^ n) (hk:0<k) (hx:0<x):o<=x ^ n/\s<=x ^ n:=by
 have hp:0<x ^ n:=Nat.pow_pos hx
 have ho:0<o:=by
  rcases Nat.eq_zero_or_pos o with e | e
  ·rw [e] at h; simp at h; omega
  ·exact e
 have hs:0<s:=by
  rcases Nat.eq_zero_or_pos s with e | e
  ·rw [e,Nat.zero_pow hk] at h; simp at h; omega
  ·exact e
 constructor
 ·rw [<-h]; exact Nat.le_mul_of_pos_right _ (Nat.pow_pos hs)
 ·rw [<-h]
  have h1:s<=s ^ k:=Nat.le_self_pow (by omega) s
  exact Nat.le_trans h1 (Nat.le_mul_of_pos_left _ ho)
theorem zgx (A:Option Addr) (c x n:Nat) (w:World) (h:NatOk w w.heap.size A x) (hc:dl x<=c) (hm:c<=maxLen) (hn:dl x<=1048576) (hnn:n<=131072) (hsz:nlen x<=1∨(nlen x - 1)*n<131072) (hbig:dl (x ^ n)<=4096) :
  Calls Tryz.prog 120 #[.slice A (dl x) c,.int .i64 (n:Nat)] w (NatOkPost (x ^ n) w):=by
 have hone:=zbW (w:=w) 110 (x:=1) (by omega) (by omega)
 have d1:=hid (zbK (x:=1) (by omega) (by omega))
 go_enter Tryz.func120, Tryz.ntmps120
 go_wp2_with fail
 refine (zfx A c x w h hc hm (by omega)).mono ?_
 rintro e w1 ⟨rfl,rfl⟩
 have hlb:nlen x<=33554432:=by
  by_cases e:x=0
  ·rw [e,zaQ]; omega
  ·have:=zf8 e
   have:=ze5 (x:=dg x (dl x - 1)) (k:=32) (zip _ _)
   omega
 by_cases h0:n=0
 ·subst h0
  have H:=hid (show x ^ 0=1 from Nat.pow_zero x)
  go_wp2
  go_ret2
  exact ⟨_,1,by rw [H.out,d1.out]; rfl,by rw [H.out,d1.out]; omega,by unfold maxLen; omega,by rw [H.out]; exact hone,(Below.refl _ _).alloc (Nat.le_refl _) _⟩
 ·have n0 : ((n : Int) == 0) = false := by simp; omega
  by_cases h1:x=1
  ·have H:=hid (show x ^ n=1 by rw [h1]; exact Nat.one_pow n)
   have hl:nlen x=1:=zcb.2 h1
   rw [hl];clear hl h1
   go_wp2
   go_ret2
   exact ⟨_,1,by rw [H.out,d1.out]; rfl,by rw [H.out,d1.out]; omega,by unfold maxLen; omega,by rw [H.out]; exact hone,(Below.refl _ _).alloc (Nat.le_refl _) _⟩
  ·by_cases h2:x=0
   ·have H:=hid (show x ^ n=0 by rw [h2]; exact Nat.zero_pow (by omega))
    have hl:nlen x=0:=zbm.2 h2
    rw [hl];clear hl h1 h2
    go_wp2
    go_ret2
    exact ⟨none,0,by rw [H.out,zaT]; rfl,by rw [H.out,zaT]; omega,by unfold maxLen; omega,by rw [H.out]; exact fun i hi=>absurd hi (by rw [zaT]; omega),Below.refl _ _⟩
   ·have hl0:=mt zbm.1 h2
    have hl1:=mt zcb.1 h1
    have hx0:0<x:=by omega
    obtain ⟨l,hl⟩:∃ l,l=nlen x:=⟨_,rfl⟩
    rw [<-hl] at hl0 hl1 hsz hlb ⊢
    have hs1:(l - 1)*n<131072:=by omega
    have hs2:((l:Int) - 1)*(n:Int)=(((l - 1)*n:Nat):Int):=by rw [Int.natCast_mul]; congr 1; omega
    have hs3:(0:Int)<=((l:Int) - 1)*(n:Int):=by omega
    have hs4:((l:Int) - 1)*(n:Int)<131072:=by omega
    have l0:((l:Int) == 0)=false:=by simp; omega
    have l1:((l:Int) == 1)=false:=by simp; omega
    clear hl hs2 hs1 hsz hl0 hl1 h1 h2
    have hA1:=NatOk.on h (zdD w (Obj.cells #[Value.int .u32 ((1:Nat):Int)] 110))
    go_wp2_with fail
    refine (zbC A c x _ hA1 hc hm).mono ?_
    rintro e w1 ⟨rfl,rfl⟩
    have HBG:=hid hbig
    have hBA:=zdD w (Obj.cells #[Value.int .u32 ((1:Nat):Int)] 110)
    have hl4:dl x<=536870912:=by omega
    go_wp2
    go_loopg [1,7,8] n (fun gg nv ov sv wx=>∃ k o s:Nat,∃ Ao co As cs,nv=.int .i64 (k:Nat)/\ov=.slice Ao (dl o) co/\sv=.slice As (dl s) cs/\0<k/\k<=gg/\k<=n/\Hid (o*s ^ k=x ^ n)/\(dl o<=co/\co<=maxLen)/\NatOk wx wx.heap.size Ao o/\NatOk wx wx.heap.size As s/\Below w.heap.size w wx)
    case atStart=>exact ⟨n,1,x,_,1,A,dl x,rfl,by rw [d1.out],rfl,by omega,by omega,by omega,hid (Nat.one_mul _),⟨by rw [d1.out]; omega,by unfold maxLen; omega⟩,hone,hA1,hBA⟩
    case round =>
     clear hone hA1 hBA h
     obtain ⟨k,o,s,Ao,co,As,cs,rfl,rfl,rfl,hk,hkg,hkn,HV,⟨ho1,ho2⟩,hAo,hAs,hB⟩:=hrel
     obtain ⟨hb1,hb2⟩:=zgw HV.out hk hx0
     have hdo:dl o<=536870912:=by have:=zcC hb1; have:=HBG.out; omega
     have hds:dl s<=536870912:=by have:=zcC hb2; have:=HBG.out; omega
     clear hb1 hb2
     have hk2:((k:Int) / 2)=((k / 2:Nat):Int):=by omega
     have HK2:=hid hk2
     clear hk2
     by_cases hpar:k % 2=1
     ·have ha:bits .and .i64 (k:Int) 1=1:=by rw [zgv]; omega
      by_cases h1:k=1
      ·subst h1
       have HE:Hid (o*s=x ^ n):=by have:=HV.out; rwa [Nat.pow_one] at this
       go_wp2_with fail
       refine (zbV Ao As co cs o s wr hAo hAs hdo hds).mono ?_
       rintro e w2 ⟨A2,c2,rfl,g1,g2,g3,g4⟩
       rw [HE.out] at g1 g3 ⊢
       have hB2:=onS hB g4
       have hbig4:((dl (x ^ n):Nat):Int)<=4096:=by have:=HBG.out; omega
       clear g4 hAo hAs hB
       go_wp2_with fail
       refine (zeC A2 c2 (x ^ n) w2 g3 g1 g2 (by omega)).mono ?_
       rintro e w3 ⟨A3,c3,rfl,f1,f2,f3,f4⟩
       have hB3:=onS hB2 f4
       clear f4
       go_wp2
       go_ret2
       exact ⟨A3,c3,rfl,f1,f2,f3,hB3⟩
      ·have hne:((k:Int) / 2 == 0)=false:=by simp; omega
       have HE:=hid (zjm HV.out hpar)
       go_wp2_with fail
       refine (zbV Ao As co cs o s wr hAo hAs hdo hds).mono ?_
       rintro e w2 ⟨A2,c2,rfl,g1,g2,g3,g4⟩
       have hB2:=onS hB g4
       have hAs2:=hAs.on g4
       clear g4 hAo hAs hB
       go_wp2_with fail
       refine (zbV As As cs cs s s w2 hAs2 hAs2 hds hds).mono ?_
       rintro e w3 ⟨A3,c3,rfl,f1,f2,f3,f4⟩
       have hB3:=onS hB2 f4
       have g5:=g3.on f4
       clear f4 hAs2 hB2
       go_wp2
       go_roundg (gk - 1)
       case measure=>omega
       case rel=>exact ⟨k / 2,o*s,s*s,A2,c2,A3,c3,by rw [HK2.out],rfl,rfl,by omega,by omega,by omega,HE,⟨g1,g2⟩,g5,f3,hB3⟩
     ·have ha:bits .and .i64 (k:Int) 1=0:=by rw [zgv]; omega
      have hne:((k:Int) / 2 == 0)=false:=by simp; omega
      have HE:=hid (ziN HV.out (by omega))
      go_wp2_with fail
      refine (zbV As As cs cs s s wr hAs hAs hds hds).mono ?_
      rintro e w3 ⟨A3,c3,rfl,f1,f2,f3,f4⟩
      have hB3:=onS hB f4
      have g5:=hAo.on f4
      clear f4 hAs hB
      go_wp2
      go_roundg (gk - 1)
      case measure=>omega
      case rel=>exact ⟨k / 2,o,s*s,Ao,co,A3,c3,by rw [HK2.out],rfl,rfl,by omega,by omega,by omega,HE,⟨ho1,ho2⟩,g5,f3,hB3⟩
theorem zjn {x n d:Nat}:x ^ (n / (2*d))*x ^ (n / (2*d))*(if n / d % 2=1 then x else 1)=x ^ (n / d):=by
 have e:n / (2*d)=n / d / 2:=by rw [Nat.div_div_eq_div_mul,Nat.mul_comm d 2]
 rw [e,<-Nat.pow_add]
 split
 ·rename_i h
  rw [<-Nat.pow_succ]
  congr 1
  omega
 ·rw [Nat.mul_one]
  congr 1
  omega
theorem zgy (A:Option Addr) (c x n:Nat) (w:World) (h:NatOk w w.heap.size A x) (hc:dl x<=c) (hm:c<=maxLen) (hn:dl x<=1048576) (hnn:n<=131072) (hbig:dl (x ^ n)<=4096) :
  Calls Tryz.prog 196 #[.slice A (dl x) c,.int .i64 (n:Nat)] w (NatOkPost (x ^ n) w):=by
 have d1:=hid (zbK (x:=1) (by omega) (by omega))
 go_enter Tryz.func196, Tryz.ntmps196
 go_wp2_with fail
 refine (zc9 A c x w h hc hm (by omega)).mono ?_
 rintro e w1 ⟨A1,c1,rfl,f1,f2,f3,f4⟩
 have hone:=zbW (w:=w1) 110 (x:=1) (by omega) (by omega)
 clear h
 by_cases h0:n=0
 ·subst h0
  have H:=hid (show x ^ 0=1 from Nat.pow_zero x)
  go_wp2
  go_ret2
  exact ⟨_,1,by rw [H.out,d1.out]; rfl,by rw [H.out,d1.out]; omega,by unfold maxLen; omega,by rw [H.out]; exact hone,f4.alloc f4.size _⟩
 ·have n0 : ((n : Int) == 0) = false := by simp; omega
  go_wp2_with fail
  refine (zfz A1 c1 x w1 f3 f1 f2 (by omega)).mono ?_
  rintro e w2 ⟨rfl,g4⟩
  have hB2:=onS f4 g4
  have hx2:=f3.on g4
  clear hone f3 g4 f4
  by_cases hl:nlen x<=1
  ·have H:=hid (show x ^ n=x by
    by_cases e:x=0
    ·rw [e]; exact Nat.zero_pow (by omega)
    ·have:nlen x≠0:=mt zbm.1 e
     have:x=1:=zcb.1 (by omega)
     rw [this]; exact Nat.one_pow n)
   have hl2:((nlen x:Nat):Int)<=1:=by omega
   go_wp2
   go_ret2
   exact ⟨A1,c1,by rw [H.out]; rfl,by rw [H.out]; exact f1,f2,by rw [H.out]; exact hx2,hB2⟩
  ·have hl2:¬ ((nlen x:Nat):Int)<=1:=by omega
   have hx0:0<x:=by
    rcases Nat.eq_zero_or_pos x with e | e
    ·rw [e,zaQ] at hl; omega
    ·exact e
   have HBG:=hid hbig
   have hone2:=zbW (w:=w2) 110 (x:=1) (by omega) (by omega)
   have hx3:=hx2.on (zdD w2 (Obj.cells #[Value.int .u32 ((1:Nat):Int)] 110))
   have hB3:=hB2.alloc hB2.size (Obj.cells #[Value.int .u32 ((1:Nat):Int)] 110)
   have HS:Hid (x ^ (n / (2*262144))=1):=by show _=_; rw [Nat.div_eq_of_lt (by omega),Nat.pow_zero]
   go_wp2
   go_loopg [7,6] 20 (fun gg dv ov wx=>∃ d j o:Nat,∃ Ao co,dv=.int .i64 (d:Nat)/\ov=.slice Ao (dl o) co/\Hid ((d=0/\o=x ^ n/\0<=gg)∨(d=2 ^ j/\j+1<=gg/\o=x ^ (n / (2*d))))/\d<=262144/\dl o<=4096/\dl o<=co/\co<=maxLen/\NatOk wx wx.heap.size Ao o/\NatOk wx wx.heap.size A1 x/\Below w.heap.size w wx)
   case atStart=>exact ⟨262144,18,1,_,1,rfl,by rw [d1.out],hid (.inr ⟨by decide,by omega,HS.out.symm⟩),by omega,by rw [d1.out]; omega,by rw [d1.out]; omega,by unfold maxLen; omega,hone2,hx3,hB3⟩
   case round =>
    clear hone2 hx3 hB3 hB2 hx2 HS
    obtain ⟨d,j,o,Ao,co,rfl,rfl,HJ,hd,hdo,ho1,ho2,hAo,hAx,hB⟩:=hrel
    by_cases hd0:d=0
    ·have HO:Hid (o=x ^ n):=by
      rcases HJ.out with ⟨_,e,_⟩ | ⟨e,_⟩
      ·exact e
      ·have:0<2 ^ j:=Nat.pow_pos (by omega)
       exfalso; omega
     subst hd0
     go_wp2
     go_ret2
     exact ⟨Ao,co,by rw [<-HO.out]; rfl,by rw [<-HO.out]; exact ho1,ho2,by rw [<-HO.out]; exact hAo,hB⟩
    ·have HJ2:Hid (d=2 ^ j/\j+1<=gk/\o=x ^ (n / (2*d))):=by
      rcases HJ.out with ⟨e,_⟩ | e
      ·exact absurd e hd0
      ·exact e
     have hgk:0<gk:=by have:=HJ2.out.2.1; omega
     have hdp:(0:Int)<(d:Int):=by omega
     obtain ⟨q,hq⟩:∃ q,q=n / d:=⟨_,rfl⟩
     have hq1:(n:Int).tdiv (d:Int)=(q:Int):=by rw [hq,Int.tdiv_eq_ediv_of_nonneg (by omega)]; rfl
     have hqn:q<=n:=by rw [hq]; exact Nat.div_le_self _ _
     have hwq:IntKind.i64.wrap (q:Int)=(q:Int):=IntWalk.i64_in _ (by omega)
     have hdne:((d:Int) == 0)=false:=by simp; omega
     have HQ:=hid hq
     have hle:Hid (x ^ q<=x ^ n):=Nat.pow_le_pow_right hx0 hqn
     have hdq:dl (x ^ q)<=4096:=by have:=zcC hle.out; have:=HBG.out; omega
     have HB2:Hid (∀ oo:Nat,oo=x ^ q->∃ j',(d / 2=0/\oo=x ^ n/\0<=gk - 1)∨(d / 2=2 ^ j'/\j'+1<=gk - 1/\oo=x ^ (n / (2*(d / 2))))):=fun oo hoo=>by
      obtain ⟨e1,e2,_⟩:=HJ2.out
      cases j with
      | zero =>
       rw [Nat.pow_zero] at e1
       refine ⟨0,.inl ⟨by omega,?_,by omega⟩⟩
       rw [hoo,HQ.out,e1,Nat.div_one]
      | succ j =>
       rw [Nat.pow_succ] at e1
       refine ⟨j,.inr ⟨by omega,by omega,?_⟩⟩
       rw [hoo,HQ.out,show 2*(d / 2)=d by omega]
     have hd2:((d:Int) / 2)=((d / 2:Nat):Int):=by omega
     have HD2:=hid hd2
     have HP:Hid (o*o*(if q % 2=1 then x else 1)=x ^ q):=by
      have:=zjn (x:=x) (n:=n) (d:=d)
      rw [<-HJ2.out.2.2,<-HQ.out] at this
      exact this
     clear hq hd2
     go_wp2_with fail
     refine (zbX Ao Ao co co o o wr hAo hAo (by omega) (by omega)).mono ?_
     rintro e w3 ⟨A3,c3,rfl,g1,g2,g3,g4⟩
     have hB3:=onS hB g4
     have hAx3:=hAx.on g4
     clear hAo hAx g4 hB
     by_cases hpar:q % 2=1
     ·have hp1:(q:Int) % 2=1:=by omega
      have hp2:(q:Int).tmod 2=1:=by rw [Int.tmod_eq_emod_of_nonneg (by omega)]; exact hp1
      have HE:Hid (o*o*x=x ^ q):=by have:=HP.out; rwa [if_pos hpar] at this
      have hdoo:dl (o*o)<=536870912:=by
       have h1:o*o<=o*o*x:=Nat.le_mul_of_pos_right _ hx0
       rw [HE.out] at h1
       have:=zcC h1
       omega
      go_wp2_with fail
      refine (zbX A3 A1 c3 c1 (o*o) x w3 g3 hAx3 hdoo (by omega)).mono ?_
      rintro e w4 ⟨A4,c4,rfl,k1,k2,k3,k4⟩
      rw [HE.out] at k1 k3 ⊢
      have hB4:=onS hB3 k4
      have hAx4:=hAx3.on k4
      have hdq':((dl (x ^ q):Nat):Int)<=4096:=by omega
      obtain ⟨j',hj'⟩:=HB2.out _ rfl
      have HJ':=hid hj'
      clear hj' g3 hAx3 k4 hB3
      go_wp2
      go_roundg (gk - 1)
      case measure=>omega
      case rel=>exact ⟨d / 2,j',x ^ q,A4,c4,by rw [HD2.out],rfl,HJ',by omega,hdq,k1,k2,k3,hAx4,hB4⟩
     ·have hp1:(q:Int) % 2=0:=by omega
      have hp2:(q:Int).tmod 2=0:=by rw [Int.tmod_eq_emod_of_nonneg (by omega)]; exact hp1
      have HE:Hid (o*o=x ^ q):=by have:=HP.out; rwa [if_neg hpar,Nat.mul_one] at this
      rw [HE.out] at g1 g3 ⊢
      have hdq':((dl (x ^ q):Nat):Int)<=4096:=by omega
      obtain ⟨j',hj'⟩:=HB2.out _ rfl
      have HJ':=hid hj'
      clear hj'
      go_wp2
      go_roundg (gk - 1)
      case measure=>omega
      case rel=>exact ⟨d / 2,j',x ^ q,A3,c3,by rw [HD2.out],rfl,HJ',by omega,hdq,g1,g2,g3,hAx3,hB3⟩
def cmpN (x y:Nat):Int:=if x<y then -1 else if y<x then 1 else 0
theorem zid {x y:Nat} (h:x<y):cmpN x y = -1:=by simp [cmpN,h]
theorem zie {x y:Nat} (h:y<x):cmpN x y=1:=by unfold cmpN; rw [if_neg (by omega),if_pos h]
theorem zjo {x y:Nat} (h:x=y):cmpN x y=0:=by unfold cmpN; rw [if_neg (by omega),if_neg (by omega)]
theorem zjp {f g:Nat->Nat} {n k:Nat} (hf:∀ i,i<n->f i<4294967296) (hk:k<n) (he:∀ j,k<j->j<n->f j=g j) (hl:f k<g k):nv f n<nv g n:=by
 induction n with
 | zero=>omega
 | succ n ih =>
  simp only [nv]
  by_cases e:k=n
  ·subst e
   have h1:=zi5 (f:=f) (n:=k) fun i hi=>hf i (by omega)
   have h2:(f k+1)*4294967296 ^ k<=g k*4294967296 ^ k:=Nat.mul_le_mul_right _ hl
   rw [Nat.add_mul,Nat.one_mul] at h2
   omega
  ·have h1:=ih (fun i hi=>hf i (by omega)) (by omega) fun j h1 h2=>he j h1 (by omega)
   rw [he n (by omega) (by omega)]
   omega
theorem zgz {x y:Nat} (h:dl x<dl y):x<y:=by
 rcases Nat.lt_or_ge x y with h1 | h1
 ·exact h1
 ·have:=zcC h1; omega
theorem zgA (A A2:Option Addr) (c c2 x y:Nat) (w:World) (h:NatOk w w.heap.size A x) (h2:NatOk w w.heap.size A2 y) (hc:dl x<=c) (hm:c<=maxLen) (hc2:dl y<=c2) (hm2:c2<=maxLen) (hn2:dl y<=1073741824) :
  Calls Tryz.prog 122 #[.slice A (dl x) c,.slice A2 (dl y) c2] w fun e w'=>e=.returned (.int .i64 (cmpN x y))/\Below w.heap.size w w':=by
 go_enter Tryz.func122, Tryz.ntmps122
 go_wp2_with fail
 refine (zbC A c x w h hc hm).mono ?_
 rintro e w1 ⟨rfl,rfl⟩
 go_wp2_with fail
 refine (zbC A2 c2 y w h2 hc2 hm2).mono ?_
 rintro e w1 ⟨rfl,rfl⟩
 by_cases hd:dl x=dl y
 ·obtain ⟨n,hn'⟩:∃ n,n=dl y:=⟨_,rfl⟩
  have hX:nv (dg x) n=x:=by rw [hn',<-hd,zdX]
  have hY:nv (dg y) n=y:=by rw [hn',zdX]
  have HX:=hid hX
  have HY:=hid hY
  have h3:Lims w w.heap.size A n (dg x):=by rw [hn',<-hd]; exact h
  have h4:Lims w w.heap.size A2 n (dg y):=by rw [hn']; exact h2
  rw [hd,<-hn'];rw [<-hn'] at hn2;clear hX hY h h2 hc hc2 hd hn'
  go_wp2
  go_loopg [5] n (fun gg iv wx=>∃ k:Nat,iv=.int .i64 ((k:Nat) - 1:Int)/\k<=n/\k<=gg/\Hid (∀ j,k<=j->j<n->dg x j=dg y j)/\Below w.heap.size w wx)
  case atStart=>exact ⟨n,rfl,by omega,by omega,hid fun j h1 h2=>absurd h1 (by omega),Below.refl _ _⟩
  case round =>
   obtain ⟨k,rfl,hk,hkg,HE,hB⟩:=hrel
   by_cases h0:0<k
   ·obtain ⟨k,rfl⟩:∃ k',k=k'+1:=⟨k - 1,by omega⟩
    have ek:(((k+1:Nat):Int) - 1)=(k:Int):=by omega
    rw [ek]
    obtain ⟨b,o,rfl,hb,e0⟩:=(h3.on hB).at (i:=k) (by omega)
    obtain ⟨b2,o2,rfl,hb2,e2⟩:=(h4.on hB).at (i:=k) (by omega)
    have hk0:(0:Int)<=(k:Int):=by omega
    have hk1:(k:Int)<(n:Int):=by omega
    have he:=HE.out
    by_cases c1:dg x k<dg y k
    ·have HC:=hid (zid (x:=x) (y:=y) (by have:=zjp (f:=dg x) (g:=dg y) (n:=n) (k:=k) (fun i _=>zip x i) (by omega) (fun j h1 h2=>he j (by omega) h2) c1; rwa [HX.out,HY.out] at this))
     obtain ⟨u,hu⟩:∃ u,u=dg x k:=⟨_,rfl⟩
     obtain ⟨v,hv⟩:∃ v,v=dg y k:=⟨_,rfl⟩
     rw [<-hu] at e0 c1;rw [<-hv] at e2 c1;clear ek he hu hv
     go_wp2
     go_quiet (fail)
     go_wp2
     go_ret
     exact ⟨zah HC.out.symm,zac hB _⟩
    ·by_cases c2:dg y k<dg x k
     ·have HC:=hid (zie (x:=x) (y:=y) (by have:=zjp (f:=dg y) (g:=dg x) (n:=n) (k:=k) (fun i _=>zip y i) (by omega) (fun j h1 h2=>(he j (by omega) h2).symm) c2; rwa [HX.out,HY.out] at this))
      obtain ⟨u,hu⟩:∃ u,u=dg x k:=⟨_,rfl⟩
      obtain ⟨v,hv⟩:∃ v,v=dg y k:=⟨_,rfl⟩
      rw [<-hu] at e0 c1 c2;rw [<-hv] at e2 c1 c2;clear ek he hu hv
      go_wp2
      go_quiet (fail)
      go_wp2
      go_quiet (fail)
      go_wp2
      go_ret
      exact ⟨zah HC.out.symm,zac (zac hB _) _⟩
     ·have heq:dg x k=dg y k:=by omega
      have HN:Hid (∀ j,k<=j->j<n->dg x j=dg y j):=fun j h1 h2=>by
       by_cases e:j=k
       ·rw [e]; exact heq
       ·exact he j (by omega) h2
      rw [heq] at e0
      obtain ⟨v,hv⟩:∃ v,v=dg y k:=⟨_,rfl⟩
      rw [<-hv] at e0 e2;clear ek he hv heq c1 c2
      go_wp2
      go_quiet (fail)
      go_wp2
      go_quiet (fail)
      go_wp2
      go_roundg (gk - 1)
      case measure=>omega
      case rel=>exact ⟨k,rfl,by omega,by omega,HN,zac hB _⟩
   ·obtain rfl:k=0:=by omega
    have HC:=hid (zjo (x:=x) (y:=y) (by rw [<-HX.out,<-HY.out]; exact zdm fun i hi=>HE.out i (by omega) hi))
    go_wp2
    go_ret
    exact ⟨zah HC.out.symm,hB⟩
 ·by_cases hlt:dl x<dl y
  ·have HC:=hid (zid (zgz hlt))
   have d1:((dl x:Nat):Int)<((dl y:Nat):Int):=by omega
   have d2:(((dl x:Nat):Int) != ((dl y:Nat):Int))=true:=by simp; omega
   clear h h2
   go_wp2
   go_ret
   exact ⟨zah HC.out.symm,Below.refl _ _⟩
  ·have HC:=hid (zie (zgz (x:=y) (y:=x) (by omega)))
   have d1:¬ ((dl x:Nat):Int)<((dl y:Nat):Int):=by omega
   have d2:(((dl x:Nat):Int) != ((dl y:Nat):Int))=true:=by simp; omega
   clear h h2
   go_wp2
   go_ret
   exact ⟨zah HC.out.symm,Below.refl _ _⟩
open Go
def rv (s:Bool) (x y:Nat):Rat:=mkRat (if s then -(x:Int) else x) y
open Go.ChangeShapes Go.WideShapes Go.ChangeAt
def disN (f g:Nat->Int):Nat->Nat
 | 0=>0
 | k+1=>disN f g k+if f k=g k then 0 else 1
theorem zif (f g:Nat->Int) (k:Nat):disN f g k<=k:=by
 induction k with
 | zero=>exact Nat.le_refl _
 | succ k ih=>unfold disN; split <;> omega
theorem ziO {α:Type}:∀ {l m:List α},l.Nodup->(∀ x,x ∈ l->x ∈ m)->l.length<=m.length:=by
 classical
 intro l
 induction l with
 | nil=>intro m _ _; exact Nat.zero_le _
 | cons a l ih =>
  intro m h1 h2
  have ha:=h2 a (by simp)
  rw [List.nodup_cons] at h1
  have hl:=List.length_erase_of_mem ha
  have hp:=ih (m:=m.erase a) h1.2 fun x hx=>(List.mem_erase_of_ne (fun e:x=a=>h1.1 (by rw [<-e]; exact hx))).2 (h2 x (by simp [hx]))
  have hpos:=List.length_pos_of_mem ha
  simp only [List.length_cons]
  omega
theorem zbc {α β:Type} {f:α->β}:∀ {l:List α},l.Nodup->(∀ a,a ∈ l->∀ b,b ∈ l->f a=f b->a=b)->(l.map f).Nodup:=by
 intro l
 induction l with
 | nil=>intro _ _; exact List.nodup_nil
 | cons a l ih =>
  intro h hi
  rw [List.nodup_cons] at h;rw [List.map_cons,List.nodup_cons]
  refine ⟨fun hm=>?_,ih h.2 fun x hx y hy e=>hi x (by simp [hx]) y (by simp [hy]) e⟩
  obtain ⟨b,hb,e⟩:=List.mem_map.1 hm
  have:=hi b (by simp [hb]) a (by simp) e
  exact h.1 (by rw [<-this]; exact hb)
theorem zed {K:Type} {L:List K} (hn:L.Nodup):∀ n,(allW L n).Nodup
 | 0=>by simp [allW]
 | n + 1 => by
  have ih:=zed hn n
  show ((allW L n).flatMap fun w=>L.map fun a=>a :: w).Nodup
  revert ih
  generalize allW L n=l
  induction l with
  | nil=>intro _; simp
  | cons w l ihl =>
   intro h
   rw [List.nodup_cons] at h;rw [List.flatMap_cons,List.nodup_append]
   refine ⟨zbc hn fun a _ b _ e=>by injection e,ihl h.2,fun x hx y hy e=>?_⟩
   obtain ⟨a,_,rfl⟩:=List.mem_map.1 hx
   obtain ⟨w',hw',hy⟩:=List.mem_flatMap.1 hy
   obtain ⟨b,_,rfl⟩:=List.mem_map.1 hy
   injection e with _ e
   exact h.1 (by rw [e]; exact hw')
theorem zgB {K:Type} {L:List K} (hc:∀ a,a ∈ L):∀ n (x:List K),x.length=n->x ∈ allW L n
 | 0,x,h=>by rw [List.length_eq_zero_iff.1 h]; simp [allW]
 | n+1,[],h=>by simp at h
 | n+1,a :: x,h=>by
  show _ ∈ (allW L n).flatMap _
  exact List.mem_flatMap.2 ⟨x,zgB hc n x (by simpa using h),List.mem_map.2 ⟨a,hc a,rfl⟩⟩
theorem zjq {q:Nat} (hq:0<q) {n x y:Nat} (hx:x<q ^ n) (hy:y<q ^ n) (h:∀ t,t<n->dig q x t=dig q y t):x=y:=zd3 hq hx hy h
theorem zjr {q:Nat} {n:Nat} {c:Nat->Nat} (hc:∀ t,t<n->c t<q):∃ x,x<q ^ n/\∀ t,t<n->dig q x (n - 1 - t)=c t:=by
 refine ⟨valN q (fun t=>c (n - 1 - t)) n,za9 fun i hi=>hc _ (by omega),fun t ht=>?_⟩
 rw [za6 (fun i hi=>hc _ (by omega)) _ (by omega)]
 congr 1
 omega
section
variable {q n k:Nat} {add mul:Nat->Nat->Nat} {V:Nat->Nat->Nat}
theorem zbp {neg:Nat->Nat} {p:Nat->Nat} {W:Nat->Nat->Nat} {c j:Nat}:∀ a,(∀ s,s<a->p s≠j)->nrow neg p W c a j=if j=c then 1 else 0
 | 0,_=>rfl
 | a+1,h=>by
  unfold nrow
  rw [if_neg (fun e=>h a (by omega) e.symm)]
  exact zbp a fun s hs=>h s (by omega)
theorem zff {neg:Nat->Nat} {p:Nat->Nat} {W:Nat->Nat->Nat} {c s:Nat}:∀ a,(∀ t u,t<u->u<a->p t<p u)->s<a->nrow neg p W c a (p s)=neg (W s c)
 | 0,_,h=>absurd h (by omega)
 | a + 1, hi, hs => by
  unfold nrow
  by_cases e:s=a
  ·subst e; rw [if_pos rfl]
  ·have:=hi s a (by omega) (by omega)
   rw [if_neg (by omega)]
   exact zff a (fun t u h1 h2=>hi t u h1 (by omega)) (by omega)
end
structure OnEl (q:Nat) (add mul:Nat->Nat->Nat) [Add (El q)] [Mul (El q)] [Neg (El q)] [Zero (El q)] [One (El q)]:Prop where
 fie:Fie (El q)
 ha:∀ x y:El q,(x+y).val=add x.val y.val
 hm:∀ x y:El q,(x*y).val=mul x.val y.val
 h0:(0:El q).val=0
 h1:(1:El q).val=1
section
variable {q n N a2:Nat} {add mul:Nat->Nat->Nat} {neg:Nat->Nat} {V W2:Nat->Nat->Nat} (hq:0<q) [iA:Add (El q)] [iM:Mul (El q)] [iN:Neg (El q)] [i0:Zero (El q)] [i1:One (El q)] (O:OnEl q add mul)
include O
theorem zfg {m:Nat} {U:Nat->Nat->Nat} {x:List (El q)} (hx:Gen N m (fun i=>wordK q hq N (U i)) x):x=wordK q hq N (fun j=>(ent x j).val):=by
 refine zd7 (zeK O.fie (N:=fun i j=>toEl q hq (U i j)) hx).1 (za1 hq N _) fun j hj=>?_
 rw [zcf hq,za2 hj]
 exact El.ext' (zak hq (ent x j).lt).symm
variable (hL:FieldLaws q add mul)
include hL
theorem zeM {m m':Nat} {U U':Nat->Nat->Nat} (hU:∀ i,i<m->∀ j,j<N->U i j<q) (hU':∀ i,i<m'->∀ j,j<N->U' i j<q) (e:SameSp q add mul N m m' U U') (x:List (El q)):Gen N m (fun i=>wordK q hq N (U i)) x↔Gen N m' (fun i=>wordK q hq N (U' i)) x:=by
 constructor
 ·intro hx
  have ex:=zfg hq O hx
  rw [ex] at hx ⊢
  exact (zaG hq O.fie hL O.ha O.hm O.h0 hU' fun j _=>(ent x j).lt).1 ((e _).1 ((zaG hq O.fie hL O.ha O.hm O.h0 hU fun j _=>(ent x j).lt).2 hx))
 ·intro hx
  have ex:=zfg hq O hx
  rw [ex] at hx ⊢
  exact (zaG hq O.fie hL O.ha O.hm O.h0 hU fun j _=>(ent x j).lt).1 ((e _).2 ((zaG hq O.fie hL O.ha O.hm O.h0 hU' fun j _=>(ent x j).lt).2 hx))
theorem NullRel.perp (hneg:∀ x,x<q->neg x<q/\add x (neg x)=0) (hV:∀ i,i<n->∀ j,j<N->V i j<q) (h:NullRel q add mul neg n N V a2 W2) (x:List (El q)) :
  perpW N (Gen N n fun i=>wordK q hq N (V i)) x↔Gen N a2 (fun i=>wordK q hq N (W2 i)) x:=by
 obtain ⟨a,p,W,f,fr,Nn,p2,hE,hR,hN,hE2,hR2⟩:=h
 obtain ⟨hs,hWl⟩:=hR.sp hL hV
 have hle:=hE.le
 have hq2:=hL.two
 have hNl:∀ u,u<f->∀ j,j<N->Nn u j<q:=fun u hu j hj=>by
  rw [hN.row u hu j hj]
  have hfu:=hN.lt u hu
  rcases hN.cover j hj with ⟨s,hs,e⟩ | ⟨v,hv,e⟩
  ·rw [<-e,zff a hE.inc hs]
   exact (hneg _ (hWl s (by omega) _ hfu)).1
  ·rw [zbp a fun s hs e2=>hN.ne v hv s hs (e2.trans e.symm)]
   split <;> omega
 obtain ⟨hs2,hWl2⟩:=hR2.sp hL hNl
 have s1:=zeM hq O hL hV (hE.top.lt) (fun x=>(hs x).trans (hE.sp_top hL x)) x
 have s1':∀ x,Gen N n (fun i=>wordK q hq N (V i)) x↔Gen N a (fun i=>wordK q hq N (W i)) x:=zeM hq O hL hV (hE.top.lt) (fun x=>(hs x).trans (hE.sp_top hL x))
 have s2:=zeM hq O hL hNl (hE2.top.lt) (fun x=>(hs2 x).trans (hE2.sp_top hL x)) x
 rw [<-s2]
 have hK:NullK N a p (fun i j=>toEl q hq (W i j)) f fr (fun i j=>toEl q hq (Nn i j)):=by
  refine ⟨hN.lt,hN.ne,hN.cover,fun u hu=>?_,fun u hu s hs=>?_,fun u hu v hv hne=>?_⟩
  ·rw [hN.row u hu _ (hN.lt u hu),zbp a (hN.ne u hu),if_pos rfl]
   exact El.ext' (by rw [zak hq (by omega),O.h1])
  ·rw [hN.row u hu _ (hE.pvlt s hs),zff a hE.inc hs]
   obtain ⟨g1,g2⟩:=hneg _ (hE.lt s (by omega) _ (hN.lt u hu))
   refine O.fie.negOf (El.ext' ?_)
   rw [O.ha,zak hq (hE.lt s (by omega) _ (hN.lt u hu)),zak hq g1,g2,O.h0]
  ·have hne2:fr v≠fr u:=by
    rcases Nat.lt_or_gt_of_ne hne with h1 | h1
    ·have:=hN.inc v u h1 hu; omega
    ·have:=hN.inc u v h1 hv; omega
   refine ⟨hne2,?_⟩
   rw [hN.row u hu _ (hN.lt v hv),zbp a (hN.ne v hv),if_neg hne2]
   exact El.ext' (by rw [zak hq hq,O.h0])
 have:=NullK.perp O.fie (hE.toK hq O.h0 O.h1) hK x
 refine Iff.trans ?_ this
 constructor
 ·rintro ⟨g1,g2⟩; exact ⟨g1,fun y hy=>g2 y ((s1' y).2 hy)⟩
 ·rintro ⟨g1,g2⟩; exact ⟨g1,fun y hy=>g2 y ((s1' y).1 hy)⟩
end
section
variable {H:Type} {enc:TypeId × Value->H} {w:World} {base:Nat} {spare:Nat->Bool} {held:Bool} {cs:List Value}
theorem zhy (h:Sees enc Tryz.prog w base spare held 27 cs) :
  ∃ (P M:Int) (A:Option Addr) (k c:Nat) (N:Int) (T:Option Addr) (n d:Nat) (f:Nat->Int) (ln:Nat->Nat) (V:Nat->Nat->Int),cs=[.int .i64 P,.int .i64 M,.slice A k c,.int .i64 N,.slice T n d] /\
   -9223372036854775808<=N/\N<=9223372036854775807/\k<=c/\c<=maxLen/\n<=d/\d<=maxLen/\IntsR w w.heap.size A k f/\IntRows w T n ln V:=by
 obtain ⟨hl,_⟩:=zbA Tryz.underlying27 h
 match cs,hl.trans (show Tryz.prog.cellsOf 27 = 5 by kernel_rfl) with
 | [c0,c1,c2,c3,c4],_ =>
  have hc:Tryz.prog.cellsOf 3 = 1:=by kernel_rfl
  have hc':Tryz.prog.cellsOf 22 = 1:=by kernel_rfl
  have hct:Tryz.prog.cellsOf 25 = 1:=by kernel_rfl
  have hcf:Tryz.prog.cellsOf 24 = 3:=by kernel_rfl
  have gf:=zbR Tryz.underlying27 h 0 24 0 3 ⟨_,rfl,rfl,rfl⟩ hcf
  have gN:=zbR Tryz.underlying27 h 1 3 3 1 ⟨_,rfl,rfl,rfl⟩ hc
  have gT:=zbR Tryz.underlying27 h 2 25 4 1 ⟨_,rfl,rfl,rfl⟩ hct
  have g0:=zbR Tryz.underlying24 gf 0 3 0 1 ⟨_,rfl,rfl,rfl⟩ hc
  have g1:=zbR Tryz.underlying24 gf 1 3 1 1 ⟨_,rfl,rfl,rfl⟩ hc
  have g2:=zbR Tryz.underlying24 gf 2 22 2 1 ⟨_,rfl,rfl,rfl⟩ hc'
  obtain ⟨P,hP,_⟩:=zbt Tryz.underlying3 g0
  obtain ⟨M,hM,_⟩:=zbt Tryz.underlying3 g1
  obtain ⟨A,k,c,f,hs,k1,k2,hr,_⟩:=zdh Tryz.underlying22 Tryz.underlying3 hc g2
  obtain ⟨N,hN,hNw⟩:=zbt Tryz.underlying3 gN
  obtain ⟨T,n,d,ln,V,hT,k3,k4,hrows⟩:=zhf gT
  simp at hP hM hs hN hT
  subst hP hM hs hN hT
  have:=zfv hNw
  exact ⟨P,M,A,k,c,N,T,n,d,f,ln,V,rfl,this.1,this.2,k1,k2,k3,k4,hr,hrows⟩
end
theorem zhz {p:Nat->Prop} (h:∃ n,p n):∃ n,p n/\∀ k,k<n->¬ p k:=by
 obtain ⟨n,hn⟩:=h
 induction n using Nat.strongRecOn with
 | ind n ih =>
  by_cases h:∃ k,k<n/\p k
  ·obtain ⟨k,h1,h2⟩:=h
   exact ih k h1 h2
  ·exact ⟨n,hn,fun k h1 h2=>h ⟨k,h1,h2⟩⟩
section
variable {K:Type} [Add K] [Mul K]
def evA:K->List K->K->K
 | a,[],_=>a
 | a,c :: l,x=>evA (a*x+c) l x
def qtA:K->List K->K->List K
 | _,[],_=>[]
 | a,c :: l,r=>a :: qtA (a*r+c) l r
theorem zig (r:K):∀ (l:List K) (a:K),(qtA a l r).length=l.length
 | [],_=>rfl
 | c :: l,a=>by show (qtA (a*r+c) l r).length+1=l.length+1; rw [zig r l]
end
section
variable {K:Type} [Mul K] [One K]
def pwK (x:K):Nat->K
 | 0=>1
 | n+1=>pwK x n*x
def IsOrd (x:K) (n:Nat):Prop:=1<=n/\pwK x n=1/\∀ k,1<=k->k<n->pwK x k≠1
theorem zgC {x:K} {n:Nat} (h1:1<=n) (h2:pwK x n=1) (h3:∀ k,pwK x k=1->n ∣ k):IsOrd x n :=
 ⟨h1,h2,fun k hk1 hk2 e=>by have:=Nat.le_of_dvd (by omega) (h3 k e); omega⟩
end
section
variable {K:Type} [Add K] [Mul K] [Neg K] [Zero K] [One K]
variable (F:Fie K)
include F
theorem zjs (x r:K):∀ (l:List K) (a b:K),evA (b*(x + -r)+a) l x=(x + -r)*evA b (qtA a l r) x+evA a l r
 | [],a,b=>by show b*(x + -r)+a=(x + -r)*b+a; rw [F.mulC]
 | c :: l,a,b=>by
  have ih:=zjs x r l (a*r+c) (b*x+a)
  show evA ((b*(x + -r)+a)*x+c) l x=(x + -r)*evA (b*x+a) (qtA (a*r+c) l r) x+evA (a*r+c) l r
  rw [<-ih]
  congr 1
  have h1:(b*(x + -r)+a)*x=b*x*(x + -r)+a*x:=by rw [F.distR,F.mulA,F.mulC (x + -r),<-F.mulA]
  have h2:(b*x+a)*(x + -r)=b*x*(x + -r)+(a*x + -(a*r)):=by rw [F.distR,F.dist a,F.mulNeg]
  rw [h1,h2,F.addA,F.addA,F.addA]
  congr 2
  rw [<-F.addA,F.negA,F.zeroA]
theorem zgD:∀ (n:Nat) (l rs:List K),l.length=n->rs.Nodup->(∀ r,r ∈ rs->evA 1 l r=0)->rs.length<=n
 | 0,l,rs,hl,_,hr=>by
  rw [List.length_eq_zero_iff] at hl
  subst hl
  cases rs with
  | nil=>exact Nat.le_refl _
  | cons r rs=>exact absurd (hr r (by simp)) F.ne
 | n+1,[],rs,hl,_,_=>by simp at hl
 | n + 1, c :: l, rs, hl, hn, hr => by
  cases rs with
  | nil=>exact Nat.zero_le _
  | cons r rs =>
   rw [List.nodup_cons] at hn
   have ih:=zgD n (qtA (1*r+c) l r) rs (by rw [zig]; simpa using hl) hn.2 fun s hs=>by
    have h1:=zjs F s r (c :: l) 1 0
    rw [F.zMul,F.zeroA,hr s (by simp [hs]),hr r (by simp),F.addZ] at h1
    have h2:evA 0 (qtA 1 (c :: l) r) s=evA 1 (qtA (1*r+c) l r) s:=by
     show evA (0*s+1) (qtA (1*r+c) l r) s=_
     rw [F.zMul,F.zeroA]
    rw [h2] at h1
    refine F.zeroOr h1.symm fun e=>hn.1 ?_
    rw [<-F.subEq e]
    exact hs
   simp only [List.length_cons]
   omega
theorem zfh (x:K):∀ (n:Nat) (a:K),evA a (List.replicate n 0 ++ [-1]) x=a*pwK x (n+1) + -1
 | 0,a=>by show a*x + -1=a*(1*x) + -1; rw [F.oneM]
 | n+1,a=>by
  show evA (a*x+0) (List.replicate n 0 ++ [-1]) x=_
  rw [zfh x n,F.addZ,F.mulA]
  congr 2
  have:∀ k,x*pwK x k=pwK x (k+1):=fun k=>by show x*pwK x k=pwK x k*x; rw [F.mulC]
  exact this _
theorem zgE (x:K) (a:Nat):∀ b,pwK x (a+b)=pwK x a*pwK x b
 | 0=>by show pwK x a=pwK x a*1; rw [F.mulOne]
 | b+1=>by show pwK x (a+b)*x=pwK x a*(pwK x b*x); rw [zgE x a b,F.mulA]
theorem zee (n:Nat):pwK (1:K) n=1:=by
 induction n with
 | zero=>rfl
 | succ n ih=>show pwK 1 n*1=1; rw [ih,F.oneM]
theorem zci (x:K) (a:Nat):∀ b,pwK x (a*b)=pwK (pwK x a) b
 | 0=>rfl
 | b+1=>by rw [Nat.mul_succ,zgE F,zci x a b]; rfl
theorem zef (x y:K):∀ n,pwK (x*y) n=pwK x n*pwK y n
 | 0=>by show (1:K)=1*1; rw [F.oneM]
 | n+1=>by
  show pwK (x*y) n*(x*y)=pwK x n*x*(pwK y n*y)
  rw [zef x y n,F.mulA,F.mulA,F.mulL (pwK y n)]
theorem zjt {x:K} (hx:x≠0):∀ n,pwK x n≠0
 | 0=>F.ne
 | n+1=>fun h=>hx (F.zeroOr h (zjt hx n))
theorem IsOrd.dvd {x:K} {n k:Nat} (h:IsOrd x n) (hk:pwK x k=1):n ∣ k:=by
 obtain ⟨h1,h2,h3⟩:=h
 have e:pwK x (k % n)=1:=by
  have:=Nat.div_add_mod k n
  rw [<-this,zgE F,zci F,h2,zee F,F.oneM] at hk
  exact hk
 have hlt:=Nat.mod_lt k (show n > 0 by omega)
 refine Nat.dvd_of_mod_eq_zero (Classical.byContradiction fun hne=>h3 (k % n) (by omega) hlt e)
theorem IsOrd.power {x:K} {d e:Nat} (h:IsOrd x (d*e)) (hd:1<=d):IsOrd (pwK x d) e:=by
 have he:1<=e:=by
  have:=h.1
  rcases Nat.eq_zero_or_pos e with h0 | h0
  ·rw [h0] at this; omega
  ·exact h0
 refine zgC he (by rw [<-zci F]; exact h.2.1) fun k hk=>?_
 rw [<-zci F] at hk
 exact Nat.dvd_of_mul_dvd_mul_left hd (h.dvd F hk)
theorem IsOrd.prod {x y:K} {a b:Nat} (h:IsOrd x a) (h':IsOrd y b) (hc:Nat.Coprime a b):IsOrd (x*y) (a*b):=by
 refine zgC (Nat.mul_pos h.1 h'.1) ?_ fun k hk=>?_
 ·rw [zef F,zci F,h.2.1,zee F,Nat.mul_comm,zci F,h'.2.1,zee F,F.oneM]
 ·rw [zef F] at hk
  have hb:b ∣ k:=by
   have h1:pwK y (k*a)=1:=by
    have h2:pwK (pwK x k*pwK y k) a=1:=by rw [hk,zee F]
    rw [zef F,<-zci F,<-zci F,Nat.mul_comm k a,zci F x,h.2.1,zee F,F.oneM,Nat.mul_comm a k] at h2
    exact h2
   exact (Nat.Coprime.dvd_of_dvd_mul_right hc.symm (h'.dvd F h1))
  have ha:a ∣ k:=by
   have h1:pwK x (k*b)=1:=by
    have h2:pwK (pwK x k*pwK y k) b=1:=by rw [hk,zee F]
    rw [zef F,<-zci F,<-zci F,Nat.mul_comm k b,zci F y,h'.2.1,zee F,F.mulOne,Nat.mul_comm b k] at h2
    exact h2
   exact (Nat.Coprime.dvd_of_dvd_mul_right hc (h.dvd F h1))
  exact Nat.Coprime.mul_dvd_of_dvd_of_dvd hc ha hb
end
def PrimeN (p:Nat):Prop:=2<=p/\∀ d,d ∣ p->d=1∨d=p
theorem zco {p a:Nat} (hp:PrimeN p) (ha:¬ p ∣ a):Nat.Coprime p a:=by
 rcases hp.2 _ (Nat.gcd_dvd_left p a) with h | h
 ·exact h
 ·exact absurd (h ▸ Nat.gcd_dvd_right p a) ha
theorem zeN:∀ b,2<=b->∃ p,PrimeN p/\p ∣ b:=by
 intro b
 induction b using Nat.strongRecOn with
 | ind b ih =>
  intro hb
  by_cases h:∃ d,d ∣ b/\d≠1/\d≠b
  ·obtain ⟨d,h1,h2,h3⟩:=h
   have hle:=Nat.le_of_dvd (by omega) h1
   have h0:d≠0:=fun e=>by rw [e,Nat.zero_dvd] at h1; omega
   obtain ⟨p,hp,hpd⟩:=ih d (by omega) (by omega)
   exact ⟨p,hp,Nat.dvd_trans hpd h1⟩
  ·exact ⟨b,⟨hb,fun d hd=>Classical.byContradiction fun hn=>h ⟨d,hd,fun e=>hn (.inl e),fun e=>hn (.inr e)⟩⟩,Nat.dvd_refl b⟩
theorem zfi {p:Nat} (hp:2<=p):∀ b,1<=b->∃ v c,b=p ^ v*c/\¬ p ∣ c:=by
 intro b
 induction b using Nat.strongRecOn with
 | ind b ih =>
  intro hb
  by_cases h:p ∣ b
  ·obtain ⟨c,rfl⟩:=h
   have hc:1<=c:=by
    rcases Nat.eq_zero_or_pos c with e | e
    ·rw [e] at hb; omega
    ·exact e
   have hlt:c<p*c:=by
    have:=Nat.mul_le_mul_right c hp
    omega
   obtain ⟨v,d,e,hd⟩:=ih c hlt hc
   refine ⟨v+1,d,?_,hd⟩
   rw [Nat.pow_succ,Nat.mul_comm (p ^ v) p,Nat.mul_assoc,<-e]
  ·exact ⟨0,b,by simp,h⟩
theorem zfJ {a:Nat}:∀ b,1<=b->¬ b ∣ a->∃ p k,PrimeN p/\p ^ k ∣ b/\¬ p ^ k ∣ a:=by
 intro b
 induction b using Nat.strongRecOn with
 | ind b ih =>
  intro hb hn
  have hb2:2<=b:=by
   rcases (show b=1∨2<=b by omega) with e | e
   ·exact absurd (by rw [e]; exact Nat.one_dvd a) hn
   ·exact e
  obtain ⟨p,hp,hpb⟩:=zeN b hb2
  obtain ⟨v,c,e,hc⟩:=zfi hp.1 b hb
  by_cases h:p ^ v ∣ a
  ·have hcop:Nat.Coprime (p ^ v) c:=Nat.Coprime.pow_left v (zco hp hc)
   have hca:¬ c ∣ a:=fun hca=>hn (by rw [e]; exact Nat.Coprime.mul_dvd_of_dvd_of_dvd hcop h hca)
   have hv:v≠0:=fun h0=>by
    rw [h0,Nat.pow_zero,Nat.one_mul] at e;rw [e] at hpb
    exact hc hpb
   have hc1:1<=c:=by
    rcases Nat.eq_zero_or_pos c with h0 | h0
    ·rw [h0] at e; omega
    ·exact h0
   have hlt:c<b:=by
    have h1:2<=p ^ v:=Nat.le_trans hp.1 (by
     have:=Nat.pow_le_pow_right (show 0<p by have:=hp.1; omega) (show 1<=v by omega)
     simpa using this)
    have:=Nat.mul_le_mul_right c h1
    omega
   obtain ⟨p',k,h1,h2,h3⟩:=ih c hlt hc1 hca
   exact ⟨p',k,h1,by rw [e]; exact Nat.dvd_trans h2 (Nat.dvd_mul_left c _),h3⟩
  ·exact ⟨p,v,hp,by rw [e]; exact Nat.dvd_mul_right _ _,h⟩
section
variable {K:Type} [Add K] [Mul K] [Neg K] [Zero K] [One K] (F:Fie K)
include F
theorem zeg {x y:K} {a b:Nat} (hx:IsOrd x a) (hy:IsOrd y b) (h:¬ b ∣ a):∃ (z:K) (n:Nat),IsOrd z n/\a<n:=by
 obtain ⟨p,k,hp,h1,h2⟩:=zfJ b hy.1 h
 obtain ⟨v,c,e,hc⟩:=zfi hp.1 a hx.1
 have hp0:0<p:=by have:=hp.1; omega
 have hvk:v<k:=Classical.byContradiction fun hn=>h2 (by
  rw [e]
  exact Nat.dvd_trans (Nat.pow_dvd_pow p (by omega)) (Nat.dvd_mul_right _ _))
 obtain ⟨d,hd⟩:=h1
 have hd1:1<=d:=by
  have:=hy.1
  rcases Nat.eq_zero_or_pos d with h0 | h0
  ·rw [h0] at hd; omega
  ·exact h0
 have o1:IsOrd (pwK x (p ^ v)) c:=IsOrd.power F (by rw [<-e]; exact hx) (Nat.pow_pos hp0)
 have o2:IsOrd (pwK y d) (p ^ k):=IsOrd.power F (by rw [Nat.mul_comm,<-hd]; exact hy) hd1
 have hcop:Nat.Coprime c (p ^ k):=(Nat.Coprime.pow_left k (zco hp hc)).symm
 refine ⟨_,_,o1.prod F o2 hcop,?_⟩
 rw [e,Nat.mul_comm c]
 exact Nat.mul_lt_mul_of_pos_right (Nat.pow_lt_pow_right hp.1 hvk) o1.1
theorem zcO {L:List K} (hn:L.Nodup) (hc:∀ a,a ∈ L):∃ x:K,x≠0/\IsOrd x (L.length - 1):=by
 classical
 have hpig:∀ {l m:List K},l.Nodup->(∀ x,x ∈ l->x ∈ m)->l.length<=m.length:=by
  intro l
  induction l with
  | nil=>intro m _ _; exact Nat.zero_le _
  | cons a l ih =>
   intro m h1 h2
   have ha:=h2 a (by simp)
   rw [List.nodup_cons] at h1
   have hl:=List.length_erase_of_mem ha
   have hp:=ih (m:=m.erase a) h1.2 fun x hx=>(List.mem_erase_of_ne (fun e:x=a=>h1.1 (by rw [<-e]; exact hx))).2 (h2 x (by simp [hx]))
   have hpos:=List.length_pos_of_mem ha
   simp only [List.length_cons]
   omega
 have hU:(L.erase 0).length=L.length - 1:=List.length_erase_of_mem (hc 0)
 have hUm:∀ x:K,x≠0->x ∈ L.erase 0:=fun x hx=>(List.mem_erase_of_ne hx).2 (hc x)
 -- powers below the order are different
 have hinj:∀ (x:K) (n:Nat),x≠0->(∀ k,1<=k->k<n->pwK x k≠1)->((List.range n).map (pwK x)).Nodup:=by
  intro x n hx hk
  rw [List.Nodup,List.pairwise_map]
  have key:∀ i j,i<j->j<n->pwK x i≠pwK x j:=fun i j hij hj e=>by
   refine hk (j - i) (by omega) (by omega) ?_
   rw [show j=i+(j - i) by omega,zgE F] at e
   have h1:pwK x i*pwK x (j - i)=pwK x i*1:=by rw [<-e,F.mulOne]
   obtain ⟨y,hy⟩:=F.inv _ (zjt F hx i)
   have h2:y*(pwK x i*pwK x (j - i))=y*(pwK x i*1):=by rw [h1]
   rwa [<-F.mulA,<-F.mulA,F.mulC y,hy,F.oneM,F.oneM] at h2
  refine List.Pairwise.imp_of_mem (R:=fun a b=>a<b) (fun {a b} ha hb hab=>key a b hab (List.mem_range.1 hb)) List.pairwise_lt_range
 have hle:∀ (x:K) (n:Nat),x≠0->(∀ k,1<=k->k<n->pwK x k≠1)->n<=L.length - 1:=fun x n hx hk=>by
  have:=hpig (hinj x n hx hk) (m:=L.erase 0) fun z hz=>by
   obtain ⟨i,_,rfl⟩:=List.mem_map.1 hz
   exact hUm _ (zjt F hx i)
  rw [hU] at this
  simpa using this
 have hord:∀ x:K,x≠0->∃ n,IsOrd x n:=fun x hx=>by
  have hex:∃ n,1<=n/\pwK x n=1:=Classical.byContradiction fun hno=>by
   have:=hle x (L.length+1) hx fun k h1 _ e=>hno ⟨k,h1,e⟩
   omega
  obtain ⟨n,h1,h2⟩:=zhz hex
  exact ⟨n,h1.1,h1.2,fun k h3 h4 e=>h2 k h4 ⟨h3,e⟩⟩
 -- the greatest order
 have hmax:∃ x n,x≠(0:K)/\IsOrd x n/\∀ y m,y≠(0:K)->IsOrd y m->m<=n:=by
  refine Classical.byContradiction fun hno=>?_
  have step:∀ t,∃ x n,x≠(0:K)/\IsOrd x n/\t<=n:=by
   intro t
   induction t with
   | zero =>
    obtain ⟨n,h⟩:=hord 1 F.ne
    exact ⟨1,n,F.ne,h,Nat.zero_le _⟩
   | succ t ih =>
    obtain ⟨x,n,h1,h2,h3⟩:=ih
    refine Classical.byContradiction fun hn2=>hno ⟨x,n,h1,h2,fun y m hy hm=>?_⟩
    refine Classical.byContradiction fun hlt=>hn2 ⟨y,m,hy,hm,by omega⟩
  obtain ⟨x,n,h1,h2,h3⟩:=step (L.length+1)
  have:=hle x n h1 h2.2.2
  omega
 obtain ⟨x,e,hx,he,hbig⟩:=hmax
 refine ⟨x,hx,?_⟩
 have h1:=hle x e hx he.2.2
 have hall:∀ y:K,y≠0->pwK y e=1:=fun y hy=>by
  obtain ⟨m,hm⟩:=hord y hy
  have hdv:m ∣ e:=Classical.byContradiction fun hnd=>by
   obtain ⟨z,n,hz,hlt⟩:=zeg F he hm hnd
   have hz0:z≠0:=fun e0=>by
    have h2:=hz.2.1
    rw [e0] at h2
    have h3:=hz.1
    obtain ⟨k,rfl⟩:∃ k,n=k+1:=⟨n - 1,by omega⟩
    rw [show pwK (0:K) (k+1)=pwK 0 k*0 from rfl,F.mulZ] at h2
    exact F.ne h2.symm
   have:=hbig z n hz0 hz
   omega
  obtain ⟨k,rfl⟩:=hdv
  rw [zci F,hm.2.1,zee F]
 have hroots:=zgD F e (List.replicate (e - 1) 0 ++ [-1]) (L.erase 0) (by have:=he.1; simp; omega) (hn.erase 0) fun r hr=>by
  have hr0:r≠0:=fun e0=>by rw [e0] at hr; exact (List.Nodup.mem_erase_iff hn).1 hr |>.1 rfl
  rw [zfh F,F.oneM,show e - 1+1=e by have:=he.1; omega,hall r hr0,F.addN]
 rw [hU] at hroots
 obtain rfl:e=L.length - 1:=by omega
 exact he
end
theorem ziP {P M:Int} (h:256<P):ordV P M=0:=by
 unfold ordV
 split
 ·rename_i h2
  exfalso
  obtain ⟨h3,h4,_,h5⟩:=h2
  have h6:=Nat.pow_le_pow_right (n:=P.toNat) (show 0<P.toNat by omega) (show 1<=M.toNat by omega)
  rw [Nat.pow_one] at h6
  omega
 ·rfl
theorem zcj (P M : Int) (w : World) : Calls Tryz.prog 146 #[.int .i64 P, .int .i64 M] w (OrderPost P M w) := by
 by_cases h1:P<2
 ·have hz:=hid (zc7 (P:=P) (M:=M) (.inl h1))
  go_enter Tryz.func146, Tryz.ntmps146
  go_wp2
  go_ret
  exact zaF hz.out (Below.refl _ _)
 ·by_cases h2:P > 256
  ·have hz:=hid (ziP (P:=P) (M:=M) h2)
   go_enter Tryz.func146, Tryz.ntmps146
   go_wp2
   go_ret
   exact zaF hz.out (Below.refl _ _)
  ·by_cases h3:M<1
   ·have hz:=hid (zc7 (P:=P) (M:=M) (.inr (.inl h3)))
    go_enter Tryz.func146, Tryz.ntmps146
    go_wp2
    go_ret
    exact zaF hz.out (Below.refl _ _)
   ·by_cases h4:M > 8
    ·have hz:=hid (zc7 (P:=P) (M:=M) (.inr (.inr h4)))
     go_enter Tryz.func146, Tryz.ntmps146
     go_wp2
     go_ret
     exact zaF hz.out (Below.refl _ _)
    ·obtain ⟨p,rfl⟩:∃ p:Nat,P=p:=⟨P.toNat,by omega⟩
     obtain ⟨m,rfl⟩:∃ m:Nat,M=m:=⟨M.toNat,by omega⟩
     have HVAL:Hid (∀ v:Nat,(p ^ m<=256->v=p ^ m)->(256<p ^ m->v=0)->ordV (p:Int) (m:Int)=(v:Int)):=fun v hv1 hv2=>by
      unfold ordV
      rw [Int.toNat_natCast,Int.toNat_natCast]
      by_cases h:p ^ m<=256
      ·rw [if_pos ⟨by omega,by omega,by omega,h⟩,hv1 h]
      ·rw [if_neg (fun hh=>h hh.2.2.2),hv2 (by omega)]; rfl
     have hm0:(0:Int)<=(m:Int):=by omega
     go_enter Tryz.func146, Tryz.ntmps146
     go_wp2
     go_loopg [5,21] m (fun gg qv iv wx=>∃ i y:Nat,qv=.int .i64 (y:Nat)/\iv=.int .i64 (i:Nat)/\i<=m/\m<=i+gg/\Hid (y=p ^ i)/\y<=256/\wx=w)
     case atStart=>exact ⟨0,1,rfl,rfl,by omega,by omega,rfl,by omega,rfl⟩
     case round =>
      obtain ⟨i,y,rfl,rfl,hi,hig,HY,hy,hwx⟩:=hrel
      subst hwx
      by_cases hlt:i<m
      ·have hlt':(i:Int)<(m:Int):=by omega
       obtain ⟨z,hz⟩:∃ z,z=y*p:=⟨_,rfl⟩
       have hzz:(y:Int)*(p:Int)=(z:Int):=by rw [hz]; simp
       have hzl:z<=65536:=by rw [hz]; exact Nat.mul_le_mul (show y<=256 by omega) (show p<=256 by omega)
       have HZ:Hid (z=p ^ (i+1)):=by show _=_; rw [hz,HY.out,Nat.pow_succ]
       clear hz
       by_cases hb:z > 256
       ·have hb':(z:Int) > 256:=by omega
        have hno:=hid (HVAL.out 0 (fun h=>by
         have h5:=Nat.pow_le_pow_right (n:=p) (by omega) (show i+1<=m by omega)
         rw [<-HZ.out] at h5
         omega) (fun _=>rfl))
        go_wp2
        go_ret
        exact ⟨by rw [hno.out]; rfl,Below.refl _ _⟩
       ·have hb':¬ (z:Int) > 256:=by omega
        go_wp2
        go_roundg (gk - 1)
        case measure=>omega
        case rel=>exact ⟨i+1,z,rfl,by go_num,by omega,by omega,HZ,by omega,rfl⟩
      ·have hlt':¬ (i:Int)<(m:Int):=by omega
       obtain rfl:i=m:=by omega
       have hyes:=hid (HVAL.out y (fun _=>HY.out) (fun h=>by have:=HY.out; omega))
       go_wp2
       go_ret
       exact ⟨by rw [hyes.out]; rfl,Below.refl _ _⟩
theorem zdE {n d:Nat} (hd:n<d*d) (h:∀ e,2<=e->e<d->n % e≠0):PrimeB n:=by
 intro e h1 h2 h3
 obtain ⟨f,hf⟩:=Nat.dvd_of_mod_eq_zero h3
 have hf2:2<=f:=by
  rcases (show f=0∨f=1∨2<=f by omega) with e0 | e0 | e0
  ·subst e0; omega
  ·subst e0; omega
  ·exact e0
 by_cases he:e<d
 ·exact h e h1 he h3
 ·by_cases hfd:f<d
  ·exact h f hf2 hfd (by rw [hf]; exact Nat.mul_mod_left e f)
  ·have:=Nat.mul_le_mul (show d<=e by omega) (show d<=f by omega)
   omega
theorem zfK (P:Nat) (w:World) (hP2:2<=P) (hP:P<=256) :
  Calls Tryz.prog 210 #[.int .i64 (P:Nat)] w (PrimePost P w):=by
 have hP2':(P:Int) ≥ 2:=by omega
 have hP2'':(2:Int)<=(P:Int):=by omega
 go_enter Tryz.func210, Tryz.ntmps210
 go_wp2
 go_loopg [3] 20 (fun gg iv wx=>∃ d:Nat,iv=.int .i64 (d:Nat)/\2<=d/\d<=17/\20<=d+gg/\Hid (∀ d',2<=d'->d'<d->P % d'≠0)/\wx=w)
 case atStart=>exact ⟨2,rfl,by omega,by omega,by omega,fun d' h1 h2=>absurd h1 (by omega),rfl⟩
 case round =>
  obtain ⟨d,rfl,h2,hd,hdg,HG,hwx⟩:=hrel
  subst hwx
  have hd2:(2:Int)<=(d:Int):=by omega
  have hd0:¬ (d:Int)=0:=by omega
  have hdm:(d:Int)<=17:=by omega
  obtain ⟨z,hz⟩:∃ z,z=d*d:=⟨_,rfl⟩
  have hzz:(d:Int)*(d:Int)=(z:Int):=by rw [hz]; simp
  have hzl:z<=289:=by rw [hz]; exact Nat.mul_le_mul hd hd
  have HZ:=hid hz
  clear hz
  by_cases hlt:z<=P
  ·have hlt':(z:Int)<=(P:Int):=by omega
   have hmod:(P:Int) % (d:Int)=((P % d:Nat):Int):=by simp
   obtain ⟨r,hr⟩:∃ r,r=P % d:=⟨_,rfl⟩
   rw [<-hr] at hmod
   have HR:=hid hr
   clear hr
   have hd16:d<=16:=Classical.byContradiction fun hn=>by
    obtain rfl:d=17:=by omega
    have:=HZ.out
    omega
   by_cases h0:r=0
   ·subst h0
    have HNO:Hid (¬ PrimeB P):=fun h=>h d h2 (by
     have:=HZ.out
     have h5:2*d<=d*d:=Nat.mul_le_mul_right d h2
     omega) HR.out.symm
    go_wp2
    go_ret
    exact ⟨false,rfl,⟨(fun h=>by cases h),fun h=>absurd h HNO.out⟩,rfl⟩
   ·have hb:((r:Int) == 0)=false:=by simp; omega
    have hnx:Hid (∀ d',2<=d'->d'<d+1->P % d'≠0):=fun d' e1 e2=>by
     by_cases e:d'=d
     ·rw [e,<-HR.out]; exact h0
     ·exact HG.out d' e1 (by omega)
    go_wp2
    go_roundg (gk - 1)
    case measure=>omega
    case rel=>exact ⟨d+1,by go_num,by omega,by omega,by omega,hnx,rfl⟩
  ·have hlt':¬ (z:Int)<=(P:Int):=by omega
   have HYES:=hid (zdE (n:=P) (d:=d) (by have:=HZ.out; omega) HG.out)
   go_wp2
   go_ret
   exact ⟨true,rfl,⟨fun _=>HYES.out,fun _=>rfl⟩,rfl⟩
theorem zcP (x p n:Nat) (w:World) (hx:x<=1048576) (hp:1<=p) (hp2:p<=256) (hn:n<=64) :
  Calls Tryz.prog 250 #[.int .i64 (x:Nat),.int .i64 (p:Nat),.int .i64 (n:Nat)] w (RowPost n (fun i=>.int .i64 (dig p x i:Nat)) w):=by
 have hmk:=fun W=>zaf (P:=Tryz.prog) 22 3 _ 8 Tryz.underlying22 Tryz.infoInt rfl (n:Int) (by omega) (by omega) (by omega) W
 simp only [Int.toNat_natCast] at hmk
 have row:=World.rowIs_made w (.int .i64 0) n 3
 have hB:Below w.heap.size w (w.alloc (.cells (madeCells #[.int .i64 0] n) 3)):=(Below.refl _ _).alloc (Nat.le_refl _) _
 have hp1:(1:Int)<=(p:Int):=by omega
 have hp0:¬ (p:Int)=0:=by omega
 have hpm:(p:Int)<=256:=by omega
 go_enter Tryz.func250, Tryz.ntmps250
 go_wp2
 obtain ⟨w1,hw1⟩:∃ W,W=w.alloc (.cells (madeCells #[.int .i64 0] n) 3):=⟨_,rfl⟩
 obtain ⟨g,hg⟩:∃ g,g=w.heap.size:=⟨_,rfl⟩
 rw [<-hw1,<-hg];rw [<-hw1] at hB row;rw [<-hg] at row
 have hgB:w.heap.size<=g:=by omega
 clear hw1 hg hmk
 go_loopg [0,8,13] n (fun gg xv _ iv wx=>∃ i:Nat,iv=.int .i64 (i:Nat)/\xv=.int .i64 (x / p ^ i:Nat)/\i<=n/\n<=i+gg/\wx.rowIs g 3 n (fun j=>.int .i64 (if j<i then (dig p x j:Nat) else 0:Int))/\Below w.heap.size w wx)
 case atStart=>exact ⟨0,rfl,by simp,by omega,by omega,row.congr fun i _=>rfl,hB⟩
 case round =>
  clear row hB
  obtain ⟨i,rfl,rfl,hi,hig,row,hB⟩:=hrel
  have hi0:(0:Int)<=(i:Int):=by omega
  have hle:x / p ^ i<=x:=Nat.div_le_self _ _
  have hst:x / p ^ (i+1)=x / p ^ i / p:=by rw [Nat.pow_succ,Nat.div_div_eq_div_mul]
  have hdg:dig p x i=x / p ^ i % p:=rfl
  obtain ⟨y,hy⟩:∃ y,y=x / p ^ i:=⟨_,rfl⟩
  rw [<-hy] at hle hst hdg;rw [<-hy]
  have HST:=hid hst
  have HDG:=hid hdg
  clear hy hst hdg
  by_cases hlt:i<n
  ·have hlt':(i:Int)<(n:Int):=by omega
   have hy0:(0:Int)<=(y:Int):=by omega
   have hy1:(y:Int)<=1048576:=by omega
   have hmod:(y:Int) % (p:Int)=((y % p:Nat):Int):=by simp
   have hdiv:(y:Int) / (p:Int)=((y / p:Nat):Int):=by simp
   obtain ⟨r,hr⟩:∃ r,r=y % p:=⟨_,rfl⟩
   obtain ⟨z,hz⟩:∃ r,r=y / p:=⟨_,rfl⟩
   rw [<-hr] at hmod;rw [<-hz] at hdiv
   have hz0:(0:Int)<=(z:Int):=by omega
   have hz1:(z:Int)<=1048576:=by have:y / p<=y:=Nat.div_le_self _ _; omega
   have HR:=hid hr
   have HZ:=hid hz
   clear hr hz
   have c0:=row.cell hlt
   have z0:=row.frozen i
   have HROW2:Hid ((wr.setCell ⟨g,i,none⟩ (.int .i64 (r:Int))).rowIs g 3 n (fun j=>.int .i64 (if j<i+1 then (dig p x j:Nat) else 0:Int))):=(row.set i _).congr fun j hj=>by
    by_cases e:j=i
    ·subst e
     rw [if_pos rfl,if_pos (by omega),HDG.out,HR.out]
    ·rw [if_neg e]
     by_cases e2:j<i
     ·rw [if_pos e2,if_pos (by omega)]
     ·rw [if_neg e2,if_neg (by omega)]
   have HB2:Hid (Below w.heap.size w (wr.setCell ⟨g,i,none⟩ (.int .i64 (r:Int)))):=hB.setCell hgB _
   clear row hB
   go_wp2
   go_roundg (gk - 1)
   case measure=>omega
   case rel=>exact ⟨i+1,by go_num,by rw [HST.out,HZ.out],by omega,by omega,HROW2.out,HB2.out⟩
  ·obtain rfl:i=n:=by omega
   have hlt':¬ (i:Int)<(i:Int):=by omega
   have hrow:Hid (wr.rowIs g 3 i (fun j=>.int .i64 (dig p x j:Nat))):=row.congr fun j hj=>by rw [if_pos hj]
   clear row
   go_wp2
   go_ret
   exact ⟨g,rfl,hgB,hrow.out,hB⟩
theorem zfL (P:Nat) (T:Option Addr) (n d:Nat) (f:Nat->Nat) (w:World) (hP2:2<=P) (hP:P<=256) (h:IntsR w w.heap.size T n (fun i=>(f i:Nat))) (hd:Hid (∀ i,i<n->f i<P)) (hn:P ^ n<=256) (hn8:n<=8) :
  Calls Tryz.prog 251 #[.slice T n d,.int .i64 (P:Nat)] w fun e w'=>e=.returned (.int .i64 (valN P f n:Nat))/\Below w.heap.size w w':=by
 have hT:=hid h
 clear h
 go_enter Tryz.func251, Tryz.ntmps251
 go_wp2
 go_loopg [5,6] n (fun gg xv iv wx=>∃ j:Nat,iv=.int .i64 ((n:Int) - 1 - (j:Nat))/\xv=.int .i64 (valN P (fun i=>f (n - j+i)) j:Nat)/\j<=n/\n<=j+gg/\Below w.heap.size w wx)
 case atStart=>exact ⟨0,by go_num,rfl,by omega,by omega,Below.refl _ _⟩
 case round =>
  obtain ⟨j,rfl,rfl,hj,hjg,hB⟩:=hrel
  have hvl:=za9 (p:=P) (n:=j) (f:=fun i=>f (n - j+i)) (fun i hi=>hd.out _ (by omega))
  have hpw:P ^ j<=P ^ n:=Nat.pow_le_pow_right (by omega) hj
  by_cases hlt:j<n
  ·have hge:(0:Int)<=(n:Int) - 1 - (j:Int):=by omega
   obtain ⟨i,hi⟩:∃ i:Nat,i=n - 1 - j:=⟨_,rfl⟩
   have hii:(n:Int) - 1 - (j:Int)=(i:Int):=by omega
   have hin:i<n:=by omega
   have hin':(i:Int)<(n:Int):=by omega
   have hi0:(0:Int)<=(i:Int):=by omega
   rw [hii]
   obtain ⟨b,o,rfl,hb,e0⟩:=(hT.out.on hB).at hin
   have hfi:=hd.out i hin
   have hnx:valN P (fun t=>f (n - (j+1)+t)) (j+1)=f i+P*valN P (fun t=>f (n - j+t)) j:=by
    show f (n - (j+1)+0)+P*valN P (fun t=>f (n - (j+1)+(t+1))) j=_
    rw [show n - (j+1)+0=i by omega]
    congr 2
    exact zaP fun t _=>by rw [show n - (j+1)+(t+1)=n - j+t by omega]
   obtain ⟨V,hV⟩:∃ V,V=valN P (fun t=>f (n - j+t)) j:=⟨_,rfl⟩
   obtain ⟨D,hD⟩:∃ D,D=f i:=⟨_,rfl⟩
   rw [<-hV] at hvl hnx;rw [<-hD] at e0 hfi hnx;rw [<-hV]
   have HNX:=hid hnx
   have HII:=hid hii
   clear hV hD hnx hi hii hge
   have hV0:(0:Int)<=(V:Int):=by omega
   have hV1:(V:Int)<=256:=by omega
   have hD0:(0:Int)<=(D:Int):=by omega
   have hD1:(D:Int)<=256:=by omega
   have hVP:V*P<=256*256:=Nat.mul_le_mul (by omega) hP
   have hmul:(V:Int)*(P:Int)=((V*P:Nat):Int):=by simp
   obtain ⟨R,hR⟩:∃ R,R=V*P:=⟨_,rfl⟩
   rw [<-hR] at hVP hmul
   have HR:=hid hR
   clear hR
   have hw1:IntKind.i64.wrap ((V:Int)*(P:Int))=(R:Int):=by rw [hmul]; exact IntWalk.i64_in _ (by omega)
   have hw2:IntKind.i64.wrap ((R:Int)+(D:Int))=(R:Int)+(D:Int):=IntWalk.i64_in _ (by omega)
   have hw3:IntKind.i64.wrap (R:Int)=(R:Int):=IntWalk.i64_in _ (by omega)
   go_wp2
   go_roundg (gk - 1)
   case measure=>omega
   case rel=>exact ⟨j+1,by have:=HII.out; go_num,by rw [HNX.out,Nat.mul_comm P V,<-HR.out]; go_num,by omega,by omega,hB⟩
  ·obtain rfl:j=n:=by omega
   have hge:¬ (0:Int)<=(j:Int) - 1 - (j:Int):=by omega
   have hge2:¬ (j:Int)<=(j:Int) - 1:=by omega
   have hv:valN P (fun i=>f (j - j+i)) j=valN P f j:=zaP fun i _=>by rw [show j - j+i=i by omega]
   rw [hv] at hvl ⊢
   obtain ⟨V,hV⟩:∃ V,V=valN P f j:=⟨_,rfl⟩
   rw [<-hV] at hvl ⊢
   have HV:=hid hV
   clear hV hv
   go_wp2
   go_ret
   exact ⟨by rw [HV.out]; rfl,hB⟩
end Go.Proofs.YtioagplajkoohaaGreat