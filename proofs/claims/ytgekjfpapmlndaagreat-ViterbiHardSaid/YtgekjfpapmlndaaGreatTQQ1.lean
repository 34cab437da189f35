/- Merged texts of a claim. -/
import Derived.Test.YtgekjfpapmlndaaGreatTM14
import Derived.Test.YtgekjfpapmlndaaGreatRows
import Derived.WalkKit
import Derived.WalkSpells
import Derived.WalkLawsBesides
import Derived.Deep.OwnRows
import Derived.ProofKit
import Derived.Deep.RegionHeld3
import Derived.Deep.AppendSrc
import Derived.Maps.AppendAt
import Derived.Deep.LoopGhost
import Derived.IntWalk
import Derived.Deep.DeepCutAuto
import Derived.Laws.Bits64b
import Derived.Shelf.Small.Bits
import Derived.Deep.QuietTactic
import Derived.BigQuiet
import Derived.Deep.Slices
import Derived.Lib.SmallJoins
import Derived.Deep.Cut
import Derived.Deep.CutBlock
import Derived.StillTailTactics
import Derived.SizedLaws
import Derived.Laws.CopyOwn
import Derived.Laws.StructEq
namespace Go.Proofs.YtgekjfpapmlndaaGreat
set_option maxRecDepth 100000
set_option maxHeartbeats 32000000
open Go.RowKit
open Go.Shelf
open Go.ChangeShapes Go.WideShapes Go.ChangeAt
theorem ybh {w wr:World} {o1 o2:Obj} (h:Below (w.heap.size+2) ((w.alloc o1).alloc o2) wr):Below (w.heap.size+1) (w.alloc o1) wr:=((Below.refl _ _).alloc (by simp) _).trans (h.mono (by omega))
namespace Fie
variable {K:Type} [Add K] [Mul K] [Neg K] [Zero K] [One K] (F:Fie K)
include F
end Fie
theorem ybi {P M:Nat} {m:Nat->Nat} {V:Nat->Nat->Nat} {x:Nat->Nat} (hL:FieldLaws (P ^ M) (addF P M) (mulF P M m)) {i j:Nat} (hx:x i<P ^ M) (y:Nat) (hy:y=spE (addF P M) (mulF P M m) V x i j):atF P M m (x i) (fun _=>y) (V i) j=spE (addF P M) (mulF P M m) V x (i+1) j:=by
 have hyl:y<P ^ M:=by rw [hy]; exact zbb hL x i j
 unfold atF
 show _=addF P M (spE (addF P M) (mulF P M m) V x i j) (mulF P M m (x i) (V i j))
 rw [<-hy]
 split
 ·rename_i h
  rw [h,hL.mulZero hx,hL.addZero hyl]
 ·rfl
theorem ybj {P M:Nat} {m:Nat->Nat} {V:Nat->Nat->Nat} {x:Nat->Nat} (hL:FieldLaws (P ^ M) (addF P M) (mulF P M m)) {i j:Nat} (hx:x i=0) (hV:V i j<P ^ M):spE (addF P M) (mulF P M m) V x (i+1) j=spE (addF P M) (mulF P M m) V x i j:=by
 have h2:=hL.two
 show addF P M (spE (addF P M) (mulF P M m) V x i j) (mulF P M m (x i) (V i j))=_
 rw [hx,hL.mulComm 0 _ (by omega) hV,hL.mulZero hV,hL.addZero (zbb hL x i j)]
theorem yaA (P M:Nat) (A:Option Addr) (k c:Nat) (m:Nat->Nat) (X:Option Addr) (xc:Nat) (x:Nat->Nat) (T:Option Addr) (n d N:Nat) (V:Nat->Nat->Nat) (w:World) (hf:FieldOk P M m) (hm:ModOk w P M A m) (hkM:M=1∨k=M)
  (hx:IntsR w w.heap.size X n (fun i=>(x i:Nat))) (hxq:∀ i,i<n->x i<P ^ M) (h:MRows w T n N V) (hV:∀ i,i<n->∀ j,j<N->V i j<P ^ M) (hN2:N<=1048576) (hn:n<=1048576) :
  Calls Tryz.prog 64 #[.agg #[.int .i64 (P:Nat),.int .i64 (M:Nat),.slice A k c],.slice X n xc,.slice T n d,.int .i64 (N:Nat)] w (RowPost N (fun j=>.int .i64 (spE (addF P M) (mulF P M m) V x n j:Nat)) w):=by
 have hfo:=hf.1
 have hL:=fieldLaws hf
 have HX:=hid hx
 have HXQ:=hid hxq
 have HT:=hid h
 have HV:=hid hV
 clear hx hxq h hV
 have hB:Below w.heap.size w (w.alloc (.cells #[.int .i64 (P:Nat),.int .i64 (M:Nat),.slice A k c] 24)):=(Below.refl _ _).alloc (Nat.le_refl _) _
 have rf:=zaf (w:=w) (a:=.int .i64 (P:Nat)) (b:=.int .i64 (M:Nat)) (c:=.slice A k c) (T := 24)
 obtain ⟨w0,hw0⟩:∃ W,W=w.alloc (.cells #[.int .i64 (P:Nat),.int .i64 (M:Nat),.slice A k c] 24):=⟨_,rfl⟩
 rw [<-hw0] at hB rf
 have hmk:=fun W=>zah (P:=Tryz.prog) 22 3 _ 8 Tryz.underlying22 Tryz.infoInt rfl (N:Int) (by omega) (by omega) (by omega) W
 simp only [Int.toNat_natCast] at hmk
 go_enter Tryz.func64, Tryz.ntmps64
 go_upto_region 1 with fail
 rw [<-hw0];clear hw0
 go_upto_region 2 with fail
 have kb:=(Below.refl w0.heap.size w0).alloc (Nat.le_refl _) (Obj.cells (madeCells #[Value.int .i64 0] N) 3)
 have ra:=World.rowIs_made w0 (.int .i64 0) N 3
 have hfl:=rf.lt
 have hgz:=hB.size
 obtain ⟨w1,hw1⟩:∃ W,W=w0.alloc (Obj.cells (madeCells #[Value.int .i64 0] N) 3):=⟨_,rfl⟩
 obtain ⟨g,hg⟩:∃ b,b=w0.heap.size:=⟨_,rfl⟩
 rw [<-hw1] at kb ra ⊢;rw [<-hg] at ra hfl hgz ⊢;replace rf:=zab rf kb;replace hB:=onS hB kb
 have HRA:Hid (w1.rowIs g 3 N (fun j=>.int .i64 (spE (addF P M) (mulF P M m) V x 0 j:Nat))):=ra.congr fun t _=>rfl
 clear kb hw1 hg hmk hfl ra
 go_wp2
 go_loopg [9,10] n (fun gg ov iv wx=>∃ i g2:Nat,ov=.slice (some ⟨g2,0,none⟩) N N/\iv=.int .i64 (i:Nat)/\w.heap.size<=g2/\i<=n/\n<=i+gg/\Hid (wx.rowIs g2 3 N (fun j=>.int .i64 (spE (addF P M) (mulF P M m) V x i j:Nat)))/\wx.rowIs w.heap.size 24 3 (fldCell (.int .i64 (P:Nat)) (.int .i64 (M:Nat)) (.slice A k c))/\Below w.heap.size w wx)
 case atStart=>exact ⟨0,g,rfl,rfl,hgz,by omega,by omega,HRA,rf,hB⟩
 case round =>
  clear rf hB HRA
  obtain ⟨i,g2,rfl,rfl,hg2,hi,hig,HRA,rf,hB⟩:=hrel
  have hi0:(0:Int)<=(i:Int):=by omega
  by_cases hlt:i<n
  ·have hlt':(i:Int)<(n:Int):=by omega
   have hd:decide ((i:Int)<(n:Int))=true:=by simpa using hlt
   obtain ⟨xb,xo,hXe,hxb,x0⟩:=HX.out.at hlt
   subst hXe
   replace x0:=(hB.cell (p:=⟨xb,xo+i,none⟩) hxb).trans x0
   obtain ⟨a,ha⟩:∃ a,a=x i:=⟨_,rfl⟩
   rw [<-ha] at x0
   have haq:a<P ^ M:=by rw [ha]; exact HXQ.out i hlt
   have HA:=hid ha
   clear ha
   by_cases ha0:a=0
   ·have ha0':((a:Int) != 0)=false:=by simp [ha0]
    have HRN:=hid (HRA.out.congr (g:=fun j=>.int .i64 (spE (addF P M) (mulF P M m) V x (i+1) j:Nat)) fun j hj=>by rw [ybj hL (by rw [<-HA.out,ha0]) (HV.out i hlt j hj)])
    clear ha0
    go_wp2
    go_roundg (gk - 1)
    case measure=>omega
    case rel=>exact ⟨i+1,g2,rfl,by go_num,hg2,by omega,by omega,HRN,rf,hB⟩
   ·have ha0':((a:Int) != 0)=true:=by simp; omega
    obtain ⟨tb,to0,RA,rc,hTe,htb,t0,_,_,hrow,_⟩:=HT.out i hlt
    subst hTe
    replace t0:=(hB.cell (p:=⟨tb,to0+i,none⟩) htb).trans t0
    have hrow1:=hrow.on hB
    have hra:=rowInts (w:=wr) (n:=N) (f:=fun j=>spE (addF P M) (mulF P M m) V x i j) HRA.out
    clear hrow ha0
    have q0:wr.cell? ⟨w.heap.size,0,none⟩=some (.int .i64 (P:Nat)):=rf.cell (i:=0) (by omega)
    have q1:wr.cell? ⟨w.heap.size,1,none⟩=some (.int .i64 (M:Nat)):=rf.cell (i:=1) (by omega)
    have q2:wr.cell? ⟨w.heap.size,2,none⟩=some (.slice A k c):=rf.cell (i:=2) (by omega)
    obtain ⟨w1,hw1⟩:∃ X,X=wr:=⟨_,rfl⟩
    rw [<-hw1] at hB rf x0 t0 q0 q1 q2 hrow1 hra ⊢;clear hw1 HRA
    go_wp2
    refine wp_region_held_drew (S:=fun w'=>w'.cell? ⟨w.heap.size,0,none⟩=some (.int .i64 (P:Nat))/\w'.cell? ⟨w.heap.size,1,none⟩=some (.int .i64 (M:Nat))/\w'.cell? ⟨w.heap.size,2,none⟩=some (.slice A k c)/\w'.cell? ⟨xb,xo+i,none⟩=some (.int .i64 (a:Nat))/\w'.cell? ⟨tb,to0+i,none⟩=some (.slice RA N rc)) (by kernel_rfl) ⟨cellS (Below.refl _ _).drew q0,cellS (Below.refl _ _).drew q1,cellS (Below.refl _ _).drew q2,cellS (Below.refl _ _).drew x0,cellS (Below.refl _ _).drew t0⟩ (fun hHeld=>?_)
    obtain ⟨w2,hw⟩:∃ W,W=World.drew w1:=⟨_,rfl⟩
    have kb:Below w1.heap.size w1 w2:=by rw [hw]; exact (Below.refl _ _).drew
    rw [<-hw] at hHeld ⊢;clear hw;replace rf:=zab rf kb;replace hB:=onS hB kb;replace x0:=cellS kb x0;replace t0:=cellS kb t0;replace q0:=cellS kb q0;replace q1:=cellS kb q1;replace q2:=cellS kb q2;replace hrow1:=hrow1.on kb;replace hra:=hra.on kb;clear kb
    refine tkq 0 (h:=tkq 1 (h:=tkq 2 (h:=tkq 3 (h:=tkq 4 (h:=tkq 5 (h:=tkq 6 (h:=tkq 7 (h:=tkq 8 (h:=tkq 9 (h:=?_))))))))))
    refine rdq 10 (h:=fun K hK=>?_)
    go_simp
    go_wp2_with fail
    have HGW:=hid hB.size
    refine (zdl P M A k c m a (some ⟨g2,0,none⟩) RA N N N rc (fun j=>spE (addF P M) (mulF P M m) V x i j) (V i) w2 hfo (zaz hm hB) hkM haq hra (fun j _=>zbb hL x i j) hrow1 (HV.out i hlt) (Nat.le_refl _) hN2).mono ?_
    rintro e w3 ⟨g3,rfl,hg3,hr3,kb⟩
    replace rf:=zab rf kb;replace hB:=onS hB kb;replace x0:=cellS kb x0;replace t0:=cellS kb t0;replace q0:=cellS kb q0;replace q1:=cellS kb q1;replace q2:=cellS kb q2;replace hrow1:=hrow1.on kb;replace hra:=hra.on kb;clear kb
    have HRN:=hid hr3
    have HG3:=hid hg3
    clear hr3 hg3
    refine bkq hK ⟨q0,q1,q2,x0,t0⟩ (h:=fun hHeld=>?_)
    clear hK K
    refine tkq 11 (h:=?_)
    refine wpAnyH_done (by kernel_rfl) ?_ _
    clear hHeld
    have HRM:=hid (HRN.out.congr (g:=fun j=>.int .i64 (spE (addF P M) (mulF P M m) V x (i+1) j:Nat)) fun j _=>by rw [HA.out]; exact congrArg (fun z:Nat=>Value.int .i64 (z:Int)) (ybi (V:=V) (j:=j) hL (HXQ.out i hlt) _ rfl))
    have hg9:w.heap.size<=g3:=Nat.le_trans HGW.out HG3.out
    clear q0 q1 q2 x0 t0 hrow1 hra HRN HG3
    go_wp2
    go_roundg (gk - 1)
    case measure=>omega
    case rel=>exact ⟨i+1,g3,rfl,by go_num,hg9,by omega,by omega,HRM,rf,hB⟩
  ·have hlt':¬ (i:Int)<(n:Int):=by omega
   have hd:decide ((i:Int)<(n:Int))=false:=by simp; omega
   obtain rfl:i=n:=by omega
   go_wp2
   go_ret
   exact ⟨g2,rfl,hg2,HRA.out,hB⟩
theorem ybk (x P M:Nat) (m:Nat->Nat) (A:Option Addr) (k c N:Nat) (T:Option Addr) (n d:Nat) (V:Nat->Nat->Nat) (w:World) (h:CodeR w P M m A k N T n V) (hx:x<=1048576) :
  Calls Tryz.prog 66 #[.agg #[.int .i64 (P:Nat),.int .i64 (M:Nat),.slice A k c,.int .i64 (N:Nat),.slice T n d],.int .i64 (x:Nat)] w (RowPost N (fun j=>.int .i64 (spE (addF P M) (mulF P M m) V (msgD (P ^ M) n x) n j:Nat)) w):=by
 have HC:=hid h
 have hn:=h.n_le
 have hN:=h.ln2
 have hN1:=h.ln1
 have hL:=fieldLaws h.fld
 have hfo:=h.fld.1
 have HORD:=hid (zbI hfo)
 have hq256:=hfo.2.2.2
 have hq2:=hL.two
 clear h
 have rf:=zai (w:=w) (a:=.int .i64 (P:Nat)) (b:=.int .i64 (M:Nat)) (c:=.slice A k c) (d:=.int .i64 (N:Nat)) (e:=.slice T n d) (T := 27)
 have hB:Below w.heap.size w (w.alloc (.cells #[.int .i64 (P:Nat),.int .i64 (M:Nat),.slice A k c,.int .i64 (N:Nat),.slice T n d] 27)):=(Below.refl _ _).alloc (Nat.le_refl _) _
 obtain ⟨w1,hw1⟩:∃ W,W=w.alloc (.cells #[.int .i64 (P:Nat),.int .i64 (M:Nat),.slice A k c,.int .i64 (N:Nat),.slice T n d] 27):=⟨_,rfl⟩
 rw [<-hw1] at hB rf
 have hmk:=fun W=>zah (P:=Tryz.prog) 22 3 _ 8 Tryz.underlying22 Tryz.infoInt rfl (n:Int) (by omega) (by omega) (by omega) W
 simp only [Int.toNat_natCast] at hmk
 go_enter Tryz.func66, Tryz.ntmps66
 go_upto_region 1 with fail
 rw [<-hw1];clear hw1
 have q0:w1.cell? ⟨w.heap.size,0,none⟩=some (.int .i64 (P:Nat)):=rf.cell (i:=0) (by omega)
 have q1:w1.cell? ⟨w.heap.size,1,none⟩=some (.int .i64 (M:Nat)):=rf.cell (i:=1) (by omega)
 have q2:w1.cell? ⟨w.heap.size,2,none⟩=some (.slice A k c):=rf.cell (i:=2) (by omega)
 go_wp2_with fail
 refine (zbv (P:Int) (M:Int) A k c w1).mono ?_
 rintro e w2 ⟨rfl,kb⟩
 rw [HORD.out];replace rf:=zab rf kb;replace hB:=onS hB kb;clear kb q0 q1 q2
 obtain ⟨q,hQ⟩:∃ Q,Q=P ^ M:=⟨_,rfl⟩
 rw [<-hQ]
 have HQ:=hid hQ
 rw [<-hQ] at hq2 hq256;clear hQ
 have q4:w2.cell? ⟨w.heap.size,4,none⟩=some (.slice T n d):=rf.cell (i:=4) (by omega)
 go_upto_region 3 with fail
 have row:=World.rowIs_made w2 (.int .i64 0) n 3
 have kb:=(Below.refl w2.heap.size w2).alloc (Nat.le_refl _) (Obj.cells (madeCells #[Value.int .i64 0] n) 3)
 obtain ⟨w3,hw3⟩:∃ W,W=w2.alloc (Obj.cells (madeCells #[Value.int .i64 0] n) 3):=⟨_,rfl⟩
 obtain ⟨g,hg⟩:∃ b,b=w2.heap.size:=⟨_,rfl⟩
 rw [<-hw3] at kb row ⊢;rw [<-hg] at row ⊢
 have hgB:w2.heap.size<=g:=by omega
 have HRF:=hid rf
 have HB2:=hid hB
 clear hw3 hg q4 hmk rf hB
 have hp1:(1:Int)<=(q:Int):=by omega
 have hp0:¬ (q:Int)=0:=by omega
 have hpm:(q:Int)<=256:=by omega
 go_wp2
 go_loopg [1,7] (n+1) (fun gg xv iv wx=>∃ j:Nat,iv=.int .i64 ((n:Int) - 1 - (j:Int))/\xv=.int .i64 (x / q ^ j:Nat)/\j<=n/\n+1<=j+gg/\wx.rowIs g 3 n (fun t=>.int .i64 (if n - 1 - t<j then (msgD q n x t:Nat) else 0:Int))/\Below w2.heap.size w2 wx)
 case atStart=>exact ⟨0,by simp,by simp,by omega,by omega,row.congr fun i _=>rfl,kb⟩
 case round =>
  clear row kb
  obtain ⟨j,rfl,rfl,hj,hjg,row,kb⟩:=hrel
  have hle:x / q ^ j<=x:=Nat.div_le_self _ _
  have hst:x / q ^ (j+1)=x / q ^ j / q:=by rw [Nat.pow_succ,Nat.div_div_eq_div_mul]
  have hdg:dig q x j=x / q ^ j % q:=rfl
  obtain ⟨y,hy⟩:∃ y,y=x / q ^ j:=⟨_,rfl⟩
  rw [<-hy] at hle hst hdg;rw [<-hy]
  have HST:=hid hst
  have HDG:=hid hdg
  clear hy hst hdg
  by_cases hlt:j<n
  ·obtain ⟨i,hi⟩:∃ i,i=n - 1 - j:=⟨_,rfl⟩
   have hie:(n:Int) - 1 - (j:Int)=(i:Int):=by omega
   have hin:i<n:=by omega
   have hin':(i:Int)<(n:Int):=by omega
   have hi0:(0:Int)<=(i:Int):=by omega
   rw [hie]
   have HI:=hid hi
   have HIE:=hid hie
   clear hi hie
   have hy0:(0:Int)<=(y:Int):=by omega
   have hy1:(y:Int)<=1048576:=by omega
   have hmod:(y:Int) % (q:Int)=((y % q:Nat):Int):=by simp
   have hdiv:(y:Int) / (q:Int)=((y / q:Nat):Int):=by simp
   obtain ⟨r,hr⟩:∃ r,r=y % q:=⟨_,rfl⟩
   obtain ⟨z,hz⟩:∃ r,r=y / q:=⟨_,rfl⟩
   rw [<-hr] at hmod;rw [<-hz] at hdiv
   have hz0:(0:Int)<=(z:Int):=by omega
   have hz1:(z:Int)<=1048576:=by have:y / q<=y:=Nat.div_le_self _ _; omega
   have HR:=hid hr
   have HZ:=hid hz
   clear hr hz
   have c0:=row.cell hin
   have z0:=row.frozen i
   have HROW2:Hid ((wr.setCell ⟨g,i,none⟩ (.int .i64 (r:Int))).rowIs g 3 n (fun t=>.int .i64 (if n - 1 - t<j+1 then (msgD q n x t:Nat) else 0:Int))):=(row.set i _).congr fun t ht=>by
    have:=HI.out
    by_cases e:t=i
    ·subst e
     rw [if_pos rfl,if_pos (by omega)]
     unfold msgD
     rw [show n - 1 - t=j by omega,HDG.out,HR.out]
    ·rw [if_neg e]
     by_cases e2:n - 1 - t<j
     ·rw [if_pos e2,if_pos (by omega)]
     ·rw [if_neg e2,if_neg (by omega)]
   have HKB:=hid (kb.setCell (p:=⟨g,i,none⟩) hgB (.int .i64 (r:Int)))
   clear row kb
   go_wp2
   go_roundg (gk - 1)
   case measure=>omega
   case rel=>exact ⟨j+1,by have:=HIE.out; show Value.int .i64 ((i:Int) - 1)=_; rw [<-this]; go_num,by rw [HST.out,HZ.out],by omega,by omega,HROW2.out,HKB.out⟩
  ·obtain rfl:j=n:=by omega
   have hneg:¬ ((j:Int) - 1 - (j:Int)) ≥ 0:=by omega
   have hrow:IntsR wr wr.heap.size (some ⟨g,0,none⟩) j (fun t=>((msgD q j x t:Nat):Int)):=rowInts (row.congr fun t ht=>by rw [if_pos (by omega)])
   have hB:=onS HB2.out kb
   have rf:=zab HRF.out kb
   have q0:wr.cell? ⟨w.heap.size,0,none⟩=some (.int .i64 (P:Nat)):=rf.cell (i:=0) (by omega)
   have q1:wr.cell? ⟨w.heap.size,1,none⟩=some (.int .i64 (M:Nat)):=rf.cell (i:=1) (by omega)
   have q2:wr.cell? ⟨w.heap.size,2,none⟩=some (.slice A k c):=rf.cell (i:=2) (by omega)
   have q3:wr.cell? ⟨w.heap.size,3,none⟩=some (.int .i64 (N:Nat)):=rf.cell (i:=3) (by omega)
   have q4:wr.cell? ⟨w.heap.size,4,none⟩=some (.slice T j d):=rf.cell (i:=4) (by omega)
   have HRW:=hid hrow
   have h1:=HC.out.on hB
   have HQL:Hid (∀ i,i<j->msgD q j x i<P ^ M):=fun i _=>by rw [<-HQ.out]; exact zdU (by omega)
   clear row kb hrow
   go_wp2_with fail
   refine (yaA P M A k c m (some ⟨g,0,none⟩) j (msgD q j x) T j d N V wr h1.fld h1.mod h1.km HRW.out HQL.out h1.rows h1.lt (by omega) (by omega)).mono ?_
   rintro e w5 ⟨g5,rfl,hg5,hr5,kb⟩
   have hg9:w.heap.size<=g5:=Nat.le_trans hB.size hg5
   have hB9:=onS hB kb
   have HR5:=hid hr5
   clear hr5 kb hB rf q0 q1 q2 q3 q4 h1 hg5
   go_wp2
   go_ret
   exact ⟨g5,rfl,hg9,by rw [<-HQ.out]; exact HR5.out,hB9⟩
def Words12Post (q:Nat) (add mul:Nat->Nat->Nat) (n N:Nat) (V:Nat->Nat->Nat) (w:World) (e:Ending) (w':World):Prop :=
 ∃ lv,e=.returned (.tuple #[lv,.int .i64 0])/\MTab w' w.heap.size lv (q ^ n) N (fun i=>spE add mul V (msgD q n i) n)/\Below w.heap.size w w'
theorem yaB (P M:Nat) (m:Nat->Nat) (A:Option Addr) (k c N:Nat) (T:Option Addr) (n d:Nat) (V:Nat->Nat->Nat) (w:World) (h:CodeR w P M m A k N T n V) (hsz:(P ^ M) ^ n<=65536) :
  Calls Tryz.prog 22 #[.agg #[.int .i64 (P:Nat),.int .i64 (M:Nat),.slice A k c,.int .i64 (N:Nat),.slice T n d]] w (Words12Post (P ^ M) (addF P M) (mulF P M m) n N V w):=by
 have HC:=hid h
 have hN:=h.ln2
 clear h
 have rf:=zai (w:=w) (a:=.int .i64 (P:Nat)) (b:=.int .i64 (M:Nat)) (c:=.slice A k c) (d:=.int .i64 (N:Nat)) (e:=.slice T n d) (T := 27)
 have hB:Below w.heap.size w (w.alloc (.cells #[.int .i64 (P:Nat),.int .i64 (M:Nat),.slice A k c,.int .i64 (N:Nat),.slice T n d] 27)):=(Below.refl _ _).alloc (Nat.le_refl _) _
 obtain ⟨w1,hw1⟩:∃ W,W=w.alloc (.cells #[.int .i64 (P:Nat),.int .i64 (M:Nat),.slice A k c,.int .i64 (N:Nat),.slice T n d] 27):=⟨_,rfl⟩
 rw [<-hw1] at hB rf
 go_enter Tryz.func22, Tryz.ntmps22
 go_upto_region 1 with fail
 rw [<-hw1];clear hw1
 have q0:w1.cell? ⟨w.heap.size,0,none⟩=some (.int .i64 (P:Nat)):=rf.cell (i:=0) (by omega)
 have q1:w1.cell? ⟨w.heap.size,1,none⟩=some (.int .i64 (M:Nat)):=rf.cell (i:=1) (by omega)
 have q2:w1.cell? ⟨w.heap.size,2,none⟩=some (.slice A k c):=rf.cell (i:=2) (by omega)
 have q3:w1.cell? ⟨w.heap.size,3,none⟩=some (.int .i64 (N:Nat)):=rf.cell (i:=3) (by omega)
 have q4:w1.cell? ⟨w.heap.size,4,none⟩=some (.slice T n d):=rf.cell (i:=4) (by omega)
 go_wp2_with fail
 have h1:=HC.out.on hB
 refine (zf7 (P:Int) (M:Int) A k c _ (N:Int) T n d _ _ w1 h1.ints h1.rows).mono ?_
 rintro e w2 ⟨v,u,rfl,hu,hv1,hv2,kb⟩
 have hu0:u=0:=FirstErr.unique hu (FirstErr.app_all HC.out.errs (.inr ⟨by rw [Int.toNat_natCast,Int.toNat_natCast]; exact hsz,rfl⟩) (by simp [CodeErrs]))
 have hv:=hv1 hu0
 rw [Int.toNat_natCast,Int.toNat_natCast] at hv
 subst hu0
 obtain ⟨S,hS⟩:∃ S,S=(P ^ M) ^ n:=⟨_,rfl⟩
 rw [<-hS] at hv hsz
 subst hv
 have HSS:=hid hS
 replace rf:=zab rf kb;replace hB:=onS hB kb;clear kb q0 q1 q2 q3 q4 hu hv1 hv2 h1 hS
 have H0:=hid (MTab.nil w2 w.heap.size N (fun i=>spE (addF P M) (mulF P M m) V (msgD (P ^ M) n i) n))
 go_wp2
 obtain ⟨nv,hnv⟩:∃ x:Value,x=.slice none 0 0:=⟨_,rfl⟩
 rw [<-hnv] at H0 ⊢;clear hnv
 go_loopg [6,7] S (fun gg ov iv wx=>∃ i:Nat,iv=.int .i64 (i:Nat)/\i<=S/\S<=i+gg/\Hid (MTab wx w.heap.size ov i N (fun i=>spE (addF P M) (mulF P M m) V (msgD (P ^ M) n i) n))/\wx.rowIs w.heap.size 27 5 (codCell (.int .i64 (P:Nat)) (.int .i64 (M:Nat)) (.slice A k c) (.int .i64 (N:Nat)) (.slice T n d))/\Below w.heap.size w wx)
 case atStart=>exact ⟨0,rfl,by omega,by omega,H0,rf,hB⟩
 case round =>
  clear H0 rf hB
  obtain ⟨i,rfl,hi,hig,HM,rf,hB⟩:=hrel
  have hi0:(0:Int)<=(i:Int):=by omega
  by_cases hlt:i<S
  ·have hlt':(i:Int)<(S:Int):=by omega
   have q0:wr.cell? ⟨w.heap.size,0,none⟩=some (.int .i64 (P:Nat)):=rf.cell (i:=0) (by omega)
   have q1:wr.cell? ⟨w.heap.size,1,none⟩=some (.int .i64 (M:Nat)):=rf.cell (i:=1) (by omega)
   have q2:wr.cell? ⟨w.heap.size,2,none⟩=some (.slice A k c):=rf.cell (i:=2) (by omega)
   have q3:wr.cell? ⟨w.heap.size,3,none⟩=some (.int .i64 (N:Nat)):=rf.cell (i:=3) (by omega)
   have q4:wr.cell? ⟨w.heap.size,4,none⟩=some (.slice T n d):=rf.cell (i:=4) (by omega)
   have h1:=HC.out.on hB
   have hub:∀ q,u6.ownBlock=some q->w.heap.size<=q:=fun q e=>(HM.out.choose_spec.1.lt q e).1
   have HUB:=hid hub
   clear hub
   go_wp2_with fail
   refine (ybk i P M m A k c N T n d V wr h1 (by omega)).mono ?_
   rintro e w3 ⟨g,rfl,hg,hr,kb⟩
   have hr2:=zbe hr (show w.heap.size<=g by have:=hB.size; omega) (show N<=maxLen by unfold maxLen; omega)
   have kb2:=(Below.refl w3.heap.size w3).alloc (Nat.le_refl _) (Obj.cells #[Value.slice (some ⟨g,0,none⟩) N N] 22)
   have HX8:=hid (hr2.on kb2)
   have HO8:=hid ((HM.out.on kb).on kb2)
   have HB8:=hid (onS (onS hB kb) kb2)
   have HRF8:=hid (zab (zab rf kb) kb2)
   have HC8:Hid ((w3.alloc (Obj.cells #[Value.slice (some ⟨g,0,none⟩) N N] 22)).cell? ((⟨w3.heap.size,0,none⟩:Addr).add 0)=some (.slice (some ⟨g,0,none⟩) N N)):=tbox2
   have HZ8:=hid HB8.out.size
   have HIL:Hid (i<=1048576):=by show _<=_; omega
   clear hr hr2 kb kb2 hg q0 q1 q2 q3 q4 rf hB h1
   go_wp2_with (first | (at_builtin; (refine zbY rfl (.tmp 21) (.tmp 25) rfl HO8.out rfl (ad:=⟨w3.heap.size,0,none⟩) (c:=1) rfl HC8.out rfl HX8.out HZ8.out HIL.out ?_); intro v9 w9 o1 o2 o3))
   have HM9:=hid (o1.congr (W':=fun i=>spE (addF P M) (mulF P M m) V (msgD (P ^ M) n i) n) fun u hu j _=>by
    by_cases e:u=i
    ·subst e; rw [if_pos rfl]
    ·rw [if_neg e])
   have HB9:=hid (HB8.out.grown o2 HZ8.out o3)
   have HRF9:=hid (HRF8.out.of_block (o2.block _ HRF8.out.lt fun e=>absurd (za5 HRF8.out HO8.out.choose_spec.1 (by decide)) (by rw [<-e]; simp)))
   clear o1 o2 o3
   go_wp2
   go_roundg (gk - 1)
   case measure=>omega
   case rel=>exact ⟨i+1,by go_num,by omega,by omega,HM9,HRF9.out,HB9.out⟩
  ·have hlt':¬ (i:Int)<(S:Int):=by omega
   obtain rfl:i=S:=by omega
   go_wp2
   go_ret2
   exact ⟨_,rfl,by rw [<-HSS.out]; exact HM.out,hB⟩
open Go
theorem ybz (f g:Nat->Int) (k:Nat):disN f g k<=k:=by
 induction k with
 | zero=>exact Nat.le_refl _
 | succ k ih=>unfold disN; split <;> omega
def notIs (q:Nat) (x:Int):Bool:=!isB q x
def isNz (x:Int):Bool:=x != 0
theorem yaX (x:Int) (P M:Nat) (m:Nat->Nat) (g tb:Nat) (w:World) (hG:GF w w.heap.size g P M m) (hc:w.cell? ⟨tb,0,none⟩=some (.pointer (some ⟨g,0,none⟩))) :
  Calls Tryz.prog 213 #[.int .i64 x,.pointer (some ⟨tb,0,none⟩)] w fun e w'=>e=.returned (.bool (notIs (P ^ M) x))/\Below w.heap.size w w':=by
 have HG:=hid hG
 clear hG
 go_enter Tryz.func213, Tryz.ntmps213
 go_wp2_with fail
 refine (zf1 x HG.out).mono ?_
 rintro e w2 ⟨he,kb⟩
 obtain ⟨pb,hpb⟩:∃ pb:Bool,pb=isB (P ^ M) x:=⟨_,rfl⟩
 rw [<-hpb] at he
 subst he
 have HPB:=hid hpb
 have KB:=hid kb
 clear kb hpb
 go_wp2
 go_ret
 exact ⟨by rw [show notIs (P ^ M) x=!pb by rw [HPB.out]; rfl]; rfl,KB.out⟩
theorem ybl (P M:Nat) (m:Nat->Nat) (g tb:Nat) (F:Option Addr) (n d:Nat) (f:Nat->Int) (w:World) (hG:GF w w.heap.size g P M m) (hc:w.cell? ⟨tb,0,none⟩=some (.pointer (some ⟨g,0,none⟩))) (hf:IntsR w w.heap.size F n f) (hn:n<=1024) :
  Calls Tryz.prog 174 #[.slice F n d,.func (.func 213) #[] #[.pointer (some ⟨tb,0,none⟩)]] w fun e w'=>e=.returned (.int .i64 (idxP (notIs (P ^ M)) f n))/\Below w.heap.size w w':=by
 have HF:=hid hf
 have HG:=hid hG
 have HC:=hid hc
 clear hf hG hc
 go_enter Tryz.func174, Tryz.ntmps174
 go_upto_region 2 with fail
 go_loopg [8] n (fun gg iv wx=>∃ k:Nat,iv=.int .i64 (k:Nat)/\k<=n/\n<=k+gg/\Hid (idxP (notIs (P ^ M)) f k = -1)/\Below w.heap.size w wx)
 case atStart=>exact ⟨0,rfl,by omega,by omega,hid rfl,Below.refl _ _⟩
 case round =>
  obtain ⟨k,rfl,hk,hkg,HI,hBx⟩:=hrel
  have hk0:(0:Int)<=(k:Int):=by omega
  have HB:=hid hBx
  obtain ⟨w3,hw3⟩:∃ X,X=wr:=⟨_,rfl⟩
  subst hw3
  clear hBx
  by_cases hlt:k<n
  ·have hlt':(k:Int)<(n:Int):=by omega
   obtain ⟨b,off,hAe,hb,e0⟩:=(HF.out.on HB.out).at hlt
   subst hAe
   obtain ⟨x,hx⟩:∃ x,x=f k:=⟨_,rfl⟩
   rw [<-hx] at e0
   have HX:=hid hx
   clear hx
   obtain ⟨pb,hpb⟩:∃ pb:Bool,pb=(notIs (P ^ M)) x:=⟨_,rfl⟩
   have HPB:=hid hpb
   clear hpb
   go_wp2_with fail
   refine (yaX x P M m g tb w3 (HG.out.on HB.out) (cellS HB.out HC.out)).mono ?_
   rintro e w4 ⟨he,kb⟩
   have he:e=.returned (.bool ((notIs (P ^ M)) x)):=he
   rw [<-HPB.out] at he
   subst he
   replace HB:=hid (onS HB.out kb);clear kb e0
   cases pb with
   | false =>
    have HI2:Hid (idxP (notIs (P ^ M)) f (k+1) = -1):=hid (ze2 HI.out (by rw [<-HX.out]; exact HPB.out.symm))
    go_wp2
    go_roundg (gk - 1)
    case measure=>omega
    case rel=>exact ⟨k+1,by go_num,by omega,by omega,HI2,HB.out⟩
   | true =>
    have HI2:Hid (idxP (notIs (P ^ M)) f n=(k:Int)):=hid (zgH HI.out (by rw [<-HX.out]; exact HPB.out.symm) hlt)
    go_wp2
    go_ret
    exact ⟨by rw [HI2.out]; rfl,HB.out⟩
  ·have hlt':¬ (k:Int)<(n:Int):=by omega
   obtain rfl:n=k:=by omega
   go_wp2
   go_ret
   exact ⟨by rw [HI.out]; rfl,HB.out⟩
theorem yaY (P M:Nat) (m:Nat->Nat) (g tb:Nat) (F:Option Addr) (n d:Nat) (f:Nat->Int) (w:World) (hG:GF w w.heap.size g P M m) (hc:w.cell? ⟨tb,0,none⟩=some (.pointer (some ⟨g,0,none⟩))) (hf:IntsR w w.heap.size F n f) (hn:n<=1024) :
  Calls Tryz.prog 111 #[.slice F n d,.func (.func 213) #[] #[.pointer (some ⟨tb,0,none⟩)]] w fun e w'=>∃ b:Bool,e=.returned (.bool b)/\(b=true↔∃ i,i<n/\(notIs (P ^ M)) (f i)=true)/\Below w.heap.size w w':=by
 have HF:=hid hf
 have HG:=hid hG
 have HC:=hid hc
 clear hf hG hc
 go_enter Tryz.func111, Tryz.ntmps111
 go_wp2_with fail
 refine (ybl P M m g tb F n d f w HG.out HC.out HF.out hn).mono ?_
 rintro e w1 ⟨he,kb⟩
 obtain ⟨z,hz⟩:∃ z,z=idxP (notIs (P ^ M)) f n:=⟨_,rfl⟩
 have hs:=ze3 (notIs (P ^ M)) f n
 rw [<-hz] at hs he
 subst he
 have hd:decide (z ≥ 0)=true↔∃ i,i<n/\(notIs (P ^ M)) (f i)=true:=by
  rw [decide_eq_true_iff]
  rcases hs with ⟨h1,h2⟩ | ⟨i,hi,h1,h2⟩
  ·refine ⟨fun h=>by omega,fun ⟨i,hi,h⟩=>?_⟩
   rw [h2 i hi] at h
   cases h
  ·exact ⟨fun _=>⟨i,hi,h2⟩,fun _=>by omega⟩
 have HD:=hid hd
 have KB:=hid kb
 clear hs hd hz kb
 go_wp2
 go_ret
 exact ⟨_,rfl,HD.out,KB.out⟩
theorem yaZ (x:Int) (P M:Nat) (m:Nat->Nat) (g tb:Nat) (w:World) (hG:GF w w.heap.size g P M m) (hc:w.cell? ⟨tb,0,none⟩=some (.pointer (some ⟨g,0,none⟩))) :
  Calls Tryz.prog 216 #[.int .i64 x,.pointer (some ⟨tb,0,none⟩)] w fun e w'=>e=.returned (.bool (notIs (P ^ M) x))/\Below w.heap.size w w':=by
 have HG:=hid hG
 clear hG
 go_enter Tryz.func216, Tryz.ntmps216
 go_wp2_with fail
 refine (zf1 x HG.out).mono ?_
 rintro e w2 ⟨he,kb⟩
 obtain ⟨pb,hpb⟩:∃ pb:Bool,pb=isB (P ^ M) x:=⟨_,rfl⟩
 rw [<-hpb] at he
 subst he
 have HPB:=hid hpb
 have KB:=hid kb
 clear kb hpb
 go_wp2
 go_ret
 exact ⟨by rw [show notIs (P ^ M) x=!pb by rw [HPB.out]; rfl]; rfl,KB.out⟩
theorem ybm (P M:Nat) (m:Nat->Nat) (g tb:Nat) (F:Option Addr) (n d:Nat) (f:Nat->Int) (w:World) (hG:GF w w.heap.size g P M m) (hc:w.cell? ⟨tb,0,none⟩=some (.pointer (some ⟨g,0,none⟩))) (hf:IntsR w w.heap.size F n f) (hn:n<=1024) :
  Calls Tryz.prog 174 #[.slice F n d,.func (.func 216) #[] #[.pointer (some ⟨tb,0,none⟩)]] w fun e w'=>e=.returned (.int .i64 (idxP (notIs (P ^ M)) f n))/\Below w.heap.size w w':=by
 have HF:=hid hf
 have HG:=hid hG
 have HC:=hid hc
 clear hf hG hc
 go_enter Tryz.func174, Tryz.ntmps174
 go_upto_region 2 with fail
 go_loopg [8] n (fun gg iv wx=>∃ k:Nat,iv=.int .i64 (k:Nat)/\k<=n/\n<=k+gg/\Hid (idxP (notIs (P ^ M)) f k = -1)/\Below w.heap.size w wx)
 case atStart=>exact ⟨0,rfl,by omega,by omega,hid rfl,Below.refl _ _⟩
 case round =>
  obtain ⟨k,rfl,hk,hkg,HI,hBx⟩:=hrel
  have hk0:(0:Int)<=(k:Int):=by omega
  have HB:=hid hBx
  obtain ⟨w3,hw3⟩:∃ X,X=wr:=⟨_,rfl⟩
  subst hw3
  clear hBx
  by_cases hlt:k<n
  ·have hlt':(k:Int)<(n:Int):=by omega
   obtain ⟨b,off,hAe,hb,e0⟩:=(HF.out.on HB.out).at hlt
   subst hAe
   obtain ⟨x,hx⟩:∃ x,x=f k:=⟨_,rfl⟩
   rw [<-hx] at e0
   have HX:=hid hx
   clear hx
   obtain ⟨pb,hpb⟩:∃ pb:Bool,pb=(notIs (P ^ M)) x:=⟨_,rfl⟩
   have HPB:=hid hpb
   clear hpb
   go_wp2_with fail
   refine (yaZ x P M m g tb w3 (HG.out.on HB.out) (cellS HB.out HC.out)).mono ?_
   rintro e w4 ⟨he,kb⟩
   have he:e=.returned (.bool ((notIs (P ^ M)) x)):=he
   rw [<-HPB.out] at he
   subst he
   replace HB:=hid (onS HB.out kb);clear kb e0
   cases pb with
   | false =>
    have HI2:Hid (idxP (notIs (P ^ M)) f (k+1) = -1):=hid (ze2 HI.out (by rw [<-HX.out]; exact HPB.out.symm))
    go_wp2
    go_roundg (gk - 1)
    case measure=>omega
    case rel=>exact ⟨k+1,by go_num,by omega,by omega,HI2,HB.out⟩
   | true =>
    have HI2:Hid (idxP (notIs (P ^ M)) f n=(k:Int)):=hid (zgH HI.out (by rw [<-HX.out]; exact HPB.out.symm) hlt)
    go_wp2
    go_ret
    exact ⟨by rw [HI2.out]; rfl,HB.out⟩
  ·have hlt':¬ (k:Int)<(n:Int):=by omega
   obtain rfl:n=k:=by omega
   go_wp2
   go_ret
   exact ⟨by rw [HI.out]; rfl,HB.out⟩
theorem ya0 (P M:Nat) (m:Nat->Nat) (g tb:Nat) (F:Option Addr) (n d:Nat) (f:Nat->Int) (w:World) (hG:GF w w.heap.size g P M m) (hc:w.cell? ⟨tb,0,none⟩=some (.pointer (some ⟨g,0,none⟩))) (hf:IntsR w w.heap.size F n f) (hn:n<=1024) :
  Calls Tryz.prog 111 #[.slice F n d,.func (.func 216) #[] #[.pointer (some ⟨tb,0,none⟩)]] w fun e w'=>∃ b:Bool,e=.returned (.bool b)/\(b=true↔∃ i,i<n/\(notIs (P ^ M)) (f i)=true)/\Below w.heap.size w w':=by
 have HF:=hid hf
 have HG:=hid hG
 have HC:=hid hc
 clear hf hG hc
 go_enter Tryz.func111, Tryz.ntmps111
 go_wp2_with fail
 refine (ybm P M m g tb F n d f w HG.out HC.out HF.out hn).mono ?_
 rintro e w1 ⟨he,kb⟩
 obtain ⟨z,hz⟩:∃ z,z=idxP (notIs (P ^ M)) f n:=⟨_,rfl⟩
 have hs:=ze3 (notIs (P ^ M)) f n
 rw [<-hz] at hs he
 subst he
 have hd:decide (z ≥ 0)=true↔∃ i,i<n/\(notIs (P ^ M)) (f i)=true:=by
  rw [decide_eq_true_iff]
  rcases hs with ⟨h1,h2⟩ | ⟨i,hi,h1,h2⟩
  ·refine ⟨fun h=>by omega,fun ⟨i,hi,h⟩=>?_⟩
   rw [h2 i hi] at h
   cases h
  ·exact ⟨fun _=>⟨i,hi,h2⟩,fun _=>by omega⟩
 have HD:=hid hd
 have KB:=hid kb
 clear hs hd hz kb
 go_wp2
 go_ret
 exact ⟨_,rfl,HD.out,KB.out⟩
theorem ya1 (x:Int) (w:World) :
  Calls Tryz.prog 251 #[.int .i64 x] w fun e w'=>e=.returned (.bool (isNz x))/\Below w.heap.size w w':=by
 go_enter Tryz.func251, Tryz.ntmps251
 go_wp2
 go_ret
 exact ⟨rfl,Below.refl _ _⟩
theorem ybn  (F:Option Addr) (n d:Nat) (f:Nat->Int) (w:World)  (hf:IntsR w w.heap.size F n f) (hn:n<=1024) :
  Calls Tryz.prog 174 #[.slice F n d,.func (.func 251) #[] #[]] w fun e w'=>e=.returned (.int .i64 (idxP isNz f n))/\Below w.heap.size w w':=by
 have HF:=hid hf
 clear hf
 go_enter Tryz.func174, Tryz.ntmps174
 go_upto_region 2 with fail
 go_loopg [8] n (fun gg iv wx=>∃ k:Nat,iv=.int .i64 (k:Nat)/\k<=n/\n<=k+gg/\Hid (idxP isNz f k = -1)/\Below w.heap.size w wx)
 case atStart=>exact ⟨0,rfl,by omega,by omega,hid rfl,Below.refl _ _⟩
 case round =>
  obtain ⟨k,rfl,hk,hkg,HI,hBx⟩:=hrel
  have hk0:(0:Int)<=(k:Int):=by omega
  have HB:=hid hBx
  obtain ⟨w3,hw3⟩:∃ X,X=wr:=⟨_,rfl⟩
  subst hw3
  clear hBx
  by_cases hlt:k<n
  ·have hlt':(k:Int)<(n:Int):=by omega
   obtain ⟨b,off,hAe,hb,e0⟩:=(HF.out.on HB.out).at hlt
   subst hAe
   obtain ⟨x,hx⟩:∃ x,x=f k:=⟨_,rfl⟩
   rw [<-hx] at e0
   have HX:=hid hx
   clear hx
   obtain ⟨pb,hpb⟩:∃ pb:Bool,pb=isNz x:=⟨_,rfl⟩
   have HPB:=hid hpb
   clear hpb
   go_wp2_with fail
   refine (ya1 x w3).mono ?_
   rintro e w4 ⟨he,kb⟩
   have he:e=.returned (.bool (isNz x)):=he
   rw [<-HPB.out] at he
   subst he
   replace HB:=hid (onS HB.out kb);clear kb e0
   cases pb with
   | false =>
    have HI2:Hid (idxP isNz f (k+1) = -1):=hid (ze2 HI.out (by rw [<-HX.out]; exact HPB.out.symm))
    go_wp2
    go_roundg (gk - 1)
    case measure=>omega
    case rel=>exact ⟨k+1,by go_num,by omega,by omega,HI2,HB.out⟩
   | true =>
    have HI2:Hid (idxP isNz f n=(k:Int)):=hid (zgH HI.out (by rw [<-HX.out]; exact HPB.out.symm) hlt)
    go_wp2
    go_ret
    exact ⟨by rw [HI2.out]; rfl,HB.out⟩
  ·have hlt':¬ (k:Int)<(n:Int):=by omega
   obtain rfl:n=k:=by omega
   go_wp2
   go_ret
   exact ⟨by rw [HI.out]; rfl,HB.out⟩
theorem ya2  (F:Option Addr) (n d:Nat) (f:Nat->Int) (w:World)  (hf:IntsR w w.heap.size F n f) (hn:n<=1024) :
  Calls Tryz.prog 111 #[.slice F n d,.func (.func 251) #[] #[]] w fun e w'=>∃ b:Bool,e=.returned (.bool b)/\(b=true↔∃ i,i<n/\isNz (f i)=true)/\Below w.heap.size w w':=by
 have HF:=hid hf
 clear hf
 go_enter Tryz.func111, Tryz.ntmps111
 go_wp2_with fail
 refine (ybn  F n d f w  HF.out hn).mono ?_
 rintro e w1 ⟨he,kb⟩
 obtain ⟨z,hz⟩:∃ z,z=idxP isNz f n:=⟨_,rfl⟩
 have hs:=ze3 isNz f n
 rw [<-hz] at hs he
 subst he
 have hd:decide (z ≥ 0)=true↔∃ i,i<n/\isNz (f i)=true:=by
  rw [decide_eq_true_iff]
  rcases hs with ⟨h1,h2⟩ | ⟨i,hi,h1,h2⟩
  ·refine ⟨fun h=>by omega,fun ⟨i,hi,h⟩=>?_⟩
   rw [h2 i hi] at h
   cases h
  ·exact ⟨fun _=>⟨i,hi,h2⟩,fun _=>by omega⟩
 have HD:=hid hd
 have KB:=hid kb
 clear hs hd hz kb
 go_wp2
 go_ret
 exact ⟨_,rfl,HD.out,KB.out⟩
section
variable {q n k:Nat} {add mul:Nat->Nat->Nat} {V:Nat->Nat->Nat} {neg:Nat->Nat}
theorem ybo (hL:FieldLaws q add mul) {a b c d:Nat} (ha:a<q) (hb:b<q) (hc:c<q) (hd:d<q):add (add a b) (add c d)=add (add a c) (add b d):=by
 rw [hL.addAssoc a b _ ha hb (hL.addLt _ _),<-hL.addAssoc b c d hb hc hd,hL.addComm b c,hL.addAssoc c b d hc hb hd,<-hL.addAssoc a c _ ha hc (hL.addLt _ _)]
theorem ybg (hL:FieldLaws q add mul) (hn:∀ x,x<q->neg x<q/\add x (neg x)=0) {c:Nat->Nat} {j:Nat} (hV:∀ i,i<n->V i j<q) (hc:∀ i,i<n->c i<q):∀ t,t<=n->add (spE add mul V c t j) (spE add mul V (fun i=>neg (c i)) t j)=0
 | 0,_=>hL.zeroAdd 0 (by have:=hL.two; omega)
 | t+1,ht=>by
  have h1:=hV t (by omega)
  have h2:=hc t (by omega)
  have h3:=hn _ h2
  show add (add (spE add mul V c t j) (mul (c t) (V t j))) (add (spE add mul V (fun i=>neg (c i)) t j) (mul (neg (c t)) (V t j)))=0
  rw [ybo hL (zbb hL _ _ _) (hL.mulLt _ _) (zbb hL _ _ _) (hL.mulLt _ _),ybg hL hn hV hc t (by omega),hL.mulComm (c t) _ h2 h1,hL.mulComm (neg (c t)) _ h3.1 h1,<-hL.distrib _ _ _ h1 h2 h3.1,h3.2,hL.mulZero h1]
  exact hL.zeroAdd 0 (by have:=hL.two; omega)
end
def restF (P M:Nat) (m:Nat->Nat) (p:Nat->Nat) (V:Nat->Nat->Nat) (u:Nat->Nat):Nat->Nat->Nat
 | 0=>u
 | t+1=>atF P M m (negF P M (u (p t))) (restF P M m p V u t) (V t)
section
variable {P M n k:Nat} {m:Nat->Nat} {V:Nat->Nat->Nat} {p u:Nat->Nat}
theorem yaf (hL:FieldLaws (P ^ M) (addF P M) (mulF P M m)) (hu:∀ j,j<k->u j<P ^ M):∀ t j,j<k->restF P M m p V u t j<P ^ M
 | 0,j,hj=>hu j hj
 | t+1,j,hj=>by
  show atF _ _ _ _ _ _ _<_
  unfold atF
  split
  ·exact yaf hL hu t j hj
  ·exact hL.addLt _ _
theorem yae (hL:FieldLaws (P ^ M) (addF P M) (mulF P M m)) (hP:0<P) (hu:∀ j,j<k->u j<P ^ M) {j:Nat} (hj:j<k):∀ t,restF P M m p V u t j=addF P M (u j) (spE (addF P M) (mulF P M m) V (fun i=>negF P M (u (p i))) t j)
 | 0=>by
  show u j=addF P M (u j) 0
  rw [hL.addComm,hL.zeroAdd _ (hu j hj)]
 | t + 1 => by
  have hS:=zbb hL (V:=V) (fun i=>negF P M (u (p i))) t j
  show atF _ _ _ _ _ _ _=addF P M (u j) (addF P M (spE (addF P M) (mulF P M m) V (fun i=>negF P M (u (p i))) t j) (mulF P M m (negF P M (u (p t))) (V t j)))
  rw [<-hL.addAssoc _ _ _ (hu j hj) hS (hL.mulLt _ _),<-yae hL hP hu hj t]
  unfold atF
  split
  ·next h =>
   rw [h,hL.mulZero (zbp hP),hL.addComm,hL.zeroAdd _ (yaf hL hu t j hj)]
  ·rfl
theorem ya3 (hL:FieldLaws (P ^ M) (addF P M) (mulF P M m)) (hP:0<P) (hE:EchN (P ^ M) n k k n p V) (hu:∀ j,j<k->u j<P ^ M):(∀ j,j<k->restF P M m p V u n j=0)↔InSp (P ^ M) (addF P M) (mulF P M m) n k V u:=by
 rw [zho hL hE hu]
 have hop:∀ j,j<k->addF P M (spE (addF P M) (mulF P M m) V (fun i=>u (p i)) n j) (spE (addF P M) (mulF P M m) V (fun i=>negF P M (u (p i))) n j)=0:=fun j hj =>
  ybg hL (fun x _=>⟨zbp hP,za4 hP⟩) (fun i hi=>hE.lt i hi j hj) (fun i hi=>hu _ (hE.pvlt i hi)) n (Nat.le_refl _)
 constructor
 ·intro h j hj
  have h1:=h j hj
  rw [yae hL hP hu hj] at h1
  exact zgp hL (hu j hj) (zbb hL _ _ _) (zbb hL _ _ _) h1 (hop j hj)
 ·intro h j hj
  rw [yae hL hP hu hj,h j hj]
  exact hop j hj
end
def WordErrs (q N l:Nat) (u:Nat->Int):List (Prop × Int):=[(l=N,4),(AllIn q l u,2)]
theorem yaI (P M:Nat) (A:Option Addr) (k c:Nat) (U:Option Addr) (l d N:Nat) (u:Nat->Int) (w:World) (hf:FldOk P M) (h:IntsR w w.heap.size U l u) (hn:l<=9223372036854775807) :
  Calls Tryz.prog 63 #[.agg #[.int .i64 (P:Nat),.int .i64 (M:Nat),.slice A k c],.slice U l d,.int .i64 (N:Nat)] w (ErrsPost (WordErrs (P ^ M) N l u) w):=by
 have HU:=hid h
 clear h
 have hB:Below w.heap.size w (w.alloc (.cells #[.int .i64 (P:Nat),.int .i64 (M:Nat),.slice A k c] 24)):=(Below.refl _ _).alloc (Nat.le_refl _) _
 have rf:=zaf (w:=w) (a:=.int .i64 (P:Nat)) (b:=.int .i64 (M:Nat)) (c:=.slice A k c) (T := 24)
 obtain ⟨w0,hw0⟩:∃ W,W=w.alloc (.cells #[.int .i64 (P:Nat),.int .i64 (M:Nat),.slice A k c] 24):=⟨_,rfl⟩
 rw [<-hw0] at hB rf
 go_enter Tryz.func63, Tryz.ntmps63
 go_upto_region 1 with fail
 rw [<-hw0];clear hw0
 have q0:w0.cell? ⟨w.heap.size,0,none⟩=some (.int .i64 (P:Nat)):=rf.cell (i:=0) (by omega)
 have q1:w0.cell? ⟨w.heap.size,1,none⟩=some (.int .i64 (M:Nat)):=rf.cell (i:=1) (by omega)
 have q2:w0.cell? ⟨w.heap.size,2,none⟩=some (.slice A k c):=rf.cell (i:=2) (by omega)
 clear rf
 by_cases hl:l=N
 ·have HL:=hid hl
  have hl':((l:Int) != (N:Int))=false:=by simp [hl]
  clear hl
  go_wp2_with fail
  refine (zdR P M A k c U l d u w0 hf (HU.out.on hB) hn).mono ?_
  rintro e w1 ⟨v,rfl,hv,kb⟩
  have HV:=hid hv
  replace hB:=onS hB kb;clear hv kb q0 q1 q2
  go_wp2
  go_ret
  refine errsPost (.inr ⟨HL.out,?_⟩) hB
  rcases HV.out with ⟨h1,h2⟩ | ⟨h1,h2⟩
  ·exact .inr ⟨h2,h1⟩
  ·exact .inl ⟨h2,h1⟩
 ·have HL:=hid hl
  have hl':((l:Int) != (N:Int))=true:=by simp; omega
  clear hl
  go_wp2
  go_ret
  exact errsPost (.inl ⟨HL.out,rfl⟩) hB
def Cost (a:Int):Prop:=0<=a/\a<=4611686018427387904
def capI (a b:Int):Int:=if 4611686018427387904<a+b then 4611686018427387904 else a+b
theorem yav {a b:Int} (ha:Cost a) (hb:Cost b):Cost (capI a b):=by
 unfold Cost capI at *
 split <;> omega
theorem yaJ {a b:Int} (h:a+b<=4611686018427387904):capI a b=a+b:=if_neg (by omega)
theorem ybp {a b:Int} (ha:Cost a) (hb:Cost b):Cost (min a b):=by
 unfold Cost at *
 omega
theorem yal (a:Int) (w:World) (ha:Cost a):Calls Tryz.prog 180 #[.int .i64 a] w fun e w'=>e=.returned (.int .i64 a)/\Below w.heap.size w w':=by
 unfold Cost at ha
 have h1:max a 0=a:=by omega
 have h2:min a 4611686018427387904=a:=by omega
 go_enter Tryz.func180, Tryz.ntmps180
 go_wp2
 go_ret
 exact ⟨by first | rfl | (simp only [h1,h2]) | (rw [h1,h2]),Below.refl _ _⟩
theorem yaK (a b:Int) (w:World) (ha:Cost a) (hb:Cost b):Calls Tryz.prog 294 #[.int .i64 a,.int .i64 b] w fun e w'=>e=.returned (.int .i64 (capI a b))/\Below w.heap.size w w':=by
 unfold Cost at ha hb
 have hw:IntKind.i64.wrap (4611686018427387904 - b)=4611686018427387904 - b:=IntWalk.i64_in _ (by omega)
 go_enter Tryz.func294, Tryz.ntmps294
 by_cases h:4611686018427387904<a+b
 ·have hd:¬ a<=4611686018427387904 - b:=by omega
  have hd2:4611686018427387904 - b<a:=by omega
  have hc:=hid (show capI a b=4611686018427387904 from if_pos h)
  clear h
  go_wp2
  go_ret
  exact ⟨by rw [hc.out]; rfl,Below.refl _ _⟩
 ·have hd:a<=4611686018427387904 - b:=by omega
  have hd2:¬ 4611686018427387904 - b<a:=by omega
  have hw2:IntKind.i64.wrap (a+b)=a+b:=IntWalk.i64_in _ (by omega)
  have hc:=hid (show capI a b=a+b from if_neg h)
  clear h
  go_wp2
  go_ret
  exact ⟨by rw [hc.out]; first | rfl | (rw [hw2]; rfl),Below.refl _ _⟩
theorem yam (w:World):Calls Tryz.prog 119 #[.agg #[]] w fun e w'=>e=.returned (.int .i64 4611686018427387904)/\Below w.heap.size w w':=by
 go_enter Tryz.func119, Tryz.ntmps119
 go_wp2
 go_ret
 exact ⟨rfl,(Below.refl _ _).alloc (Nat.le_refl _) _⟩
theorem ya4 (w:World):Calls Tryz.prog 293 #[.agg #[]] w fun e w'=>e=.returned (.int .i64 0)/\Below w.heap.size w w':=by
 go_enter Tryz.func293, Tryz.ntmps293
 go_wp2
 go_ret
 exact ⟨rfl,(Below.refl _ _).alloc (Nat.le_refl _) _⟩
theorem yaw (a b:Int) (w:World) (ha:Cost a) (hb:Cost b):Calls Tryz.prog 120 #[.agg #[],.int .i64 a,.int .i64 b] w fun e w'=>e=.returned (.int .i64 (min a b))/\Below w.heap.size w w':=by
 have hB0:Below w.heap.size w (w.alloc (Obj.cells #[] 158)):=(Below.refl _ _).alloc (Nat.le_refl _) _
 have HA:=hid ha
 have HB:=hid hb
 clear ha hb
 go_enter Tryz.func120, Tryz.ntmps120
 go_wp2_with fail
 refine (yal a _ HA.out).mono ?_
 rintro e w1 ⟨rfl,hb⟩
 have hB1:=onS hB0 hb
 clear hb hB0
 go_wp2_with fail
 refine (yal b _ HB.out).mono ?_
 rintro e w2 ⟨rfl,hb⟩
 have hB2:=onS hB1 hb
 clear hb hB1
 by_cases h:a<=b
 ·have h2:¬ b<a:=by omega
  have hm:=hid (show min a b=a by omega)
  go_wp2
  go_ret
  exact ⟨by rw [hm.out]; rfl,hB2⟩
 ·have h2:b<a:=by omega
  have hm:=hid (show min a b=b by omega)
  go_wp2
  go_ret
  exact ⟨by rw [hm.out]; rfl,hB2⟩
theorem yax (a b:Int) (w:World) (ha:Cost a) (hb:Cost b):Calls Tryz.prog 292 #[.agg #[],.int .i64 a,.int .i64 b] w fun e w'=>e=.returned (.int .i64 (capI a b))/\Below w.heap.size w w':=by
 have hB0:Below w.heap.size w (w.alloc (Obj.cells #[] 158)):=(Below.refl _ _).alloc (Nat.le_refl _) _
 have HA:=hid ha
 have HB:=hid hb
 clear ha hb
 go_enter Tryz.func292, Tryz.ntmps292
 go_wp2_with fail
 refine (yal a _ HA.out).mono ?_
 rintro e w1 ⟨rfl,hb⟩
 have hB1:=onS hB0 hb
 clear hb hB0
 go_wp2_with fail
 refine (yal b _ HB.out).mono ?_
 rintro e w2 ⟨rfl,hb⟩
 have hB2:=onS hB1 hb
 clear hb hB1
 go_wp2_with fail
 refine (yaK a b _ HA.out HB.out).mono ?_
 rintro e w3 ⟨rfl,hb⟩
 have hB3:=onS hB2 hb
 clear hb hB2
 obtain ⟨x,hx⟩:∃ x,x=capI a b:=⟨_,rfl⟩
 have HX:=hid hx
 rw [<-hx];clear hx
 go_wp2
 go_ret
 exact ⟨by rw [<-HX.out]; rfl,hB3⟩
section
variable {w w':World} {g base m:Nat} {F:Nat->Value} {n n':Nat->Nat} {x x':Nat->Nat->Int}
theorem IntTab.put (h:IntTab w g base m F n x) (hgb:g<base) {v:Nat} (hv:v<m) {v':Value} {k':Nat} {y:Nat->Int} (hown:Own w' base 3 1 v' k' (fun i _=>.int .i64 (y i))) (hg:w.grownBy w' (F v).ownBlock) (hat:v'.ownBlock=(F v).ownBlock∨v'.ownBlock=some w.heap.size) :
  IntTab (w'.setCell ⟨g,v,none⟩ v') g base m (fun u=>if u=v then v' else F u) (fun u=>if u=v then k' else n u) (fun u=>if u=v then y else x u):=by
 have h1:=TabOwn.put h hgb hv hown hg hat
 refine ⟨h1.row,fun u hu=>?_,h1.apart⟩
 have h2:=h1.own u hu
 by_cases e:u=v
 ·simp only [if_pos e] at h2 ⊢
  exact h2
 ·simp only [if_neg e] at h2 ⊢
  exact h2
end
theorem yaa {ops:Array Oper} {o:Oper} {a:Act} {w:World} {K:Act->World->Prop} {Q:Exit->Act->World->Prop} {E:Prop} (hgd:o.guard=none) (sl y:Operand)
  (ho:o.op=.call { callee:=.builtin .append,args:=#[sl,y],argTypes:=#[22, 22] })
  (base:Nat) (v:Value) (k:Nat) (x:Nat->Int) (hv:a.eval sl=v) (h:Own w base 3 1 v k (fun i _=>.int .i64 (x i))) (hbase:base<=w.heap.size) (hk:k<=1048576)
  (b c:Nat) (hy:a.eval y=.slice (some ⟨b,0,none⟩) 1 c) (c0:w.cell? ⟨b,0,none⟩=some (.int .i64 (x k)))
  (hK:∀ v' w',Own w' base 3 1 v' (k+1) (fun i _=>.int .i64 (x i))->w.grownBy w' v.ownBlock->(v'.ownBlock=v.ownBlock∨v'.ownBlock=some w.heap.size)->K (a.put o.dst v') w') :
  if Region.wanted o (yielded ops a.tmps)=true then Oper.wp Tryz.prog o a w K Q else E:=by
 obtain ⟨i0,qi0,qz0,qz1,qz2⟩:=info_parts Tryz.infoInt
 exact zbE w hgd sl y _ ho base 3 i0 _ 1 8 Tryz.underlying22 qi0 qz0 qz1 qz2 rfl (by omega) v k _ hv h ⟨b,0,none⟩ c hy (fun j hj=>by
   obtain rfl:j=0:=by omega
   exact c0) (fun _ _=>rfl) (by unfold maxLen; omega) (by omega) hbase hK
def Trel.outs (T:Trel) (i:Nat) (v:Int) (m:Nat):List Nat:=(List.range m).filter fun j=>T.fr i j == v
theorem Trel.outs_mem {T:Trel} {i m j:Nat} {v:Int}:j ∈ T.outs i v m↔j<m/\T.fr i j=v:=by
 simp [Trel.outs]
theorem Trel.outs_pos {T:Trel} (h:T.Proper) {i:Nat} (hi:i<T.n) {v:Int} (h0:0<=v) (h1:v<T.W i):∃ j,j ∈ T.outs i v (T.el i):=by
 have h2:=(h.sec i hi).2.1 v.toNat (by omega)
 obtain ⟨j,hj,e⟩:=zcM.1 h2
 exact ⟨j,Trel.outs_mem.2 ⟨hj,by omega⟩⟩
theorem Trel.ordP {T:Trel} {i:Nat} (h:T.secOk i):∀ q j,j<q->q<T.el i->T.fr i j<T.fr i q∨T.fr i j=T.fr i q/\T.lb i j<T.lb i q:=by
 intro q
 induction q with
 | zero=>intro j hj; omega
 | succ q ih =>
  intro j hj hq
  have h1:=(h.1 (q+1) hq).2.2 (by omega)
  unfold Trel.after at h1
  rw [Nat.add_sub_cancel] at h1
  by_cases e:j=q
  ·rw [e]; exact h1
  ·have h2:=ih j (by omega) (by omega)
   omega
theorem yaC (b:Nat) (U:Value) (n c:Nat) (w:World) (hcell:w.cell? ⟨b,0,none⟩=some U) (hU:U.oneCell'=true) (h1:1<=n) (hn:n<=1048576) :
  Calls Tryz.prog 118 #[.slice (some ⟨b,0,none⟩) 1 c,.int .i64 (n:Nat)] w fun e w' =>
   ∃ g,e=.returned (.slice (some ⟨g,0,none⟩) n n)/\w.heap.size<=g/\w'.rowIs g 3 n (fun _=>U)/\Below w.heap.size w w':=by
 have hn0:¬ (n:Int)<0:=by omega
 have hwn:IntKind.u64.wrap (n:Int)=(n:Int):=IntWalk.u64_in _ (by omega)
 have hwi:IntKind.i64.wrap (n:Int)=(n:Int):=IntWalk.i64_in _ (by omega)
 go_enter Tryz.func118, Tryz.ntmps118
 go_wp2_with fail
 refine (zjc n (by omega) w).mono ?_
 rintro e w1 ⟨rfl,rfl⟩
 have hng:¬ (n:Int) > 9223372036854775807:=by omega
 have hng2:decide ((n:Int) > 9223372036854775807)=false:=by simp; omega
 have hng3:decide (9223372036854775807<(n:Int))=false:=by simp; omega
 have hmk:=fun W=>zah (P:=Tryz.prog) 22 3 _ 8 Tryz.underlying22 Tryz.infoInt rfl (n:Int) (by omega) (by omega) (by omega) W
 simp only [Int.toNat_natCast] at hmk
 go_upto_region 7 with fail
 obtain ⟨i0,hi0⟩:∃ i,Tryz.prog.info? 3 = some i:=by cases h:Tryz.prog.info? 3 with | none=>have:=Tryz.infoInt; simp [h] at this | some i=>exact ⟨i,rfl⟩
 have hsz:(Tryz.prog.info? 3).map (·.size)=some 1:=by
  have:=Tryz.infoInt
  rw [hi0] at this ⊢
  simp only [Option.map_some,Option.some.injEq,Prod.mk.injEq] at this ⊢
  exact this.2.1
 have hm0:(w1.alloc (Obj.cells (madeCells #[Value.int .i64 0] n) 3)).heap[w1.heap.size]?=some (.cells (filled U (.int .i64 0) 0 n).toArray 3 (0,0)):=by
  rw [<-zcL,Array.toArray_toList]
  exact heap_alloc_new _ _
 have hb0:Below w1.heap.size w1 (w1.alloc (Obj.cells (madeCells #[Value.int .i64 0] n) 3)):=(Below.refl _ _).alloc (Nat.le_refl _) _
 have hc0:=cellS hb0 hcell
 obtain ⟨wm,hwm⟩:∃ W,W=w1.alloc (Obj.cells (madeCells #[Value.int .i64 0] n) 3):=⟨_,rfl⟩
 rw [<-hwm] at hm0 hb0 hc0 ⊢
 obtain ⟨g,hg⟩:∃ g,g=w1.heap.size:=⟨_,rfl⟩
 have hgle:w1.heap.size<=g:=by omega
 rw [<-hg] at hm0 ⊢
 have HC0:=hid hc0
 clear hwm hmk hc0 hg hcell
 have HSRC:Hid (∀ j v,(List.replicate 1 U)[j]?=some v->wm.cell? ((⟨b,0,none⟩:Addr).add j)=some v):=fun j v hv=>by
  have hj:j=0:=by
   have:=(List.getElem?_eq_some_iff.1 hv).1
   simp at this; omega
  subst hj
  have:U=v:=by simpa using hv
  rw [<-this]
  exact HC0.out
 have HONE:Hid (∀ m,∀ v ∈ List.replicate m U,v.oneCell'=true):=fun m v hv=>by rw [List.eq_of_mem_replicate hv]; exact hU
 have HFIT:Hid (0+(List.replicate 1 U).length<=(filled U (.int .i64 0) 0 n).length):=by
  show _<=_
  rw [zce _ _ (by omega)]; simp; omega
 have HLEN:Hid ((List.replicate 1 U).length=Nat.min 1 n):=by show 1=min 1 n; omega
 go_wp2_with (first | (refine wpList_copy_splice (cur:=filled U (.int .i64 0) 0 n) (cs:=List.replicate 1 U) (B:=w1.heap.size) (w0:=w1) rfl (.tmp 31) (.tmp 32) 22 22 rfl 3 Tryz.underlying22 hsz (some ⟨g,0,none⟩) (some ⟨b,0,none⟩) n n 1 c rfl rfl g 0 3 hm0 HLEN.out (fun _=>⟨rfl,_,rfl,HSRC.out⟩) HFIT.out (HONE.out 1) hb0 hgle ?_; intro w2 hm2 hb2))
 have HM2:Hid (w2.heap[g]?=some (.cells (filled U (.int .i64 0) 1 n).toArray 3 (0,0))):=by
  have:=hm2.out
  rwa [zcf] at this
 clear hm0 hb0 hm2 hU HLEN HFIT HSRC
 go_wp2
 go_loopg [8] n (fun gg iv wx=>∃ k:Nat,iv=.int .i64 (k:Nat)/\1<=k/\k<=n/\n<=k+gg/\Hid (wx.heap[g]?=some (.cells (filled U (.int .i64 0) k n).toArray 3 (0,0)))/\Below w1.heap.size w1 wx)
 case atStart=>exact ⟨1,rfl,by omega,by omega,by omega,HM2,hb2⟩
 case round =>
  clear HM2 hb2
  obtain ⟨k,rfl,hk1,hk,hkg,HM,hb⟩:=hrel
  have hk0:(0:Int)<=(k:Int):=by omega
  by_cases hlt:k<n
  ·have hlt':(k:Int)<(n:Int):=by omega
   obtain ⟨m,hm⟩:∃ m,m=min k (n - k):=⟨_,rfl⟩
   have hm1:1<=m:=by omega
   have hmk:m<=k:=by omega
   have hkm:k+m<=n:=by omega
   have hle1:(k:Int)<=(n:Int):=by omega
   have hkn:k≠n:=by omega
   have hnk:¬ n=k:=by omega
   have HSRC:Hid (∀ j v,(List.replicate m U)[j]?=some v->(World.drew wr).cell? ((⟨g,0,none⟩:Addr).add j)=some v):=fun j v hv=>by
    have hj:j<m:=by
     have:=(List.getElem?_eq_some_iff.1 hv).1
     simpa using this
    have hv':U=v:=by
     rw [List.getElem?_replicate,if_pos hj] at hv
     simpa using hv
    rw [zcv,Nat.zero_add,<-hv']
    show wr.cell? ⟨g,j,none⟩=some U
    rw [cell_of_row wr g j _ _ _ HM.out,List.getElem?_toArray,zd0 (by omega)]
   have HFIT:Hid (k+(List.replicate m U).length<=(filled U (.int .i64 0) k n).length):=by
    show _<=_
    rw [zce _ _ hk]; simp; omega
   have HLEN:Hid ((List.replicate m U).length=Nat.min k (n - k)):=by show _=_; rw [List.length_replicate]; exact hm
   clear hm
   have hwkm:IntKind.i64.wrap ((k:Int)+(m:Int))=(k:Int)+(m:Int):=IntWalk.i64_in _ (by omega)
   go_upto_region 9 with fail
   refine wp_region_held_drew (S:=fun w'=>Below w1.heap.size w1 w') (by kernel_rfl) hb.drew (fun hHeld=>?_)
   refine tkq 0 (h:=tkq 1 (h:=tkq 2 (h:=tkq 3 (h:=tkq 4 (h:=tkq 5 (h:=tkq 6 (h:=?_)))))))
   refine rdq 7 (h:=fun K hK=>?_)
   refine step_copy_splice (cur:=filled U (.int .i64 0) k n) (cs:=List.replicate m U) (B:=w1.heap.size) (w0:=w1) (by rfl) (.tmp 41) (.tmp 44) 22 22 (by rfl) 3 Tryz.underlying22 hsz (some ⟨g,k,none⟩) (some ⟨g,0,none⟩) (n - k) (n - k) k n (by rfl) (by rfl) g k 3 HM.out HLEN.out (fun _=>⟨rfl,_,rfl,HSRC.out⟩) HFIT.out (HONE.out m) hb.drew hgle ?_
   intro w3 hm3 hb3
   refine bkq hK hb3 (h:=fun hHeld=>?_)
   clear hK K
   refine tkq 8 (h:=tkq 9 (h:=?_))
   refine wpAnyH_done (by kernel_rfl) ?_ _
   clear hHeld
   have HM3:Hid (w3.heap[g]?=some (.cells (filled U (.int .i64 0) (k+m) n).toArray 3 (0,0))):=by
    have:=hm3.out
    rwa [zcf] at this
   clear hm3
   go_wp2
   go_roundg (gk - 1)
   case measure=>omega
   case rel=>exact ⟨k+m,by go_num,by omega,by omega,by omega,HM3,hb3⟩
  ·obtain rfl:k=n:=by omega
   have hfin:wr.rowIs g 3 k (fun _=>U):=⟨_,HM.out,by simp [filled],fun i hi=>by
    rw [List.getElem?_toArray,zd0 hi]⟩
   go_wp2
   go_ret
   exact ⟨g,rfl,hgle,hfin,hb⟩
section
variable {P M n N:Nat} {m:Nat->Nat} {V:Nat->Nat->Nat} {p u:Nat->Nat}
theorem ybq (hL:FieldLaws (P ^ M) (addF P M) (mulF P M m)) (hP:0<P) (hE:EchN (P ^ M) n N N n p V) (hu:∀ j,j<N->u j<P ^ M) {t:Nat} (ht:t<n):restF P M m p V u t (p t)=u (p t):=by
 rw [yae hL hP hu (hE.pvlt t ht)]
 have:∀ s,s<=t->spE (addF P M) (mulF P M m) V (fun i=>negF P M (u (p i))) s (p t)=0:=by
  intro s
  induction s with
  | zero=>intro _; rfl
  | succ s ih =>
   intro hs
   show addF P M (spE (addF P M) (mulF P M m) V (fun i=>negF P M (u (p i))) s (p t)) (mulF P M m (negF P M (u (p s))) (V s (p t)))=0
   rw [ih (by omega),hE.zero t ht s (by omega) (by omega),hL.mulZero (zbp hP)]
   exact hL.zeroAdd 0 (by have:=hL.two; omega)
 rw [this t (Nat.le_refl t),hL.addComm,hL.zeroAdd _ (hu _ (hE.pvlt t ht))]
theorem yan (hL:FieldLaws (P ^ M) (addF P M) (mulF P M m)) (hP:0<P) (hE:EchN (P ^ M) n N N n p V) (hu:∀ j,j<N->u j<P ^ M) {t j:Nat} (ht:t<n) (hj:j<N) :
  restF P M m p V u (t+1) j=addF P M (restF P M m p V u t j) (negF P M (mulF P M m (u (p t)) (V t j))):=by
 have hneg:∀ x,x<P ^ M->negF P M x<P ^ M/\addF P M x (negF P M x)=0:=fun x _=>⟨zbp hP,za4 hP⟩
 rw [ziv hL hneg (hu _ (hE.pvlt t ht)) (hE.lt t ht j hj)]
 show atF P M m (negF P M (u (p t))) (restF P M m p V u t) (V t) j=_
 unfold atF
 split
 ·next h=>rw [h,hL.mulZero (zbp hP),hL.addComm,hL.zeroAdd _ (yaf hL hu t j hj)]
 ·rfl
theorem yaL (hL:FieldLaws (P ^ M) (addF P M) (mulF P M m)) (hP:0<P) (hE:EchN (P ^ M) n N N n p V) (hu:∀ j,j<N->u j<P ^ M) {t j:Nat} (ht:t<n) (hj:j<N) (h0:u (p t)=0):restF P M m p V u (t+1) j=restF P M m p V u t j:=by
 have hneg:∀ x,x<P ^ M->negF P M x<P ^ M/\addF P M x (negF P M x)=0:=fun x _=>⟨zbp hP,za4 hP⟩
 have hz:=hneg 0 (by have:=hL.two; omega)
 have hn0:negF P M 0=0:=by rw [<-hL.zeroAdd _ hz.1]; exact hz.2
 rw [yan hL hP hE hu ht hj,h0,hL.mulComm 0 _ (by have:=hL.two; omega) (hE.lt t ht j hj),hL.mulZero (hE.lt t ht j hj),hn0,hL.addComm,hL.zeroAdd _ (yaf hL hu t j hj)]
end
def RedSpPost (P M:Nat) (m:Nat->Nat) (N n:Nat) (p:Nat->Nat) (V:Nat->Nat->Nat) (u:Nat->Nat) (w:World) (e:Ending) (w':World):Prop :=
 Below w.heap.size w w'/\∃ RA rc TK tn tc,e=.returned (.tuple #[.slice RA N rc,.slice TK tn tc])/\IntsR w' w'.heap.size RA N (fun j=>((restF P M m p V u n j:Nat):Int))
theorem yaM (P M:Nat) (m:Nat->Nat) (g N n d:Nat) (V:Nat->Nat->Nat) (p:Nat->Nat) (T:Option Addr) (PA:Option Addr) (pc:Nat) (UA:Option Addr) (uc:Nat) (u:Nat->Nat) (w:World) (hG:GF w w.heap.size g P M m) (hV:IntRows w T n (fun _=>N) (fun i j=>((V i j:Nat):Int))) (hp:IntsR w w.heap.size PA n (fun i=>((p i:Nat):Int)))
  (hE:EchN (P ^ M) n N N n p V) (hu:IntsR w w.heap.size UA N (fun i=>((u i:Nat):Int))) (hul:∀ j,j<N->u j<P ^ M) (hnN:n<=64) (hN:N<=64) (hN1:1<=N) (huc:N<=uc) :
  Calls Tryz.prog 217 #[.agg #[.pointer (some ⟨g,0,none⟩),.int .i64 (N:Nat),.slice T n d,.slice PA n pc],.slice UA N uc] w (RedSpPost P M m N n p V u w):=by
 have HG:=hid hG
 have HV:=hid hV
 have HPI:=hid hp
 have HE:=hid hE
 have HU:=hid hu
 have HUL:=hid hul
 have HL:=hid (fieldLaws hG.ok)
 have HP0:Hid (0<P):=hid (by have:=hG.ok.1.1; omega)
 obtain ⟨q,hq⟩:∃ q,q=P ^ M:=⟨_,rfl⟩
 have hq256:q<=256:=by rw [hq]; exact hG.ok.1.2.2.2
 have HQ:=hid hq
 clear hG hV hp hE hu hul hq
 have rf:=zfl (w:=w) (a:=.pointer (some ⟨g,0,none⟩)) (b:=.int .i64 (N:Nat)) (c:=.slice T n d) (d:=.slice PA n pc) (T := 196)
 have hB:Below w.heap.size w (w.alloc (.cells #[.pointer (some ⟨g,0,none⟩),.int .i64 (N:Nat),.slice T n d,.slice PA n pc] 196)):=(Below.refl _ _).alloc (Nat.le_refl _) _
 obtain ⟨w1,hw1⟩:∃ W,W=w.alloc (.cells #[.pointer (some ⟨g,0,none⟩),.int .i64 (N:Nat),.slice T n d,.slice PA n pc] 196):=⟨_,rfl⟩
 rw [<-hw1] at hB rf
 go_enter Tryz.func217, Tryz.ntmps217
 go_upto_region 1 with fail
 rw [<-hw1];clear hw1
 obtain ⟨b0,hb0⟩:∃ b,b=w.heap.size:=⟨_,rfl⟩
 rw [<-hb0] at rf;rw [<-hb0];clear hb0
 have HBOX:Hid (∀ X,Below w1.heap.size w1 X->(X.cell? ⟨b0,0,none⟩=some (.pointer (some ⟨g,0,none⟩))/\X.cell? ⟨b0,1,none⟩=some (.int .i64 (N:Nat))/\X.cell? ⟨b0,2,none⟩=some (.slice T n d)/\X.cell? ⟨b0,3,none⟩=some (.slice PA n pc))):=hid fun X hx =>
  ⟨(zab rf hx).cell (i:=0) (by omega),(zab rf hx).cell (i:=1) (by omega),(zab rf hx).cell (i:=2) (by omega),(zab rf hx).cell (i:=3) (by omega)⟩
 have HB:=hid hB
 clear hB rf
 go_wp2_with fail
 refine (zaA UA N uc (fun j=>((u j:Nat):Int)) w1 (HU.out.on HB.out) huc (by omega)).mono ?_
 rintro e w2 ⟨SA,sc,rfl,hO,kb⟩
 have HO:=hid hO
 have KB:=hid kb
 clear hO kb
 obtain ⟨q0,q1,q2,q3⟩:=HBOX.out _ KB.out
 obtain ⟨sb,so,sc',hsv,hsb0,hsbl,_,_,_⟩:=Own.form HO.out (by omega)
 simp only [Value.slice.injEq] at hsv
 obtain ⟨rfl,-,-⟩:=hsv
 have HOI:Hid (OwnI w2 w1.heap.size sb so N sc (restF P M m p V u 0)):=HO
 clear HO
 go_upto_region 3 with fail
 clear q0 q1 q2 q3 hsbl
 have HTK:Hid (Own w2 w1.heap.size 3 1 (.slice none 0 0) 0 (fun j _=>.int .i64 (u (p j):Nat))):=hid (Own.nil _ _ _ _ _)
 go_loopg [5,16] n (fun gg tv iv wx=>∃ t:Nat,iv=.int .i64 (t:Nat)/\t<=n/\n<=t+gg/\Hid (Own wx w1.heap.size 3 1 tv t (fun j _=>.int .i64 (u (p j):Nat)))/\Hid (tv.ownBlock≠some sb)/\Hid (OwnI wx w1.heap.size sb so N sc (restF P M m p V u t))/\Hid (Below w1.heap.size w1 wx))
 case atStart=>exact ⟨0,rfl,by omega,by omega,HTK,hid (by intro h; cases h),HOI,KB⟩
 case round =>
  clear HTK HOI KB
  obtain ⟨t,rfl,ht,htg,HTK,HNE,HOI,KB⟩:=hrel
  have ht0:(0:Int)<=(t:Int):=by omega
  obtain ⟨SK,kc,hsv⟩:=HTK.out.shape
  subst hsv
  obtain ⟨w3,hw3⟩:∃ X,X=wr:=⟨_,rfl⟩
  subst hw3
  have HK:Hid (Below w.heap.size w w3):=hid (onS HB.out KB.out)
  by_cases hlt:t<n
  ·have hlt':(t:Int)<(n:Int):=by omega
   obtain ⟨pb,po,hpa,hpb,c0⟩:=(HPI.out.on HK.out).at hlt
   subst hpa
   have hpN:=HE.out.pvlt t hlt
   obtain ⟨P0,hP0⟩:∃ x,x=p t:=⟨_,rfl⟩
   rw [<-hP0] at hpN c0
   obtain ⟨y,hy⟩:∃ x,x=u P0:=⟨_,rfl⟩
   have hyq:y<q:=by rw [hy,HQ.out]; exact HUL.out _ hpN
   have c1:w3.cell? ⟨sb,so+P0,none⟩=some (.int .i64 (y:Nat)):=by
    have:=HOI.out.cell hpN
    rw [hP0,ybq HL.out HP0.out HE.out HUL.out hlt,<-hP0,<-hy] at this
    exact this
   have HYP:Hid (y=u (p t)):=hid (by rw [hy,hP0])
   have hpN':(P0:Int)<(N:Int):=by omega
   have hP00:(0:Int)<=(P0:Int):=by omega
   clear hy hP0 hpb
   obtain ⟨gO,hgO⟩:∃ x,x=gk:=⟨_,rfl⟩
   subst hgO
   go_upto_region 6 with fail
   clear c0 c1 hpN' hP00 hpN
   have kb:=(Below.refl w3.heap.size w3).alloc (Nat.le_refl _) (Obj.cells #[Value.int .i64 (y:Nat)] 3)
   have HTK8:=hid (HTK.out.on kb)
   have HOI8:Hid (OwnI (w3.alloc (Obj.cells #[Value.int .i64 (y:Nat)] 3)) w1.heap.size sb so N sc (restF P M m p V u t)):=hid (Own.on HOI.out kb)
   have KB8:=hid (onS KB.out kb)
   have HC8:Hid ((w3.alloc (Obj.cells #[Value.int .i64 (y:Nat)] 3)).cell? ((⟨w3.heap.size,0,none⟩:Addr).add 0)=some (.int .i64 (y:Nat))):=tbox2
   have HZ8:Hid (w1.heap.size<=(w3.alloc (Obj.cells #[Value.int .i64 (y:Nat)] 3)).heap.size):=KB8.out.size
   have HLL:Hid (t<=1048576):=by show _<=_; omega
   clear kb
   go_upto_region 7 with (first | (at_builtin; (refine zap rfl (.tmp 25) (.tmp 27) rfl HTK8.out rfl (ad:=⟨w3.heap.size,0,none⟩) (c:=1) rfl HC8.out HZ8.out HLL.out ?_); intro v9 w9 o1 o2 o3))
   have HTK9:=hid (o1.congr (f':=fun i _=>.int .i64 (u (p i):Nat)) fun s _ _ _=>by
    by_cases e:s=t
    ·subst e; rw [if_pos rfl,HYP.out]
    ·rw [if_neg e])
   have HOI9:Hid (OwnI w9 w1.heap.size sb so N sc (restF P M m p V u t)):=hid (Own.kept HOI8.out o2 (.inr fun h=>HNE.out h.symm))
   have KB9:=hid (KB8.out.grown o2 HZ8.out fun q e=>(HTK8.out.lt _ e).1)
   have hsbl:=(Own.lt HOI.out _ rfl).2
   have HNE9:Hid (v9.ownBlock≠some sb):=hid (by
    rcases o3 with h | h
    ·rw [h]; exact HNE.out
    ·rw [h]; intro h2; injection h2 with h2
     have h3:(w3.alloc (Obj.cells #[Value.int .i64 (y:Nat)] 3)).heap.size=w3.heap.size+1:=by simp
     have h4:(w3.alloc (Obj.cells #[Value.int .i64 (y:Nat)] 3)).heap.size=sb:=h2
     have h5:sb<w3.heap.size:=hsbl
     omega)
   clear o1 o2 o3 HTK8 HOI8 KB8 HC8 HZ8 HTK HNE HOI KB hsbl HLL
   have HK9:Hid (Below w.heap.size w w9):=hid (onS HB.out KB9.out)
   by_cases hy0:y=0
   ·have hyb:((y:Int) != 0)=false:=by simp [hy0]
    have HOI10:Hid (OwnI w9 w1.heap.size sb so N sc (restF P M m p V u (t+1))):=hid (Own.congr HOI9.out fun j hj _ _=>by
     show Value.int _ _=Value.int _ _
     rw [yaL HL.out HP0.out HE.out HUL.out hlt hj (by rw [<-HYP.out,hy0])])
    clear hy0
    go_wp2
    go_roundg (gO - 1)
    case measure=>omega
    case rel=>exact ⟨t+1,by go_num,by omega,by omega,HTK9,HNE9,HOI10,KB9⟩
   ·have hyb:((y:Int) != 0)=true:=by simp; omega
    have HIY:=hid (zak (by rw [<-HQ.out]; exact hyq:y<P ^ M))
    clear hy0 hyq
    obtain ⟨q0,q1,q2,q3⟩:=HBOX.out _ KB9.out
    obtain ⟨tb,to0,RA,rc,hTe,htb,r0,_,_,hrow,_⟩:=HV.out t hlt
    subst hTe
    replace r0:=(HK9.out.cell (p:=⟨tb,to0+t,none⟩) htb).trans r0
    have HROW:=hid hrow
    clear hrow
    go_upto_region 9 with fail
    clear q0 q1 q2 q3 r0 htb
    have HST:Hid (OwnI w9 w1.heap.size sb so N sc (fun j=>if j<0 then restF P M m p V u (t+1) j else restF P M m p V u t j)):=hid (Own.congr HOI9.out fun j hj _ _=>by dsimp only; rw [if_neg (by omega)])
    clear HOI9
    go_loopg [38] N (fun gg jv wx=>∃ j:Nat,jv=.int .i64 (j:Nat)/\j<=N/\N<=j+gg/\Hid (Own wx w1.heap.size 3 1 v9 (t+1) (fun i _=>.int .i64 (u (p i):Nat)))/\Hid (OwnI wx w1.heap.size sb so N sc (fun i=>if i<j then restF P M m p V u (t+1) i else restF P M m p V u t i))/\Hid (Below w1.heap.size w1 wx))
    case atStart=>exact ⟨0,rfl,by omega,by omega,HTK9,HST,KB9⟩
    case round =>
     clear HTK9 HST KB9 HK9
     obtain ⟨j,rfl,hj,hjg,HTK,HST,KB⟩:=hrel
     have hj0:(0:Int)<=(j:Int):=by omega
     by_cases hjN:j<N
     ·have hjN':(j:Int)<(N:Int):=by omega
      obtain ⟨w3,hw3⟩:∃ X,X=wr:=⟨_,rfl⟩
      subst hw3
      obtain ⟨rb,ro,hRe,hrb,r0⟩:=(HROW.out.on (onS HB.out KB.out)).at hjN
      subst hRe
      obtain ⟨z,hz⟩:∃ z,z=V t j:=⟨_,rfl⟩
      simp only [<-hz] at r0
      have hzq:z<P ^ M:=by rw [hz]; exact HE.out.lt t hlt j hjN
      obtain ⟨x,hx⟩:∃ x,x=restF P M m p V u t j:=⟨_,rfl⟩
      have hxq:x<P ^ M:=by rw [hx]; exact yaf HL.out HUL.out t j hjN
      have HX:=hid hx
      have HZ:=hid hz
      have HIX:=hid (zak hxq)
      have HIZ:=hid (zak hzq)
      clear hx hz hxq hzq
      go_wp2
      have HSS:Hid (∀ X,Below w3.heap.size w3 X->X.cell? ⟨b0,0,none⟩=some (.pointer (some ⟨g,0,none⟩))/\X.cell? ⟨sb,so+j,none⟩=some (.int .i64 (x:Nat))/\X.cell? ⟨rb,ro+j,none⟩=some (.int .i64 (z:Nat))):=hid fun X hX=>⟨(HBOX.out X (onS KB.out hX)).1,by
       have:=OwnI.cell (Own.on HST.out hX) hjN
       rw [if_neg (by omega),<-HX.out] at this
       exact this,cellS hX r0⟩
      clear r0 hrb
      have S0:(World.drew w3).cell? ⟨b0,0,none⟩=some (.pointer (some ⟨g,0,none⟩)):=(HSS.out (World.drew w3) (Below.refl _ _).drew).1
      refine wp_region_held_drew (S:=fun X=>X.cell? ⟨b0,0,none⟩=some (.pointer (some ⟨g,0,none⟩))) (by kernel_rfl) S0 (fun hHeld=>?_)
      obtain ⟨w4,hw⟩:∃ W,W=World.drew w3:=⟨_,rfl⟩
      have kb:Below w3.heap.size w3 w4:=by rw [hw]; exact (Below.refl _ _).drew
      rw [<-hw] at hHeld ⊢;clear hw S0
      have K4:=hid kb
      clear kb
      have s0:=HSS.out _ K4.out
      obtain ⟨y0,y1,y2⟩:=s0
      obtain ⟨a,ha⟩:∃ a,a=mulF P M m y z:=⟨_,rfl⟩
      have HAV:=hid ha
      have HIA:=hid (zak (by rw [ha]; exact HL.out.mulLt _ _:a<P ^ M))
      clear ha
      have HSB:Hid (∀ X,Below w3.heap.size w3 X->X.cell? ⟨b0,0,none⟩=some (.pointer (some ⟨g,0,none⟩))):=hid fun X hX=>(HSS.out X hX).1
      refine tkq 0 (h:=tkq 1 (h:=tkq 2 (h:=tkq 3 (h:=tkq 4 (h:=tkq 5 (h:=tkq 6 (h:=tkq 8 (h:=tkq 9 (h:=tkq 10 (h:=tkq 11 (h:=?_)))))))))))
      clear hHeld y0 y1 y2
      refine rdq2 7 12 (h:=fun K hK=>?_) (h2:=fun K hK=>?_)
      focus
       have u0:=(HSS.out _ K4.out).2.1
       go_simp
       clear u0
       refine bkq hK (HSB.out _ K4.out) (h:=fun hHeld=>?_)
       clear hK K hHeld
       refine rdq 12 (h:=fun K hK=>?_)
       go_simp
       go_wp2_with fail
       refine (zaM (y:Int) (z:Int) (HG.out.at (onS HB.out (onS KB.out K4.out)) (onS HB.out (onS KB.out K4.out)).size)).mono ?_
       rintro e w5 ⟨rfl,kb⟩
       rw [HIY.out,HIZ.out,<-HAV.out]
       have K5:=hid (onS K4.out kb)
       clear kb
       refine bkq hK (HSB.out _ K5.out) (h:=fun hHeld=>?_)
       clear hK K
      rotate_left
      focus
       go_simp
       go_wp2_with fail
       refine (zaM (y:Int) (z:Int) (HG.out.at (onS HB.out (onS KB.out K4.out)) (onS HB.out (onS KB.out K4.out)).size)).mono ?_
       rintro e w5 ⟨rfl,kb⟩
       rw [HIY.out,HIZ.out,<-HAV.out]
       have K5:=hid (onS K4.out kb)
       clear kb
       refine bkq hK (HSB.out _ K5.out) (h:=fun hHeld=>?_)
       clear hK K;clear hHeld
       refine rdq 7 (h:=fun K hK=>?_)
       have u0:=(HSS.out _ K5.out).2.1
       go_simp
       clear u0
       refine bkq hK (HSB.out _ K5.out) (h:=fun hHeld=>?_)
       clear hK K
      all_goals
       refine rdq 13 (h:=fun K hK=>?_)
       go_simp
       go_wp2_with fail
       refine (zeO (x:Int) (a:Int) (HG.out.at (onS HB.out (onS KB.out K5.out)) (onS HB.out (onS KB.out K5.out)).size)).mono ?_
       rintro e w6 ⟨rfl,kb⟩
       rw [HIX.out,HIA.out]
       obtain ⟨b,hb⟩:∃ b,b=addF P M x (negF P M a):=⟨_,rfl⟩
       rw [<-hb]
       have hbv:b=restF P M m p V u (t+1) j:=by
        rw [hb,HAV.out,HX.out,HZ.out,HYP.out,yan HL.out HP0.out HE.out HUL.out hlt hjN]
       have HBV:=hid hbv
       clear hb hbv
       have K6:=hid (onS K5.out kb)
       clear kb K5 K4
       refine bkq hK (HSB.out _ K6.out) (h:=fun hHeld=>?_)
       clear hK K
       refine tkq 14 (h:=?_)
       clear hHeld
       refine rdq 15 (h:=fun K hK=>?_)
       have s0:=HSS.out _ K6.out
       obtain ⟨y0,y1,y2⟩:=s0
       have HST6:Hid (OwnI w6 w1.heap.size sb so N sc (fun i=>if i<j then restF P M m p V u (t+1) i else restF P M m p V u t i)):=hid (Own.on HST.out K6.out)
       have z0:=Own.frozen HST6.out (so+j)
       go_simp
       clear y0 y1 y2 z0
       have HST7:Hid (OwnI (w6.setCell ⟨sb,so+j,none⟩ (.int .i64 (b:Nat))) w1.heap.size sb so N sc (fun i=>if i<j+1 then restF P M m p V u (t+1) i else restF P M m p V u t i)):=hid ((HST6.out.set hjN b).congr fun i hi=>by
        by_cases e:i=j
        ·subst e
         rw [if_pos rfl,if_pos (by omega),HBV.out]
        ·rw [if_neg e]
         by_cases e2:i<j
         ·rw [if_pos e2,if_pos (by omega)]
         ·rw [if_neg e2,if_neg (by omega)])
       have HTK7:=hid ((HTK.out.on K6.out).setCell (a:=⟨sb,so+j,none⟩) HNE9.out (.int .i64 (b:Nat)))
       have KB7:=hid ((onS KB.out K6.out).setCell (p:=⟨sb,so+j,none⟩) hsb0 (.int .i64 (b:Nat)))
       obtain ⟨w7,hw7⟩:∃ W,W=w6.setCell ⟨sb,so+j,none⟩ (.int .i64 (b:Nat)):=⟨_,rfl⟩
       rw [<-hw7] at HST7 HTK7 KB7 ⊢;clear hw7
       have y0:=(HBOX.out _ KB7.out).1
       refine bkq hK y0 (h:=fun hHeld=>?_)
       clear hK K
       refine wpAnyH_done (by kernel_rfl) ?_ _
       clear hHeld
       go_wp2
       go_roundg (gk - 1)
       case measure=>omega
       case rel=>exact ⟨j+1,by go_num,by omega,by omega,HTK7,HST7,KB7⟩
     ·have hjN':¬ (j:Int)<(N:Int):=by omega
      obtain rfl:N=j:=by omega
      have HOI10:Hid (OwnI wr w1.heap.size sb so N sc (restF P M m p V u (t+1))):=hid (Own.congr HST.out fun i hi _ _=>by dsimp only; rw [if_pos hi])
      go_wp2
      go_roundg (gO - 1)
      case measure=>omega
      case rel=>exact ⟨t+1,by go_num,by omega,by omega,HTK,HNE9,HOI10,KB⟩
  ·have hlt':¬ (t:Int)<(n:Int):=by omega
   obtain rfl:t=n:=by omega
   go_wp2
   go_ret2
   exact ⟨HK.out,_,_,_,_,_,rfl,by have:=Own.rd HOI.out rfl; exact this⟩
theorem yaN (F:Option Addr) (n d:Nat) (f:Nat->Int) (w:World) (hf:IntsR w w.heap.size F n f) (hn:n<=1024) :
  Calls Tryz.prog 218 #[.slice F n d] w fun e w'=>∃ b:Bool,e=.returned (.bool b)/\(b=true↔∀ i,i<n->f i=0)/\Below w.heap.size w w':=by
 have HF:=hid hf
 clear hf
 go_enter Tryz.func218, Tryz.ntmps218
 go_wp2_with fail
 refine (ya2 F n d f w HF.out hn).mono ?_
 rintro e w1 ⟨b,rfl,hb,kb⟩
 have hd:(!b)=true↔∀ i,i<n->f i=0:=by
  constructor
  ·intro h i hi
   have hbf:b=false:=by simpa using h
   by_cases e:f i=0
   ·exact e
   ·have:=hb.2 ⟨i,hi,by simpa [isNz] using e⟩
    rw [hbf] at this
    cases this
  ·intro h
   cases b with
   | false=>rfl
   | true =>
    obtain ⟨i,hi,h2⟩:=hb.1 rfl
    simp [isNz,h i hi] at h2
 have HD:=hid hd
 have KB:=hid kb
 clear hb hd kb
 obtain ⟨c,hc⟩:∃ c,c=!b:=⟨_,rfl⟩
 rw [<-hc] at HD
 have HC:=hid hc
 clear hc
 go_wp2
 go_ret
 exact ⟨_,rfl,by rw [<-HC.out]; exact HD.out,KB.out⟩
theorem ybr (P M:Nat) (m:Nat->Nat) (g N n d:Nat) (V:Nat->Nat->Nat) (p:Nat->Nat) (T:Option Addr) (PA:Option Addr) (pc:Nat) (UA:Option Addr) (uc:Nat) (u:Nat->Nat) (w:World) (hG:GF w w.heap.size g P M m) (hV:IntRows w T n (fun _=>N) (fun i j=>((V i j:Nat):Int))) (hp:IntsR w w.heap.size PA n (fun i=>((p i:Nat):Int)))
  (hE:EchN (P ^ M) n N N n p V) (hu:IntsR w w.heap.size UA N (fun i=>((u i:Nat):Int))) (hul:∀ j,j<N->u j<P ^ M) (hnN:n<=64) (hN:N<=64) (hN1:1<=N) (huc:N<=uc) :
  Calls Tryz.prog 168 #[.agg #[.pointer (some ⟨g,0,none⟩),.int .i64 (N:Nat),.slice T n d,.slice PA n pc],.slice UA N uc] w fun e w'=>∃ b:Bool,e=.returned (.bool b)/\(b=true↔InSp (P ^ M) (addF P M) (mulF P M m) n N V u)/\Below w.heap.size w w':=by
 have HG:=hid hG
 have HV:=hid hV
 have HPI:=hid hp
 have HE:=hid hE
 have HU:=hid hu
 have HUL:=hid hul
 clear hG hV hp hE hu hul
 have rf:=zfl (w:=w) (a:=.pointer (some ⟨g,0,none⟩)) (b:=.int .i64 (N:Nat)) (c:=.slice T n d) (d:=.slice PA n pc) (T := 196)
 have hB:Below w.heap.size w (w.alloc (.cells #[.pointer (some ⟨g,0,none⟩),.int .i64 (N:Nat),.slice T n d,.slice PA n pc] 196)):=(Below.refl _ _).alloc (Nat.le_refl _) _
 obtain ⟨w1,hw1⟩:∃ W,W=w.alloc (.cells #[.pointer (some ⟨g,0,none⟩),.int .i64 (N:Nat),.slice T n d,.slice PA n pc] 196):=⟨_,rfl⟩
 rw [<-hw1] at hB rf
 go_enter Tryz.func168, Tryz.ntmps168
 go_upto_region 1 with fail
 rw [<-hw1];clear hw1
 have q0:w1.cell? ⟨w.heap.size,0,none⟩=some (.pointer (some ⟨g,0,none⟩)):=rf.cell (i:=0) (by omega)
 have q1:w1.cell? ⟨w.heap.size,1,none⟩=some (.int .i64 (N:Nat)):=rf.cell (i:=1) (by omega)
 have q2:w1.cell? ⟨w.heap.size,2,none⟩=some (.slice T n d):=rf.cell (i:=2) (by omega)
 have q3:w1.cell? ⟨w.heap.size,3,none⟩=some (.slice PA n pc):=rf.cell (i:=3) (by omega)
 have HB:=hid hB
 clear hB rf
 go_wp2_with fail
 refine (yaM P M m g N n d V p T PA pc UA uc u w1 (HG.out.at HB.out HB.out.size) (HV.out.on HB.out) (HPI.out.on HB.out) HE.out (HU.out.on HB.out) HUL.out hnN hN hN1 huc).mono ?_
 rintro e w2 ⟨kb,RA,rc,TK,tn,tc,rfl,hr⟩
 have HR:=hid hr
 have KB:=hid kb
 clear hr kb q0 q1 q2 q3
 go_wp2_with fail
 refine (yaN RA N rc (fun j=>((restF P M m p V u n j:Nat):Int)) w2 HR.out (by omega)).mono ?_
 rintro e w3 ⟨b,rfl,hb,kb⟩
 have hin:b=true↔InSp (P ^ M) (addF P M) (mulF P M m) n N V u:=by
  rw [hb,<-ya3 (fieldLaws HG.out.ok) (by have:=HG.out.ok.1.1; omega) HE.out HUL.out]
  constructor
  ·intro h j hj
   have:=h j hj
   omega
  ·intro h j hj
   rw [h j hj]
   rfl
 have HI:=hid hin
 replace KB:=hid (onS KB.out kb);clear hb hin kb
 go_wp2
 go_ret
 exact ⟨b,rfl,HI.out,onS HB.out KB.out⟩
theorem ya5 (P M:Nat) (m:Nat->Nat) (g N n d:Nat) (T:Option Addr) (pv:Value) (UA:Option Addr) (uc:Nat) (u:Nat->Int) (w:World) (hG:GF w w.heap.size g P M m) (hu:IntsR w w.heap.size UA N u) (hul:AllIn (P ^ M) N u) (hN:N<=64) :
  Calls Tryz.prog 167 #[.agg #[.pointer (some ⟨g,0,none⟩),.int .i64 (N:Nat),.slice T n d,pv],.slice UA N uc] w fun e w'=>e=.returned (.int .i64 0)/\Below w.heap.size w w':=by
 have HG:=hid hG
 have HU:=hid hu
 have HUL:=hid hul
 clear hG hu hul
 have rf:=zfl (w:=w) (a:=.pointer (some ⟨g,0,none⟩)) (b:=.int .i64 (N:Nat)) (c:=.slice T n d) (d:=pv) (T := 196)
 have hB:Below w.heap.size w (w.alloc (.cells #[.pointer (some ⟨g,0,none⟩),.int .i64 (N:Nat),.slice T n d,pv] 196)):=(Below.refl _ _).alloc (Nat.le_refl _) _
 obtain ⟨w1,hw1⟩:∃ W,W=w.alloc (.cells #[.pointer (some ⟨g,0,none⟩),.int .i64 (N:Nat),.slice T n d,pv] 196):=⟨_,rfl⟩
 rw [<-hw1] at hB rf
 go_enter Tryz.func167, Tryz.ntmps167
 go_upto_region 1 with fail
 rw [<-hw1];clear hw1
 have q0:w1.cell? ⟨w.heap.size,0,none⟩=some (.pointer (some ⟨g,0,none⟩)):=rf.cell (i:=0) (by omega)
 have q1:w1.cell? ⟨w.heap.size,1,none⟩=some (.int .i64 (N:Nat)):=rf.cell (i:=1) (by omega)
 have HB:=hid hB
 have HQ0:=hid q0
 have hne:((N:Int) != (N:Int))=false:=by simp
 clear hB rf q0
 go_wp2_with fail
 refine (ya0 P M m g w.heap.size UA N uc u w1 (HG.out.at HB.out HB.out.size) HQ0.out (HU.out.on HB.out) (by omega)).mono ?_
 rintro e w2 ⟨b,rfl,hb,kb⟩
 have hbf:b=false:=by
  cases b with
  | false=>rfl
  | true =>
   obtain ⟨i,hi,h2⟩:=hb.1 rfl
   have h3:=HUL.out i hi
   simp [notIs,isB] at h2
   have h4:=h3.2
   have h6:=h3.1
   have h5:((P ^ M:Nat):Int)=(P:Int) ^ M:=by push_cast; rfl
   omega
 subst hbf
 have KB:=hid kb
 clear hb kb q1
 go_wp2
 go_ret
 exact ⟨rfl,onS HB.out KB.out⟩
theorem ya6 (P M:Nat) (A:Option Addr) (k c:Nat) (f:Nat->Int) (U:Option Addr) (l uc N:Nat) (u:Nat->Int) (w:World) (hr:IntsR w w.heap.size A k f) (hg:GoodF (P:Int) (M:Int) k f) (hu:IntsR w w.heap.size U l u) (hN:N<=64) :
  Calls Tryz.prog 165 #[.agg #[.int .i64 (P:Nat),.int .i64 (M:Nat),.slice A k c],.slice U l uc,.int .i64 (N:Nat)] w (ErrsPost (WordErrs (P ^ M) N l u) w):=by
 have HR:=hid hr
 have HGO:=hid hg
 have HU:=hid hu
 clear hr hg hu
 have rf:=zaf (w:=w) (a:=.int .i64 (P:Nat)) (b:=.int .i64 (M:Nat)) (c:=.slice A k c) (T := 24)
 have hB:Below w.heap.size w (w.alloc (.cells #[.int .i64 (P:Nat),.int .i64 (M:Nat),.slice A k c] 24)):=(Below.refl _ _).alloc (Nat.le_refl _) _
 obtain ⟨w1,hw1⟩:∃ W,W=w.alloc (.cells #[.int .i64 (P:Nat),.int .i64 (M:Nat),.slice A k c] 24):=⟨_,rfl⟩
 rw [<-hw1] at hB rf
 go_enter Tryz.func165, Tryz.ntmps165
 go_upto_region 1 with fail
 rw [<-hw1];clear hw1
 have q0:w1.cell? ⟨w.heap.size,0,none⟩=some (.int .i64 (P:Nat)):=rf.cell (i:=0) (by omega)
 have q1:w1.cell? ⟨w.heap.size,1,none⟩=some (.int .i64 (M:Nat)):=rf.cell (i:=1) (by omega)
 have q2:w1.cell? ⟨w.heap.size,2,none⟩=some (.slice A k c):=rf.cell (i:=2) (by omega)
 have HB:=hid hB
 clear hB rf
 by_cases hl:l=N
 rotate_left
 ·have HL:=hid hl
  have hl':((l:Int) != (N:Int))=true:=by simp; omega
  clear hl
  go_wp2
  go_ret
  exact errsPost (.inl ⟨HL.out,rfl⟩) HB.out
 subst hl
 have hl':((l:Int) != (l:Int))=false:=by simp
 go_wp2_with fail
 refine (zbP (P:Int) (M:Int) A k c f w1 (HR.out.on HB.out)).mono ?_
 rintro e w2 ⟨kb,hcase⟩
 rcases hcase with ⟨hbad,_⟩ | ⟨_,gf,P2,M2,hP2,hM2,rfl,_,hG⟩
 ·exact absurd HGO.out hbad
 obtain rfl:P=P2:=by omega
 obtain rfl:M=M2:=by omega
 have HG:=hid hG.gf
 have KB:=hid kb
 clear kb q0 q1 q2 hP2 hM2 hG
 go_upto_region 4 with fail
 have kb:Below w2.heap.size w2 (w2.alloc (Obj.cells #[.pointer (some ⟨gf,0,none⟩)] 91)):=(Below.refl _ _).alloc (Nat.le_refl _) _
 have hc:(w2.alloc (Obj.cells #[.pointer (some ⟨gf,0,none⟩)] 91)).cell? ⟨w2.heap.size,0,none⟩=some (.pointer (some ⟨gf,0,none⟩)):=tbox2
 obtain ⟨w3,hw3⟩:∃ W,W=w2.alloc (Obj.cells #[.pointer (some ⟨gf,0,none⟩)] 91):=⟨_,rfl⟩
 rw [<-hw3] at kb hc ⊢;clear hw3
 have HCC:=hid hc
 have K3:=hid kb
 clear kb hc
 go_wp2_with fail
 refine (yaY P M (fun i=>(f i).toNat) gf w2.heap.size U l uc u w3 (HG.out.on K3.out) HCC.out (HU.out.on (onS HB.out (onS KB.out K3.out))) (by omega)).mono ?_
 rintro e w4 ⟨b,rfl,hb,kb⟩
 have HBB:=hid hb
 have K4:=hid (onS HB.out (onS KB.out (onS K3.out kb)))
 clear hb kb
 cases b with
 | false =>
  go_wp2
  go_ret
  refine errsPost (.inr ⟨rfl,.inr ⟨fun i hi=>?_,rfl⟩⟩) K4.out
  have h1:=fun h=>HBB.out.2 ⟨i,hi,h⟩
  by_cases e:0<=u i/\u i<(P ^ M:Nat)
  ·exact e
  ·have:=h1 (by simp only [notIs,isB,decide_eq_false e]; rfl)
   cases this
 | true =>
  go_wp2
  go_ret
  refine errsPost (.inr ⟨rfl,.inl ⟨fun h=>?_,rfl⟩⟩) K4.out
  obtain ⟨i,hi,h2⟩:=HBB.out.1 trivial
  have h3:0<=u i/\u i<(P ^ M:Nat):=h i hi
  rw [notIs,isB,decide_eq_true h3] at h2
  cases h2
def WordV (P M:Int) (k:Nat) (f:Nat->Int) (N:Int) (n:Nat) (ln:Nat->Nat) (V:Nat->Nat->Int) (l:Nat) (u:Nat->Int) (v:Int):Prop :=
 ∃ x,FirstErr (CodeErrs P M k f N n ln V) x/\((x≠0/\v=x)∨(x=0/\∃ P' M' N':Nat,P=P'/\M=M'/\N=N'/\FirstErr (WordErrs (P' ^ M') N' l u) v))
theorem WordV.unique {P M:Int} {k:Nat} {f:Nat->Int} {N:Int} {n:Nat} {ln:Nat->Nat} {V:Nat->Nat->Int} {l:Nat} {u:Nat->Int} {v v2:Int} (h:WordV P M k f N n ln V l u v) (h2:WordV P M k f N n ln V l u v2):v=v2:=by
 obtain ⟨x,hx,h⟩:=h
 obtain ⟨y,hy,h2⟩:=h2
 obtain rfl:x=y:=FirstErr.unique hx hy
 rcases h with ⟨h0,rfl⟩ | ⟨rfl,P',M',N',rfl,rfl,rfl,h⟩
 ·rcases h2 with ⟨_,rfl⟩ | ⟨h3,_⟩
  ·rfl
  ·exact absurd h3 h0
 ·rcases h2 with ⟨h3,_⟩ | ⟨_,P2,M2,N2,e1,e2,e3,h2⟩
  ·exact absurd rfl h3
  ·obtain rfl:P'=P2:=by omega
   obtain rfl:M'=M2:=by omega
   obtain rfl:N'=N2:=by omega
   exact FirstErr.unique h h2
theorem ya7 (P M:Int) (A:Option Addr) (k c:Nat) (f:Nat->Int) (N:Int) (T:Option Addr) (n d:Nat) (ln:Nat->Nat) (V:Nat->Nat->Int) (U:Option Addr) (l uc:Nat) (u:Nat->Int) (w:World) (hr:IntsR w w.heap.size A k f) (h:IntRows w T n ln V) (hu:IntsR w w.heap.size U l u) :
  Calls Tryz.prog 99 #[.agg #[.int .i64 P,.int .i64 M,.slice A k c,.int .i64 N,.slice T n d],.slice U l uc] w fun e w'=>Below w.heap.size w w'/\∃ v,e=.returned (.int .i64 v)/\WordV P M k f N n ln V l u v:=by
 have HI:=hid hr
 have HT:=hid h
 have HU:=hid hu
 clear hr h hu
 have rf:=zai (w:=w) (a:=.int .i64 P) (b:=.int .i64 M) (c:=.slice A k c) (d:=.int .i64 N) (e:=.slice T n d) (T := 27)
 have hB:Below w.heap.size w (w.alloc (.cells #[.int .i64 P,.int .i64 M,.slice A k c,.int .i64 N,.slice T n d] 27)):=(Below.refl _ _).alloc (Nat.le_refl _) _
 obtain ⟨w1,hw1⟩:∃ W,W=w.alloc (.cells #[.int .i64 P,.int .i64 M,.slice A k c,.int .i64 N,.slice T n d] 27):=⟨_,rfl⟩
 rw [<-hw1] at hB rf
 go_enter Tryz.func99, Tryz.ntmps99
 go_upto_region 1 with fail
 rw [<-hw1];clear hw1
 obtain ⟨b0,hb0⟩:∃ b,b=w.heap.size:=⟨_,rfl⟩
 rw [<-hb0] at rf;rw [<-hb0];clear hb0
 have HBOX:Hid (∀ X,Below w1.heap.size w1 X->(X.cell? ⟨b0,0,none⟩=some (.int .i64 P)/\X.cell? ⟨b0,1,none⟩=some (.int .i64 M)/\X.cell? ⟨b0,2,none⟩=some (.slice A k c)/\X.cell? ⟨b0,3,none⟩=some (.int .i64 N)/\X.cell? ⟨b0,4,none⟩=some (.slice T n d))):=hid fun X hx =>
  ⟨(zab rf hx).cell (i:=0) (by omega),(zab rf hx).cell (i:=1) (by omega),(zab rf hx).cell (i:=2) (by omega),(zab rf hx).cell (i:=3) (by omega),(zab rf hx).cell (i:=4) (by omega)⟩
 have HB:=hid hB
 clear hB rf
 obtain ⟨q0,q1,q2,q3,q4⟩:=HBOX.out _ (Below.refl _ _)
 go_wp2_with fail
 refine (zcI P M A k c f N T n d ln V w1 (HI.out.on HB.out) (HT.out.on HB.out)).mono ?_
 rintro e w2 ⟨v,rfl,hv,kb⟩
 have HV:=hid hv
 have KB:=hid kb
 clear kb hv q0 q1 q2 q3 q4
 by_cases hv0:v=0
 rotate_left
 ·have hub:(v != 0)=true:=by simpa using hv0
  have HV0:=hid hv0
  clear hv0
  go_wp2
  go_ret
  exact ⟨onS HB.out KB.out,v,rfl,v,HV.out,.inl ⟨HV0.out,rfl⟩⟩
 subst hv0
 have hub:((0:Int) != 0)=false:=by simp
 obtain ⟨P',M',N',rfl,rfl,rfl,hC⟩:=zb5 HI.out HT.out HV.out
 have hN64:=hC.ln2
 have HGO:Hid (GoodF (P':Int) (M':Int) k f):=hid (by
  rcases HV.out with ⟨_,h9⟩ | ⟨h1,_⟩
  ·cases h9
  ·exact h1)
 clear hC
 obtain ⟨q0,q1,q2,q3,q4⟩:=HBOX.out _ KB.out
 go_wp2_with fail
 refine (ya6 P' M' A k c f U l uc N' u w2 (HI.out.on (onS HB.out KB.out)) HGO.out (HU.out.on (onS HB.out KB.out)) hN64).mono ?_
 rintro e w3 ⟨v,rfl,hv,kb⟩
 have HW:=hid hv
 replace KB:=hid (onS KB.out kb);clear hv kb q0 q1 q2 q3 q4
 go_wp2
 go_ret
 exact ⟨onS HB.out KB.out,v,rfl,0,HV.out,.inr ⟨rfl,P',M',N',rfl,rfl,rfl,HW.out⟩⟩
theorem ya8 (P M:Nat) (A:Option Addr) (k c:Nat) (f:Nat->Int) (N:Nat) (T:Option Addr) (n d:Nat) (ln:Nat->Nat) (V:Nat->Nat->Int) (U:Option Addr) (uc:Nat) (u:Nat->Int) (w:World) (hr:IntsR w w.heap.size A k f) (h:IntRows w T n ln V) (hu:IntsR w w.heap.size U N u) (hul:AllIn (P ^ M) N u)
  (hE0:FirstErr (CodeErrs P M k f N n ln V) 0) (huc:N<=uc) :
  Calls Tryz.prog 100 #[.agg #[.int .i64 (P:Nat),.int .i64 (M:Nat),.slice A k c],.agg #[.int .i64 (N:Nat),.slice T n d],.slice U N uc] w fun e w'=>∃ b:Bool,e=.returned (.tuple #[.bool b,.int .i64 0])/\(b=true↔InSp (P ^ M) (addF P M) (mulF P M fun i=>(f i).toNat) n N (natT V) (fun j=>(u j).toNat))/\Below w.heap.size w w':=by
 have hC:CodeR w P M (fun i=>(f i).toNat) A k N T n (natT V):=by
  obtain ⟨P',M',N',e1,e2,e3,hC⟩:=zb5 hr h hE0
  obtain rfl:P=P':=by omega
  obtain rfl:M=M':=by omega
  obtain rfl:N=N':=by omega
  exact hC
 have hN1:=hC.ln1
 have hN64:=hC.ln2
 have hnN:=hC.n_le
 have HSE:Hid (FirstErr (SpaceErrs (P:Int) (M:Int) k f N n ln V) 0):=hid (by
  rcases hE0 with ⟨_,h9⟩ | ⟨hg,⟨_,h9⟩ | ⟨hN,⟨_,h9⟩ | ⟨hs,⟨_,h9⟩ | ⟨he,⟨_,h9⟩ | ⟨hR,_⟩⟩⟩⟩⟩
  ·cases h9
  ·cases h9
  ·cases h9
  ·cases h9
  ·cases h9
  ·exact .inr ⟨hg,.inr ⟨hs,.inr ⟨he,.inr ⟨by simpa using hR,rfl⟩⟩⟩⟩)
 have HI:=hid hr
 have HT:=hid h
 have HU:=hid hu
 have HUL:=hid hul
 have HRO:Hid (IntRows w T n (fun _=>N) (fun i j=>((natT V i j:Nat):Int))):=hid hC.rows
 have HUN:Hid (IntsR w w.heap.size U N (fun j=>(((u j).toNat:Nat):Int))):=hid (hu.congr fun j hj=>by have:=(hul j hj).1; omega)
 have HUNL:Hid (∀ j,j<N->(u j).toNat<P ^ M):=hid fun j hj=>by have:=hul j hj; omega
 clear hr h hu hul hE0 hC
 have rf:=zaf (w:=w) (a:=.int .i64 (P:Nat)) (b:=.int .i64 (M:Nat)) (c:=.slice A k c) (T := 24)
 have hB:Below w.heap.size w (w.alloc (.cells #[.int .i64 (P:Nat),.int .i64 (M:Nat),.slice A k c] 24)):=(Below.refl _ _).alloc (Nat.le_refl _) _
 have hsz:(w.alloc (.cells #[.int .i64 (P:Nat),.int .i64 (M:Nat),.slice A k c] 24)).heap.size=w.heap.size+1:=by simp
 obtain ⟨w0,hw0⟩:∃ W,W=w.alloc (.cells #[.int .i64 (P:Nat),.int .i64 (M:Nat),.slice A k c] 24):=⟨_,rfl⟩
 have rm:=zaB (w:=w0) (a:=.int .i64 (N:Nat)) (b:=.slice T n d) (T := 106)
 have kb:Below w0.heap.size w0 (w0.alloc (.cells #[.int .i64 (N:Nat),.slice T n d] 106)):=(Below.refl _ _).alloc (Nat.le_refl _) _
 obtain ⟨w1,hw1⟩:∃ W,W=w0.alloc (.cells #[.int .i64 (N:Nat),.slice T n d] 106):=⟨_,rfl⟩
 rw [<-hw0] at hB rf hsz;rw [<-hw1] at rm kb;rw [hsz] at rm;replace rf:=zab rf kb;replace hB:=onS hB kb
 go_enter Tryz.func100, Tryz.ntmps100
 go_upto_region 1 with fail
 rw [<-hw0,<-hw1];clear hw0 hw1 kb hsz
 obtain ⟨b0,hb0⟩:∃ b,b=w.heap.size:=⟨_,rfl⟩
 obtain ⟨b1,hb1⟩:∃ b,b=w.heap.size+1:=⟨_,rfl⟩
 rw [<-hb0] at rf;rw [<-hb1] at rm;rw [<-hb1,<-hb0];clear hb0 hb1
 have q0:w1.cell? ⟨b0,0,none⟩=some (.int .i64 (P:Nat)):=rf.cell (i:=0) (by omega)
 have q1:w1.cell? ⟨b0,1,none⟩=some (.int .i64 (M:Nat)):=rf.cell (i:=1) (by omega)
 have q2:w1.cell? ⟨b0,2,none⟩=some (.slice A k c):=rf.cell (i:=2) (by omega)
 have p0:w1.cell? ⟨b1,0,none⟩=some (.int .i64 (N:Nat)):=rm.cell (i:=0) (by omega)
 have p1:w1.cell? ⟨b1,1,none⟩=some (.slice T n d):=rm.cell (i:=1) (by omega)
 have HB:=hid hB
 clear hB rf rm
 go_wp2_with fail
 refine (zhm (P:Int) (M:Int) A k c f N T n d ln V w1 (HI.out.on HB.out) (HT.out.on HB.out) hN1).mono ?_
 rintro e w2 ⟨kb,v,hv,hcase⟩
 obtain rfl:v=0:=FirstErr.unique hv HSE.out
 rcases hcase with ⟨h0,_⟩ | ⟨_,P',M',C,g,pv,p,e1,e2,e3,rfl,hG,hP,hE⟩
 ·exact absurd rfl h0
 obtain rfl:P=P':=by omega
 obtain rfl:M=M':=by omega
 obtain rfl:N=C:=by omega
 obtain ⟨PA,pc,hpv⟩:=hP.shape
 subst hpv
 have HG:=hid hG
 have HPI:Hid (IntsR w2 w2.heap.size PA n (fun i=>((p i:Nat):Int))):=hid (Own.rd hP rfl)
 have HE:=hid hE
 have KB:=hid kb
 clear kb hv hG hP hE q0 q1 q2 p0 p1 e1 e2 e3
 go_upto_region 2 with fail
 have ro:=zfl (w:=w2) (a:=.pointer (some ⟨g,0,none⟩)) (b:=.int .i64 (N:Nat)) (c:=.slice T n d) (d:=.slice PA n pc) (T := 196)
 have kb:Below w2.heap.size w2 (w2.alloc (.cells #[.pointer (some ⟨g,0,none⟩),.int .i64 (N:Nat),.slice T n d,.slice PA n pc] 196)):=(Below.refl _ _).alloc (Nat.le_refl _) _
 obtain ⟨w3,hw3⟩:∃ W,W=w2.alloc (.cells #[.pointer (some ⟨g,0,none⟩),.int .i64 (N:Nat),.slice T n d,.slice PA n pc] 196):=⟨_,rfl⟩
 rw [<-hw3] at ro kb ⊢;clear hw3
 obtain ⟨b2,hb2⟩:∃ b,b=w2.heap.size:=⟨_,rfl⟩
 rw [<-hb2] at ro ⊢;clear hb2
 have HBOX:Hid (∀ X,Below w3.heap.size w3 X->(X.cell? ⟨b2,0,none⟩=some (.pointer (some ⟨g,0,none⟩))/\X.cell? ⟨b2,1,none⟩=some (.int .i64 (N:Nat))/\X.cell? ⟨b2,2,none⟩=some (.slice T n d)/\X.cell? ⟨b2,3,none⟩=some (.slice PA n pc))):=hid fun X hx =>
  ⟨(zab ro hx).cell (i:=0) (by omega),(zab ro hx).cell (i:=1) (by omega),(zab ro hx).cell (i:=2) (by omega),(zab ro hx).cell (i:=3) (by omega)⟩
 have K3:=hid kb
 clear ro kb
 obtain ⟨q0,q1,q2,q3⟩:=HBOX.out _ (Below.refl _ _)
 go_wp2_with fail
 refine (ya5 P M (fun i=>(f i).toNat) g N n d T (.slice PA n pc) U uc u w3 (HG.out.on K3.out) (HU.out.on (onS HB.out (onS KB.out K3.out))) HUL.out hN64).mono ?_
 rintro e w4 ⟨rfl,kb⟩
 have K4:=hid kb
 clear kb q0 q1 q2 q3
 obtain ⟨q0,q1,q2,q3⟩:=HBOX.out _ K4.out
 go_wp2_with fail
 refine (ybr P M (fun i=>(f i).toNat) g N n d (natT V) p T PA pc U uc (fun j=>(u j).toNat) w4 (HG.out.on (onS K3.out K4.out)) (HRO.out.on (onS HB.out (onS KB.out (onS K3.out K4.out)))) (HPI.out.on (onS K3.out K4.out)) HE.out (HUN.out.on (onS HB.out (onS KB.out (onS K3.out K4.out)))) HUNL.out (by omega) hN64 hN1 huc).mono ?_
 rintro e w5 ⟨b,rfl,hb,kb⟩
 have HBB:=hid hb
 have K5:=hid (onS HB.out (onS KB.out (onS K3.out (onS K4.out kb))))
 clear hb kb q0 q1 q2 q3
 go_wp2
 go_ret2
 exact ⟨b,rfl,HBB.out,K5.out⟩
def CHasPost (P M:Int) (k:Nat) (f:Nat->Int) (N:Int) (n:Nat) (ln:Nat->Nat) (V:Nat->Nat->Int) (l:Nat) (u:Nat->Int) (w:World) (e:Ending) (w':World):Prop :=
 Below w.heap.size w w'/\∃ (b:Bool) (v:Int),e=.returned (.tuple #[.bool b,.int .i64 v])/\WordV P M k f N n ln V l u v /\
  (v=0->∃ P' M' N':Nat,P=P'/\M=M'/\N=N'/\(b=true↔InSp (P' ^ M') (addF P' M') (mulF P' M' fun i=>(f i).toNat) n N' (natT V) (fun j=>(u j).toNat)))
theorem ybs (P M:Int) (A:Option Addr) (k c:Nat) (f:Nat->Int) (N:Int) (T:Option Addr) (n d:Nat) (ln:Nat->Nat) (V:Nat->Nat->Int) (U:Option Addr) (l uc:Nat) (u:Nat->Int) (w:World) (hr:IntsR w w.heap.size A k f) (h:IntRows w T n ln V) (hu:IntsR w w.heap.size U l u) (huc:l<=uc) :
  Calls Tryz.prog 39 #[.agg #[.int .i64 P,.int .i64 M,.slice A k c,.int .i64 N,.slice T n d],.slice U l uc] w (CHasPost P M k f N n ln V l u w):=by
 have HI:=hid hr
 have HT:=hid h
 have HU:=hid hu
 clear hr h hu
 have rf:=zai (w:=w) (a:=.int .i64 P) (b:=.int .i64 M) (c:=.slice A k c) (d:=.int .i64 N) (e:=.slice T n d) (T := 27)
 have hB:Below w.heap.size w (w.alloc (.cells #[.int .i64 P,.int .i64 M,.slice A k c,.int .i64 N,.slice T n d] 27)):=(Below.refl _ _).alloc (Nat.le_refl _) _
 obtain ⟨w1,hw1⟩:∃ W,W=w.alloc (.cells #[.int .i64 P,.int .i64 M,.slice A k c,.int .i64 N,.slice T n d] 27):=⟨_,rfl⟩
 rw [<-hw1] at hB rf
 go_enter Tryz.func39, Tryz.ntmps39
 go_upto_region 1 with fail
 rw [<-hw1];clear hw1
 obtain ⟨b0,hb0⟩:∃ b,b=w.heap.size:=⟨_,rfl⟩
 rw [<-hb0] at rf;rw [<-hb0];clear hb0
 have HBOX:Hid (∀ X,Below w1.heap.size w1 X->(X.cell? ⟨b0,0,none⟩=some (.int .i64 P)/\X.cell? ⟨b0,1,none⟩=some (.int .i64 M)/\X.cell? ⟨b0,2,none⟩=some (.slice A k c)/\X.cell? ⟨b0,3,none⟩=some (.int .i64 N)/\X.cell? ⟨b0,4,none⟩=some (.slice T n d))):=hid fun X hx =>
  ⟨(zab rf hx).cell (i:=0) (by omega),(zab rf hx).cell (i:=1) (by omega),(zab rf hx).cell (i:=2) (by omega),(zab rf hx).cell (i:=3) (by omega),(zab rf hx).cell (i:=4) (by omega)⟩
 have HB:=hid hB
 clear hB rf
 obtain ⟨q0,q1,q2,q3,q4⟩:=HBOX.out _ (Below.refl _ _)
 go_wp2_with fail
 refine (ya7 P M A k c f N T n d ln V U l uc u w1 (HI.out.on HB.out) (HT.out.on HB.out) (HU.out.on HB.out)).mono ?_
 rintro e w2 ⟨kb,v,rfl,hv⟩
 have HV:=hid hv
 have KB:=hid kb
 clear kb hv q0 q1 q2 q3 q4
 by_cases hv0:v=0
 rotate_left
 ·have hub:(v != 0)=true:=by simpa using hv0
  have HV0:=hid hv0
  clear hv0
  go_wp2
  go_ret2
  exact ⟨onS HB.out KB.out,false,v,rfl,HV.out,fun h=>absurd h HV0.out⟩
 subst hv0
 have hub:((0:Int) != 0)=false:=by simp
 obtain ⟨x,hx,⟨h0,h1⟩ | ⟨rfl,P',M',N',rfl,rfl,rfl,hW⟩⟩:=HV.out
 ·exact absurd h1.symm h0
 obtain ⟨hlN,hAI⟩:l=N'/\AllIn (P' ^ M') l u:=by
  rcases hW with ⟨_,h9⟩ | ⟨h1,⟨_,h9⟩ | ⟨h2,_⟩⟩
  ·cases h9
  ·cases h9
  ·exact ⟨h1,h2⟩
 subst hlN
 have HX:=hid hx
 have HAI:=hid hAI
 clear hx hW hAI
 go_upto_region 4 with fail
 refine wp_region_held_drew (S:=fun X=>(X.cell? ⟨b0,0,none⟩=some (.int .i64 (P':Int))/\X.cell? ⟨b0,1,none⟩=some (.int .i64 (M':Int))/\X.cell? ⟨b0,2,none⟩=some (.slice A k c)/\X.cell? ⟨b0,3,none⟩=some (.int .i64 (l:Int))/\X.cell? ⟨b0,4,none⟩=some (.slice T n d))) (by kernel_rfl) (HBOX.out _ (onS KB.out (Below.refl _ _).drew)) (fun hHeld=>?_)
 obtain ⟨w4,hw⟩:∃ W,W=World.drew w2:=⟨_,rfl⟩
 have kb:Below w2.heap.size w2 w4:=by rw [hw]; exact (Below.refl _ _).drew
 rw [<-hw] at hHeld ⊢;clear hw
 have K3:=hid kb
 clear kb
 refine tkq 0 (h:=tkq 1 (h:=tkq 2 (h:=tkq 4 (h:=?_))))
 clear hHeld
 refine rdq 3 (h:=fun K hK=>?_)
 go_simp
 go_wp2_with fail
 refine (zis (P':Int) (M':Int) (l:Int) A T k c n d w4).mono ?_
 rintro e w5 ⟨rfl,kb⟩
 replace K3:=hid (onS K3.out kb);clear kb
 refine bkq hK (HBOX.out _ (onS KB.out K3.out)) (h:=fun hHeld=>?_)
 clear hK K hHeld
 refine rdq 5 (h:=fun K hK=>?_)
 go_simp
 go_wp2_with fail
 refine (ya8 P' M' A k c f l T n d ln V U uc u w5 (HI.out.on (onS HB.out (onS KB.out K3.out))) (HT.out.on (onS HB.out (onS KB.out K3.out))) (HU.out.on (onS HB.out (onS KB.out K3.out))) HAI.out HX.out huc).mono ?_
 rintro e w6 ⟨b,rfl,hb,kb⟩
 replace K3:=hid (onS K3.out kb)
 have HBB:=hid hb
 clear kb hb
 refine bkq hK (HBOX.out _ (onS KB.out K3.out)) (h:=fun hHeld=>?_)
 clear hK K
 refine tkq 6 (h:=tkq 7 (h:=tkq 8 (h:=tkq 9 (h:=?_))))
 clear hHeld
 refine wpAnyH_done (by kernel_rfl) ?_ _
 go_wp2
 go_ret2
 exact ⟨onS HB.out (onS KB.out K3.out),b,0,rfl,HV.out,fun _=>⟨P',M',l,rfl,rfl,rfl,HBB.out⟩⟩
theorem yaD (P M:Int) (A:Option Addr) (k c:Nat) (f:Nat->Int) (N:Int) (TC:Option Addr) (n d:Nat) (ln:Nat->Nat) (V:Nat->Nat->Int) (w:World) (hr:IntsR w w.heap.size A k f) (h:IntRows w TC n ln V) :
  Calls Tryz.prog 48 #[.agg #[.int .i64 P,.int .i64 M,.slice A k c,.int .i64 N,.slice TC n d]] w (SmallPost 512 P M k f N n ln V w):=by
 have HI:=hid hr
 have HT:=hid h
 clear hr h
 have rf:=zai (w:=w) (a:=.int .i64 P) (b:=.int .i64 M) (c:=.slice A k c) (d:=.int .i64 N) (e:=.slice TC n d) (T := 27)
 have hB:Below w.heap.size w (w.alloc (.cells #[.int .i64 P,.int .i64 M,.slice A k c,.int .i64 N,.slice TC n d] 27)):=(Below.refl _ _).alloc (Nat.le_refl _) _
 obtain ⟨w1,hw1⟩:∃ W,W=w.alloc (.cells #[.int .i64 P,.int .i64 M,.slice A k c,.int .i64 N,.slice TC n d] 27):=⟨_,rfl⟩
 rw [<-hw1] at hB rf
 go_enter Tryz.func48, Tryz.ntmps48
 go_upto_region 1 with fail
 rw [<-hw1];clear hw1
 obtain ⟨b0,hb0⟩:∃ b,b=w.heap.size:=⟨_,rfl⟩
 rw [<-hb0] at rf;rw [<-hb0];clear hb0
 have HBOX:Hid (∀ X,Below w1.heap.size w1 X->(X.cell? ⟨b0,0,none⟩=some (.int .i64 P)/\X.cell? ⟨b0,1,none⟩=some (.int .i64 M)/\X.cell? ⟨b0,2,none⟩=some (.slice A k c)/\X.cell? ⟨b0,3,none⟩=some (.int .i64 N)/\X.cell? ⟨b0,4,none⟩=some (.slice TC n d))):=hid fun X hx =>
  ⟨(zab rf hx).cell (i:=0) (by omega),(zab rf hx).cell (i:=1) (by omega),(zab rf hx).cell (i:=2) (by omega),(zab rf hx).cell (i:=3) (by omega),(zab rf hx).cell (i:=4) (by omega)⟩
 have HB:=hid hB
 clear hB rf
 obtain ⟨q0,q1,q2,q3,q4⟩:=HBOX.out _ (Below.refl _ _)
 go_wp2_with fail
 refine (zbz P M A k c f N TC n d ln V w1 (HI.out.on HB.out) (HT.out.on HB.out)).mono ?_
 rintro e w2 ⟨u,rfl,hu,kb⟩
 have HU:=hid hu
 have KB:=hid kb
 clear kb hu q0 q1 q2 q3 q4
 obtain ⟨q0,q1,q2,q3,q4⟩:=HBOX.out _ KB.out
 by_cases hu0:u=0
 rotate_left
 ·have hub:(u != 0)=true:=by simpa using hu0
  have HU0:Hid (¬ FirstErr (CodeErrs P M k f N n ln V) 0):=hid fun h0=>hu0 (FirstErr.unique HU.out h0)
  clear hu0
  go_wp2
  go_ret
  exact ⟨onS HB.out KB.out,true,rfl,fun _=>.inl HU0.out⟩
 subst hu0
 have hub:((0:Int) != 0)=false:=by simp
 go_wp2_with fail
 refine (zfj 512 P M A k c f N TC n d ln V w2 (HI.out.on (onS HB.out KB.out)) (HT.out.on (onS HB.out KB.out)) (by omega)).mono ?_
 rintro e w3 ⟨v,rfl,hv,kb⟩
 replace KB:=hid (onS KB.out kb);clear kb q0 q1 q2 q3 q4
 by_cases hv0:v > 0
 ·have HC:Hid ((P.toNat ^ M.toNat) ^ n<=512):=hid (by
   rcases hv with ⟨h1,_⟩ | ⟨_,h2,_⟩
   ·omega
   ·exact h2)
  have hvd:decide (v > 0)=true:=by simp; omega
  clear hv
  go_wp2
  go_ret
  exact ⟨onS HB.out KB.out,true,rfl,fun _=>.inr (.inl HC.out)⟩
 have hvd:decide (v > 0)=false:=by simp; omega
 clear hv
 obtain ⟨q0,q1,q2,q3,q4⟩:=HBOX.out _ KB.out
 go_wp2_with fail
 refine (zgQ P M A k c f N TC n d ln V w3 (HI.out.on (onS HB.out KB.out)) (HT.out.on (onS HB.out KB.out))).mono ?_
 rintro e w4 ⟨kb,u,hu,he⟩
 obtain rfl:u=0:=FirstErr.unique hu HU.out
 replace KB:=hid (onS KB.out kb);clear kb hu q0 q1 q2 q3 q4
 rcases he with ⟨h0,_⟩ | ⟨_,P',M',N',hP,hM,hN,pr,se,h1,h2,⟨h3,rfl⟩ | ⟨h3,rfl⟩⟩
 ·exact absurd rfl h0
 ·have he8:((0:Int) == 8)=false:=by simp
  clear h1 h2 h3 hP hM hN
  go_wp2
  go_ret
  exact ⟨onS HB.out KB.out,false,rfl,fun h=>by cases h⟩
 ·have he8:((8:Int) == 8)=true:=by simp
  have HBG:Hid (BigC P M k f N n V):=hid ⟨P',M',N',hP,hM,hN,pr,se,h1,h2,h3⟩
  clear h1 h2 h3 hP hM hN
  go_wp2
  go_ret
  exact ⟨onS HB.out KB.out,true,rfl,fun _=>.inr (.inr HBG.out)⟩
def grp (g:Nat->Nat) (e u:Nat):List Nat:=(List.range u).flatMap fun a=>(List.range e).filter fun j=>g j=a
theorem ybA {g:Nat->Nat} {e u j:Nat}:j ∈ grp g e u↔j<e/\g j<u:=by
 unfold grp
 simp only [List.mem_flatMap,List.mem_range,List.mem_filter,decide_eq_true_eq]
 constructor
 ·rintro ⟨a,h1,h2,h3⟩; exact ⟨h2,by omega⟩
 ·rintro ⟨h1,h2⟩; exact ⟨g j,h2,h1,rfl⟩
theorem yag {g:Nat->Nat} {e u:Nat} {R:Nat->Nat->Prop} (h1:∀ a b,a<e->b<e->g a<g b->R a b) (h2:∀ a b,a<b->b<e->g a=g b->R a b):(grp g e u).Pairwise R:=by
 unfold grp
 rw [List.pairwise_flatMap]
 refine ⟨fun a _=>?_,?_⟩
 ·refine List.Pairwise.filter _ ?_ |>.imp_of_mem ?_ (R:=fun x y=>x<y)
  ·exact List.pairwise_lt_range
  ·intro x y hx hy hxy
   simp only [List.mem_filter,List.mem_range,decide_eq_true_eq] at hx hy
   exact h2 x y hxy hy.1 (by omega)
 ·refine List.pairwise_lt_range.imp ?_
  intro a b hab x hx y hy
  simp only [List.mem_filter,List.mem_range,decide_eq_true_eq] at hx hy
  exact h1 x y hx.1 hy.1 (by omega)
theorem ybt {g:Nat->Nat} {e u:Nat} (h:∀ j,j<e->g j<u):(grp g e u).Perm (List.range e):=by
 refine (List.perm_ext_iff_of_nodup ?_ List.nodup_range).2 fun j=>?_
 ·exact yag (fun a b _ _ h e=>by subst e; omega) (fun a b h _ _ e=>by omega)
 ·rw [ybA,List.mem_range]
  exact ⟨fun h=>h.1,fun hj=>⟨hj,h j hj⟩⟩
def firsts (l:List Nat):List Nat:=l.foldl (fun a v=>if v ∈ a then a else a ++ [v]) []
theorem yao (l:List Nat) (v:Nat):firsts (l ++ [v])=if v ∈ firsts l then firsts l else firsts l ++ [v]:=by
 unfold firsts
 rw [List.foldl_append]
 rfl
theorem yap {l:List Nat} {v:Nat}:v ∈ firsts l↔v ∈ l:=by
 have key : ∀ m : List Nat, v ∈ firsts m.reverse ↔ v ∈ m.reverse := by
  intro m
  induction m with
  | nil=>exact Iff.rfl
  | cons a m ih =>
   rw [List.reverse_cons,yao,List.mem_append,<-ih]
   by_cases h:a ∈ firsts m.reverse
   ·rw [if_pos h]
    constructor
    ·exact .inl
    ·rintro (h1 | h1)
     ·exact h1
     ·obtain rfl:v=a:=by simpa using h1
      exact h
   ·rw [if_neg h,List.mem_append]
 have:=key l.reverse
 rwa [List.reverse_reverse] at this
theorem yai {R:Nat->Nat->Prop} {f:Nat->Nat} {V:List Nat} (h:∀ A B j,V=A ++ j :: B->(∀ a,a ∈ A->f a≠f j)->∀ a,a ∈ A->R (f a) (f j)):(firsts (V.map f)).Pairwise R:=by
 have key:∀ (m B:List Nat),V=m.reverse ++ B->(firsts (m.reverse.map f)).Pairwise R:=by
  intro m
  induction m with
  | nil=>intro B _; exact List.Pairwise.nil
  | cons a m ih =>
   intro B hB
   rw [List.reverse_cons,List.append_assoc] at hB
   have h1:=ih _ hB
   rw [List.reverse_cons,List.map_append,List.map_singleton,yao]
   by_cases hm:f a ∈ firsts (m.reverse.map f)
   ·rw [if_pos hm]; exact h1
   ·rw [if_neg hm,List.pairwise_append]
    refine ⟨h1,List.pairwise_singleton _ _,?_⟩
    intro x hx y hy
    obtain rfl:y=f a:=by simpa using hy
    rw [yap,List.mem_map] at hx hm
    obtain ⟨q,hq,rfl⟩:=hx
    exact h m.reverse B a hB (fun b hb e=>hm ⟨b,hb,e⟩) q hq
 have:=key V.reverse [] (by simp)
 rwa [List.reverse_reverse] at this
def Trel.vis (T:Trel) (i:Nat):List Nat:=grp (fun j=>T.nm i (T.fr i j).toNat) (T.el i) (T.W i).toNat
section
variable {T:Trel} (h:T.Proper)
include h
theorem Trel.Proper.vis_perm {i:Nat} (hi:i<T.n):(T.vis i).Perm (List.range (T.el i)):=ybt fun _ hj=>h.nm_lt (by omega) (h.frL hi hj).1
theorem Trel.Proper.code_mono {i:Nat} (hi:i<T.n) {a b:Nat} (ha:a<T.el i) (hb:b<T.el i) (e:T.nm i (T.fr i a).toNat<T.nm i (T.fr i b).toNat∨T.nm i (T.fr i a).toNat=T.nm i (T.fr i b).toNat/\a<b):T.code (T.nm i) i a<T.code (T.nm i) i b:=by
 have h1:=h.lbL hi ha
 have h2:=h.lbL hi hb
 unfold Trel.code
 rcases e with e | ⟨e,h3⟩
 ·omega
 ·have e2:=h.nm_inj (by omega) _ _ (h.frL hi ha).1 (h.frL hi hb).1 e
  have h5:=h.frL hi ha
  have h6:=h.frL hi hb
  have:=Trel.ord (h.sec i hi) b a h3 hb
  omega
theorem Trel.Proper.vis_code {i:Nat} (hi:i<T.n):(T.vis i).Pairwise fun a b=>T.code (T.nm i) i a<T.code (T.nm i) i b :=
 yag (fun _ _ ha hb e=>h.code_mono hi ha hb (.inl e)) (fun _ _ hab hb e=>h.code_mono hi (by omega) hb (.inr ⟨e,hab⟩))
theorem Trel.Proper.next_perm {i:Nat} (hi:i<T.n):(firsts ((T.vis i).map fun j=>(T.to i j).toNat)).Perm (List.range (T.W (i+1)).toNat) /\
  ∀ v,v<(T.W (i+1)).toNat->(firsts ((T.vis i).map fun j=>(T.to i j).toNat)).idxOf v=T.nm (i+1) v:=by
 have hpw:(firsts ((T.vis i).map fun j=>(T.to i j).toNat)).Pairwise fun a b=>T.kt (T.nm i) i (T.el i) a<T.kt (T.nm i) i (T.el i) b:=by
  refine yai (f:=fun j=>(T.to i j).toNat) ?_
  intro A B j hV hne a ha
  have hpw:=h.vis_code hi
  have hm:∀ x,x ∈ T.vis i->x<T.el i:=fun x hx=>by simpa using (h.vis_perm hi).mem_iff.1 hx
  rw [hV] at hpw hm
  have haj:=hm a (by simp [ha])
  have hjj:=hm j (by simp)
  have h1:T.kt (T.nm i) i (T.el i) (T.to i a).toNat<=T.code (T.nm i) i a:=Trel.kt_le haj
  have h2:T.code (T.nm i) i a<T.code (T.nm i) i j:=(List.pairwise_append.1 hpw).2.2 a ha j (by simp)
  obtain ⟨q,hq,e1,e2⟩:=h.kt_hit hi (h.toL hi hjj).1
  have hqV:q ∈ A ++ j :: B:=hV ▸ (h.vis_perm hi).mem_iff.2 (List.mem_range.2 hq)
  show T.kt (T.nm i) i (T.el i) (T.to i a).toNat<T.kt (T.nm i) i (T.el i) (T.to i j).toNat
  rw [e2]
  rcases List.mem_append.1 hqV with hqA | hqB
  ·exact absurd e1 (hne q hqA)
  ·rcases List.mem_cons.1 hqB with rfl | hqB
   ·omega
   ·have h3:=(List.pairwise_cons.1 (List.pairwise_append.1 hpw).2.1).1 q hqB
    omega
 have hp:(firsts ((T.vis i).map fun j=>(T.to i j).toNat)).Perm (List.range (T.W (i+1)).toNat):=by
  refine (List.perm_ext_iff_of_nodup (hpw.imp fun {a b} hab e=>by subst e; omega) List.nodup_range).2 fun v=>?_
  rw [yap,List.mem_map,List.mem_range]
  constructor
  ·rintro ⟨j,hj,rfl⟩
   exact (h.toL hi (by simpa using (h.vis_perm hi).mem_iff.1 hj)).1
  ·intro hv
   obtain ⟨j,hj,e⟩:=zcM.1 ((h.sec i hi).2.2 v hv)
   exact ⟨j,(h.vis_perm hi).mem_iff.2 (List.mem_range.2 hj),by omega⟩
 refine ⟨hp,fun v hv=>?_⟩
 have hm:=hp.mem_iff.2 (List.mem_range.2 hv)
 obtain ⟨N,hN⟩:∃ N,N=firsts ((T.vis i).map fun j=>(T.to i j).toNat):=⟨_,rfl⟩
 rw [<-hN] at hm hp hpw ⊢
 have hlt:=List.idxOf_lt_length_iff.2 hm
 have hg:N.getD (N.idxOf v) 0=v:=by
  rw [List.getD_eq_getElem?_getD,List.getElem?_eq_getElem hlt,List.getElem_idxOf]
  rfl
 have h1:=zer (k:=T.kt (T.nm i) i (T.el i)) hp (fun p q hpq hq=>by
  rw [List.getD_eq_getElem?_getD,List.getD_eq_getElem?_getD,List.getElem?_eq_getElem (by omega),List.getElem?_eq_getElem hq]
  exact List.pairwise_iff_getElem.1 hpw p q _ _ hpq) hlt
 rw [hg] at h1
 exact h1.symm
end
end Go.Proofs.YtgekjfpapmlndaaGreat