/- Merged texts of a claim: Base, Tk, IntsAll, FldP, Own, Copy, NatLow, NatLo2, FldQ, Gf1, Gf2, TabRow, TabAll, Gf3, Gf4, ElAll, Gf5, GfObj, GfMul, Elim, Same09, Chk12, Null, CodeE, Dual12, Dot04, NatA, NatB, AppCells, WtsAll, Word12, WordsAll, NatC, RatA, RatB, Rat13, RatC, PolyA, PAddAll, PMulAll, RefEval, PolyC, PatAll, UndAll, Syn12, Tab55, RefRight, Nats, GfDot, GfChk, GfNew, DTab, MAdd, MCl, MEach, MElim, MCan, MChk, MOpen, MCano, MKer, Spc, SpOpen, PCode, PDual, ExpN, Right, RecFirst, RecRed, RecFrom, Recover, RefRec, AppMany, RestPl, Rank47, NumTab, SeesW, Trel, Shape, Less, Counting, NumRows, Valued, Forward, Repeat, Proper, TrelProper, Paths, WordsMath, Edge, FewT, From, Accepts47, RenMath, MinPl, PowPl, MinPlus, IntTab, PathPl, ZeroV, ZeroR, BoundV, MaxV, Proves, SynMem, Turn09, RefForward, RefPaths, Cmp11, SameN, RefIs, Check47, RefCP, Syn, Cont47, TChk, CheckP, IRepeat, VPot, Spans, Fits, SortLay, SortLess, SortOwn, Order, VisMem, RenameMem, RenumMem, Section, Rename, Renum, SeesCode, Minimal, Total, Secs47, Size47, Small47, Info, Info2, Info3, Prof, Prof2, Same11, SameC, ProfileLaw, Small49, RePath, IRows, Bwd, IValued. -/
import Derived.Test.YtgekjfpapmlndaaGreatTM14
import Derived.Test.YtgekjfpapmlndaaGreatRows
import Derived.WalkKit
import Derived.WalkSpells
import Derived.WalkLawsBesides
import Derived.Deep.OwnRows
import Derived.ProofKit
import Derived.Deep.RegionHeld3
import Derived.Deep.Slices
import Derived.Lib.SmallJoins
import Derived.Deep.LoopGhost
import Derived.Deep.QuietTactic
import Derived.BigQuiet
import Derived.Deep.Cut
import Derived.Deep.CutBlock
import Derived.Deep.DeepCutAuto
import Derived.IntWalk
import Derived.StillTailTactics
import Derived.SizedLaws
import Derived.Deep.AppendSrc
import Derived.Maps.AppendAt
import Derived.Laws.Bits64b
import Derived.Shelf.Small.Bits
import Derived.Laws.CopyOwn
import Derived.Laws.StructEq
import Derived.Shelf.SlSortCmp.WholeK
import Derived.Shelf.SlSortCmp.Whole1
import Derived.Shelf.SlSortCmp.NoneTotal
import Derived.Shelf.SlicesG.Cmp
import Derived.Ground.SlgcProg
namespace Go.Proofs.YtgekjfpapmlndaaGreat
set_option maxRecDepth 100000
set_option maxHeartbeats 32000000
open Go.RowKit
open Go.ChangeShapes Go.WideShapes Go.ChangeAt
open Go.Shelf
theorem ybe {w wr:World} {o1 o2:Obj} (h:Below (w.heap.size+2) ((w.alloc o1).alloc o2) wr):Below (w.heap.size+1) (w.alloc o1) wr:=((Below.refl _ _).alloc (by simp) _).trans (h.mono (by omega))
namespace Fie
variable {K:Type} [Add K] [Mul K] [Neg K] [Zero K] [One K] (F:Fie K)
include F
end Fie
def WordErrs (q N l:Nat) (u:Nat->Int):List (Prop × Int):=[(l=N,4),(AllIn q l u,2)]
theorem yar (P M:Nat) (A:Option Addr) (k c:Nat) (U:Option Addr) (l d N:Nat) (u:Nat->Int) (w:World) (hf:FldOk P M) (h:IntsR w w.heap.size U l u) (hn:l<=9223372036854775807) :
  Calls Tryz.prog 63 #[.agg #[.int .i64 (P:Nat),.int .i64 (M:Nat),.slice A k c],.slice U l d,.int .i64 (N:Nat)] w (ErrsPost (WordErrs (P ^ M) N l u) w):=by
 have HU:=hid h
 clear h
 have hB:Below w.heap.size w (w.alloc (.cells #[.int .i64 (P:Nat),.int .i64 (M:Nat),.slice A k c] 24)):=(Below.refl _ _).alloc (Nat.le_refl _) _
 have rf:=zaf (w:=w) (a:=.int .i64 (P:Nat)) (b:=.int .i64 (M:Nat)) (c:=.slice A k c) (T := 24)
 obtain ⟨w0,hw0⟩:∃ W,W=w.alloc (.cells #[.int .i64 (P:Nat),.int .i64 (M:Nat),.slice A k c] 24):=⟨_,rfl⟩
 rw [<-hw0] at hB rf
 go_enter Tryz.func63, Tryz.ntmps63
 go_upto_region 1 with fail
 rw [<-hw0];clear hw0
 have q0:w0.cell? ⟨w.heap.size,0,none⟩=some (.int .i64 (P:Nat)):=rf.cell (i:=0) (by omega)
 have q1:w0.cell? ⟨w.heap.size,1,none⟩=some (.int .i64 (M:Nat)):=rf.cell (i:=1) (by omega)
 have q2:w0.cell? ⟨w.heap.size,2,none⟩=some (.slice A k c):=rf.cell (i:=2) (by omega)
 clear rf
 by_cases hl:l=N
 ·have HL:=hid hl
  have hl':((l:Int) != (N:Int))=false:=by simp [hl]
  clear hl
  go_wp2_with fail
  refine (zdR P M A k c U l d u w0 hf (HU.out.on hB) hn).mono ?_
  rintro e w1 ⟨v,rfl,hv,kb⟩
  have HV:=hid hv
  replace hB:=onS hB kb;clear hv kb q0 q1 q2
  go_wp2
  go_ret
  refine errsPost (.inr ⟨HL.out,?_⟩) hB
  rcases HV.out with ⟨h1,h2⟩ | ⟨h1,h2⟩
  ·exact .inr ⟨h2,h1⟩
  ·exact .inl ⟨h2,h1⟩
 ·have HL:=hid hl
  have hl':((l:Int) != (N:Int))=true:=by simp; omega
  clear hl
  go_wp2
  go_ret
  exact errsPost (.inl ⟨HL.out,rfl⟩) hB
theorem yaQ (P M:Nat) (m:Nat->Nat) (A:Option Addr) (k c N:Nat) (T:Option Addr) (n d:Nat) (V:Nat->Nat->Nat) (U:Option Addr) (l uc:Nat) (u:Nat->Int) (w:World) (h:CodeR w P M m A k N T n V) (hu:IntsR w w.heap.size U l u) (hn:l<=9223372036854775807) :
  Calls Tryz.prog 37 #[.agg #[.int .i64 (P:Nat),.int .i64 (M:Nat),.slice A k c,.int .i64 (N:Nat),.slice T n d],.slice U l uc] w (ErrsPost (WordErrs (P ^ M) N l u) w):=by
 have HC:=hid h
 have HU:=hid hu
 have hN:=h.ln2
 have hfo:=h.fld.1
 clear h hu
 have rf:=zai (w:=w) (a:=.int .i64 (P:Nat)) (b:=.int .i64 (M:Nat)) (c:=.slice A k c) (d:=.int .i64 (N:Nat)) (e:=.slice T n d) (T := 27)
 have hB:Below w.heap.size w (w.alloc (.cells #[.int .i64 (P:Nat),.int .i64 (M:Nat),.slice A k c,.int .i64 (N:Nat),.slice T n d] 27)):=(Below.refl _ _).alloc (Nat.le_refl _) _
 obtain ⟨w1,hw1⟩:∃ W,W=w.alloc (.cells #[.int .i64 (P:Nat),.int .i64 (M:Nat),.slice A k c,.int .i64 (N:Nat),.slice T n d] 27):=⟨_,rfl⟩
 rw [<-hw1] at hB rf
 go_enter Tryz.func37, Tryz.ntmps37
 go_upto_region 1 with fail
 rw [<-hw1];clear hw1
 have q0:w1.cell? ⟨w.heap.size,0,none⟩=some (.int .i64 (P:Nat)):=rf.cell (i:=0) (by omega)
 have q1:w1.cell? ⟨w.heap.size,1,none⟩=some (.int .i64 (M:Nat)):=rf.cell (i:=1) (by omega)
 have q2:w1.cell? ⟨w.heap.size,2,none⟩=some (.slice A k c):=rf.cell (i:=2) (by omega)
 have q3:w1.cell? ⟨w.heap.size,3,none⟩=some (.int .i64 (N:Nat)):=rf.cell (i:=3) (by omega)
 have q4:w1.cell? ⟨w.heap.size,4,none⟩=some (.slice T n d):=rf.cell (i:=4) (by omega)
 go_wp2_with fail
 have h1:=HC.out.on hB
 refine (zbz (P:Int) (M:Int) A k c _ (N:Int) T n d _ _ w1 h1.ints h1.rows).mono ?_
 rintro e w2 ⟨v,rfl,hv,kb⟩
 obtain rfl:v=0:=FirstErr.unique hv HC.out.errs
 replace hB:=onS hB kb;replace q0:=cellS kb q0;replace q1:=cellS kb q1;replace q2:=cellS kb q2;replace q3:=cellS kb q3;clear kb q4 rf hv h1
 go_wp2_with fail
 refine (yar P M A k c U l uc N u w2 hfo (HU.out.on hB) hn).mono ?_
 rintro e w3 ⟨v,rfl,hv,kb⟩
 have HV:=hid hv
 replace hB:=onS hB kb;clear hv kb q0 q1 q2 q3
 go_wp2
 go_ret
 exact errsPost HV.out hB
theorem ybf {P M:Nat} {m:Nat->Nat} {V:Nat->Nat->Nat} {x:Nat->Nat} (hL:FieldLaws (P ^ M) (addF P M) (mulF P M m)) {i j:Nat} (hx:x i<P ^ M) (y:Nat) (hy:y=spE (addF P M) (mulF P M m) V x i j):atF P M m (x i) (fun _=>y) (V i) j=spE (addF P M) (mulF P M m) V x (i+1) j:=by
 have hyl:y<P ^ M:=by rw [hy]; exact zbb hL x i j
 unfold atF
 show _=addF P M (spE (addF P M) (mulF P M m) V x i j) (mulF P M m (x i) (V i j))
 rw [<-hy]
 split
 ·rename_i h
  rw [h,hL.mulZero hx,hL.addZero hyl]
 ·rfl
theorem ybg {P M:Nat} {m:Nat->Nat} {V:Nat->Nat->Nat} {x:Nat->Nat} (hL:FieldLaws (P ^ M) (addF P M) (mulF P M m)) {i j:Nat} (hx:x i=0) (hV:V i j<P ^ M):spE (addF P M) (mulF P M m) V x (i+1) j=spE (addF P M) (mulF P M m) V x i j:=by
 have h2:=hL.two
 show addF P M (spE (addF P M) (mulF P M m) V x i j) (mulF P M m (x i) (V i j))=_
 rw [hx,hL.mulComm 0 _ (by omega) hV,hL.mulZero hV,hL.addZero (zbb hL x i j)]
theorem yam (P M:Nat) (A:Option Addr) (k c:Nat) (m:Nat->Nat) (X:Option Addr) (xc:Nat) (x:Nat->Nat) (T:Option Addr) (n d N:Nat) (V:Nat->Nat->Nat) (w:World) (hf:FieldOk P M m) (hm:ModOk w P M A m) (hkM:M=1∨k=M)
  (hx:IntsR w w.heap.size X n (fun i=>(x i:Nat))) (hxq:∀ i,i<n->x i<P ^ M) (h:MRows w T n N V) (hV:∀ i,i<n->∀ j,j<N->V i j<P ^ M) (hN2:N<=1048576) (hn:n<=1048576) :
  Calls Tryz.prog 64 #[.agg #[.int .i64 (P:Nat),.int .i64 (M:Nat),.slice A k c],.slice X n xc,.slice T n d,.int .i64 (N:Nat)] w (RowPost N (fun j=>.int .i64 (spE (addF P M) (mulF P M m) V x n j:Nat)) w):=by
 have hfo:=hf.1
 have hL:=fieldLaws hf
 have HX:=hid hx
 have HXQ:=hid hxq
 have HT:=hid h
 have HV:=hid hV
 clear hx hxq h hV
 have hB:Below w.heap.size w (w.alloc (.cells #[.int .i64 (P:Nat),.int .i64 (M:Nat),.slice A k c] 24)):=(Below.refl _ _).alloc (Nat.le_refl _) _
 have rf:=zaf (w:=w) (a:=.int .i64 (P:Nat)) (b:=.int .i64 (M:Nat)) (c:=.slice A k c) (T := 24)
 obtain ⟨w0,hw0⟩:∃ W,W=w.alloc (.cells #[.int .i64 (P:Nat),.int .i64 (M:Nat),.slice A k c] 24):=⟨_,rfl⟩
 rw [<-hw0] at hB rf
 have hmk:=fun W=>zah (P:=Tryz.prog) 22 3 _ 8 Tryz.underlying22 Tryz.infoInt rfl (N:Int) (by omega) (by omega) (by omega) W
 simp only [Int.toNat_natCast] at hmk
 go_enter Tryz.func64, Tryz.ntmps64
 go_upto_region 1 with fail
 rw [<-hw0];clear hw0
 go_upto_region 2 with fail
 have kb:=(Below.refl w0.heap.size w0).alloc (Nat.le_refl _) (Obj.cells (madeCells #[Value.int .i64 0] N) 3)
 have ra:=World.rowIs_made w0 (.int .i64 0) N 3
 have hfl:=rf.lt
 have hgz:=hB.size
 obtain ⟨w1,hw1⟩:∃ W,W=w0.alloc (Obj.cells (madeCells #[Value.int .i64 0] N) 3):=⟨_,rfl⟩
 obtain ⟨g,hg⟩:∃ b,b=w0.heap.size:=⟨_,rfl⟩
 rw [<-hw1] at kb ra ⊢;rw [<-hg] at ra hfl hgz ⊢;replace rf:=zab rf kb;replace hB:=onS hB kb
 have HRA:Hid (w1.rowIs g 3 N (fun j=>.int .i64 (spE (addF P M) (mulF P M m) V x 0 j:Nat))):=ra.congr fun t _=>rfl
 clear kb hw1 hg hmk hfl ra
 go_wp2
 go_loopg [9,10] n (fun gg ov iv wx=>∃ i g2:Nat,ov=.slice (some ⟨g2,0,none⟩) N N/\iv=.int .i64 (i:Nat)/\w.heap.size<=g2/\i<=n/\n<=i+gg/\Hid (wx.rowIs g2 3 N (fun j=>.int .i64 (spE (addF P M) (mulF P M m) V x i j:Nat)))/\wx.rowIs w.heap.size 24 3 (fldCell (.int .i64 (P:Nat)) (.int .i64 (M:Nat)) (.slice A k c))/\Below w.heap.size w wx)
 case atStart=>exact ⟨0,g,rfl,rfl,hgz,by omega,by omega,HRA,rf,hB⟩
 case round =>
  clear rf hB HRA
  obtain ⟨i,g2,rfl,rfl,hg2,hi,hig,HRA,rf,hB⟩:=hrel
  have hi0:(0:Int)<=(i:Int):=by omega
  by_cases hlt:i<n
  ·have hlt':(i:Int)<(n:Int):=by omega
   have hd:decide ((i:Int)<(n:Int))=true:=by simpa using hlt
   obtain ⟨xb,xo,hXe,hxb,x0⟩:=HX.out.at hlt
   subst hXe
   replace x0:=(hB.cell (p:=⟨xb,xo+i,none⟩) hxb).trans x0
   obtain ⟨a,ha⟩:∃ a,a=x i:=⟨_,rfl⟩
   rw [<-ha] at x0
   have haq:a<P ^ M:=by rw [ha]; exact HXQ.out i hlt
   have HA:=hid ha
   clear ha
   by_cases ha0:a=0
   ·have ha0':((a:Int) != 0)=false:=by simp [ha0]
    have HRN:=hid (HRA.out.congr (g:=fun j=>.int .i64 (spE (addF P M) (mulF P M m) V x (i+1) j:Nat)) fun j hj=>by rw [ybg hL (by rw [<-HA.out,ha0]) (HV.out i hlt j hj)])
    clear ha0
    go_wp2
    go_roundg (gk - 1)
    case measure=>omega
    case rel=>exact ⟨i+1,g2,rfl,by go_num,hg2,by omega,by omega,HRN,rf,hB⟩
   ·have ha0':((a:Int) != 0)=true:=by simp; omega
    obtain ⟨tb,to0,RA,rc,hTe,htb,t0,_,_,hrow,_⟩:=HT.out i hlt
    subst hTe
    replace t0:=(hB.cell (p:=⟨tb,to0+i,none⟩) htb).trans t0
    have hrow1:=hrow.on hB
    have hra:=rowInts (w:=wr) (n:=N) (f:=fun j=>spE (addF P M) (mulF P M m) V x i j) HRA.out
    clear hrow ha0
    have q0:wr.cell? ⟨w.heap.size,0,none⟩=some (.int .i64 (P:Nat)):=rf.cell (i:=0) (by omega)
    have q1:wr.cell? ⟨w.heap.size,1,none⟩=some (.int .i64 (M:Nat)):=rf.cell (i:=1) (by omega)
    have q2:wr.cell? ⟨w.heap.size,2,none⟩=some (.slice A k c):=rf.cell (i:=2) (by omega)
    obtain ⟨w1,hw1⟩:∃ X,X=wr:=⟨_,rfl⟩
    rw [<-hw1] at hB rf x0 t0 q0 q1 q2 hrow1 hra ⊢;clear hw1 HRA
    go_wp2
    refine wp_region_held_drew (S:=fun w'=>w'.cell? ⟨w.heap.size,0,none⟩=some (.int .i64 (P:Nat))/\w'.cell? ⟨w.heap.size,1,none⟩=some (.int .i64 (M:Nat))/\w'.cell? ⟨w.heap.size,2,none⟩=some (.slice A k c)/\w'.cell? ⟨xb,xo+i,none⟩=some (.int .i64 (a:Nat))/\w'.cell? ⟨tb,to0+i,none⟩=some (.slice RA N rc)) (by kernel_rfl) ⟨cellS (Below.refl _ _).drew q0,cellS (Below.refl _ _).drew q1,cellS (Below.refl _ _).drew q2,cellS (Below.refl _ _).drew x0,cellS (Below.refl _ _).drew t0⟩ (fun hHeld=>?_)
    obtain ⟨w2,hw⟩:∃ W,W=World.drew w1:=⟨_,rfl⟩
    have kb:Below w1.heap.size w1 w2:=by rw [hw]; exact (Below.refl _ _).drew
    rw [<-hw] at hHeld ⊢;clear hw;replace rf:=zab rf kb;replace hB:=onS hB kb;replace x0:=cellS kb x0;replace t0:=cellS kb t0;replace q0:=cellS kb q0;replace q1:=cellS kb q1;replace q2:=cellS kb q2;replace hrow1:=hrow1.on kb;replace hra:=hra.on kb;clear kb
    refine tkq 0 (h:=tkq 1 (h:=tkq 2 (h:=tkq 3 (h:=tkq 4 (h:=tkq 5 (h:=tkq 6 (h:=tkq 7 (h:=tkq 8 (h:=tkq 9 (h:=?_))))))))))
    refine rdq 10 (h:=fun K hK=>?_)
    go_simp
    go_wp2_with fail
    have HGW:=hid hB.size
    refine (zdl P M A k c m a (some ⟨g2,0,none⟩) RA N N N rc (fun j=>spE (addF P M) (mulF P M m) V x i j) (V i) w2 hfo (zaz hm hB) hkM haq hra (fun j _=>zbb hL x i j) hrow1 (HV.out i hlt) (Nat.le_refl _) hN2).mono ?_
    rintro e w3 ⟨g3,rfl,hg3,hr3,kb⟩
    replace rf:=zab rf kb;replace hB:=onS hB kb;replace x0:=cellS kb x0;replace t0:=cellS kb t0;replace q0:=cellS kb q0;replace q1:=cellS kb q1;replace q2:=cellS kb q2;replace hrow1:=hrow1.on kb;replace hra:=hra.on kb;clear kb
    have HRN:=hid hr3
    have HG3:=hid hg3
    clear hr3 hg3
    refine bkq hK ⟨q0,q1,q2,x0,t0⟩ (h:=fun hHeld=>?_)
    clear hK K
    refine tkq 11 (h:=?_)
    refine wpAnyH_done (by kernel_rfl) ?_ _
    clear hHeld
    have HRM:=hid (HRN.out.congr (g:=fun j=>.int .i64 (spE (addF P M) (mulF P M m) V x (i+1) j:Nat)) fun j _=>by rw [HA.out]; exact congrArg (fun z:Nat=>Value.int .i64 (z:Int)) (ybf (V:=V) (j:=j) hL (HXQ.out i hlt) _ rfl))
    have hg9:w.heap.size<=g3:=Nat.le_trans HGW.out HG3.out
    clear q0 q1 q2 x0 t0 hrow1 hra HRN HG3
    go_wp2
    go_roundg (gk - 1)
    case measure=>omega
    case rel=>exact ⟨i+1,g3,rfl,by go_num,hg9,by omega,by omega,HRM,rf,hB⟩
  ·have hlt':¬ (i:Int)<(n:Int):=by omega
   have hd:decide ((i:Int)<(n:Int))=false:=by simp; omega
   obtain rfl:i=n:=by omega
   go_wp2
   go_ret
   exact ⟨g2,rfl,hg2,HRA.out,hB⟩
theorem ybh (x P M:Nat) (m:Nat->Nat) (A:Option Addr) (k c N:Nat) (T:Option Addr) (n d:Nat) (V:Nat->Nat->Nat) (w:World) (h:CodeR w P M m A k N T n V) (hx:x<=1048576) :
  Calls Tryz.prog 66 #[.agg #[.int .i64 (P:Nat),.int .i64 (M:Nat),.slice A k c,.int .i64 (N:Nat),.slice T n d],.int .i64 (x:Nat)] w (RowPost N (fun j=>.int .i64 (spE (addF P M) (mulF P M m) V (msgD (P ^ M) n x) n j:Nat)) w):=by
 have HC:=hid h
 have hn:=h.n_le
 have hN:=h.ln2
 have hN1:=h.ln1
 have hL:=fieldLaws h.fld
 have hfo:=h.fld.1
 have HORD:=hid (zbI hfo)
 have hq256:=hfo.2.2.2
 have hq2:=hL.two
 clear h
 have rf:=zai (w:=w) (a:=.int .i64 (P:Nat)) (b:=.int .i64 (M:Nat)) (c:=.slice A k c) (d:=.int .i64 (N:Nat)) (e:=.slice T n d) (T := 27)
 have hB:Below w.heap.size w (w.alloc (.cells #[.int .i64 (P:Nat),.int .i64 (M:Nat),.slice A k c,.int .i64 (N:Nat),.slice T n d] 27)):=(Below.refl _ _).alloc (Nat.le_refl _) _
 obtain ⟨w1,hw1⟩:∃ W,W=w.alloc (.cells #[.int .i64 (P:Nat),.int .i64 (M:Nat),.slice A k c,.int .i64 (N:Nat),.slice T n d] 27):=⟨_,rfl⟩
 rw [<-hw1] at hB rf
 have hmk:=fun W=>zah (P:=Tryz.prog) 22 3 _ 8 Tryz.underlying22 Tryz.infoInt rfl (n:Int) (by omega) (by omega) (by omega) W
 simp only [Int.toNat_natCast] at hmk
 go_enter Tryz.func66, Tryz.ntmps66
 go_upto_region 1 with fail
 rw [<-hw1];clear hw1
 have q0:w1.cell? ⟨w.heap.size,0,none⟩=some (.int .i64 (P:Nat)):=rf.cell (i:=0) (by omega)
 have q1:w1.cell? ⟨w.heap.size,1,none⟩=some (.int .i64 (M:Nat)):=rf.cell (i:=1) (by omega)
 have q2:w1.cell? ⟨w.heap.size,2,none⟩=some (.slice A k c):=rf.cell (i:=2) (by omega)
 go_wp2_with fail
 refine (zbv (P:Int) (M:Int) A k c w1).mono ?_
 rintro e w2 ⟨rfl,kb⟩
 rw [HORD.out];replace rf:=zab rf kb;replace hB:=onS hB kb;clear kb q0 q1 q2
 obtain ⟨q,hQ⟩:∃ Q,Q=P ^ M:=⟨_,rfl⟩
 rw [<-hQ]
 have HQ:=hid hQ
 rw [<-hQ] at hq2 hq256;clear hQ
 have q4:w2.cell? ⟨w.heap.size,4,none⟩=some (.slice T n d):=rf.cell (i:=4) (by omega)
 go_upto_region 3 with fail
 have row:=World.rowIs_made w2 (.int .i64 0) n 3
 have kb:=(Below.refl w2.heap.size w2).alloc (Nat.le_refl _) (Obj.cells (madeCells #[Value.int .i64 0] n) 3)
 obtain ⟨w3,hw3⟩:∃ W,W=w2.alloc (Obj.cells (madeCells #[Value.int .i64 0] n) 3):=⟨_,rfl⟩
 obtain ⟨g,hg⟩:∃ b,b=w2.heap.size:=⟨_,rfl⟩
 rw [<-hw3] at kb row ⊢;rw [<-hg] at row ⊢
 have hgB:w2.heap.size<=g:=by omega
 have HRF:=hid rf
 have HB2:=hid hB
 clear hw3 hg q4 hmk rf hB
 have hp1:(1:Int)<=(q:Int):=by omega
 have hp0:¬ (q:Int)=0:=by omega
 have hpm:(q:Int)<=256:=by omega
 go_wp2
 go_loopg [1,7] (n+1) (fun gg xv iv wx=>∃ j:Nat,iv=.int .i64 ((n:Int) - 1 - (j:Int))/\xv=.int .i64 (x / q ^ j:Nat)/\j<=n/\n+1<=j+gg/\wx.rowIs g 3 n (fun t=>.int .i64 (if n - 1 - t<j then (msgD q n x t:Nat) else 0:Int))/\Below w2.heap.size w2 wx)
 case atStart=>exact ⟨0,by simp,by simp,by omega,by omega,row.congr fun i _=>rfl,kb⟩
 case round =>
  clear row kb
  obtain ⟨j,rfl,rfl,hj,hjg,row,kb⟩:=hrel
  have hle:x / q ^ j<=x:=Nat.div_le_self _ _
  have hst:x / q ^ (j+1)=x / q ^ j / q:=by rw [Nat.pow_succ,Nat.div_div_eq_div_mul]
  have hdg:dig q x j=x / q ^ j % q:=rfl
  obtain ⟨y,hy⟩:∃ y,y=x / q ^ j:=⟨_,rfl⟩
  rw [<-hy] at hle hst hdg;rw [<-hy]
  have HST:=hid hst
  have HDG:=hid hdg
  clear hy hst hdg
  by_cases hlt:j<n
  ·obtain ⟨i,hi⟩:∃ i,i=n - 1 - j:=⟨_,rfl⟩
   have hie:(n:Int) - 1 - (j:Int)=(i:Int):=by omega
   have hin:i<n:=by omega
   have hin':(i:Int)<(n:Int):=by omega
   have hi0:(0:Int)<=(i:Int):=by omega
   rw [hie]
   have HI:=hid hi
   have HIE:=hid hie
   clear hi hie
   have hy0:(0:Int)<=(y:Int):=by omega
   have hy1:(y:Int)<=1048576:=by omega
   have hmod:(y:Int) % (q:Int)=((y % q:Nat):Int):=by simp
   have hdiv:(y:Int) / (q:Int)=((y / q:Nat):Int):=by simp
   obtain ⟨r,hr⟩:∃ r,r=y % q:=⟨_,rfl⟩
   obtain ⟨z,hz⟩:∃ r,r=y / q:=⟨_,rfl⟩
   rw [<-hr] at hmod;rw [<-hz] at hdiv
   have hz0:(0:Int)<=(z:Int):=by omega
   have hz1:(z:Int)<=1048576:=by have:y / q<=y:=Nat.div_le_self _ _; omega
   have HR:=hid hr
   have HZ:=hid hz
   clear hr hz
   have c0:=row.cell hin
   have z0:=row.frozen i
   have HROW2:Hid ((wr.setCell ⟨g,i,none⟩ (.int .i64 (r:Int))).rowIs g 3 n (fun t=>.int .i64 (if n - 1 - t<j+1 then (msgD q n x t:Nat) else 0:Int))):=(row.set i _).congr fun t ht=>by
    have:=HI.out
    by_cases e:t=i
    ·subst e
     rw [if_pos rfl,if_pos (by omega)]
     unfold msgD
     rw [show n - 1 - t=j by omega,HDG.out,HR.out]
    ·rw [if_neg e]
     by_cases e2:n - 1 - t<j
     ·rw [if_pos e2,if_pos (by omega)]
     ·rw [if_neg e2,if_neg (by omega)]
   have HKB:=hid (kb.setCell (p:=⟨g,i,none⟩) hgB (.int .i64 (r:Int)))
   clear row kb
   go_wp2
   go_roundg (gk - 1)
   case measure=>omega
   case rel=>exact ⟨j+1,by have:=HIE.out; show Value.int .i64 ((i:Int) - 1)=_; rw [<-this]; go_num,by rw [HST.out,HZ.out],by omega,by omega,HROW2.out,HKB.out⟩
  ·obtain rfl:j=n:=by omega
   have hneg:¬ ((j:Int) - 1 - (j:Int)) ≥ 0:=by omega
   have hrow:IntsR wr wr.heap.size (some ⟨g,0,none⟩) j (fun t=>((msgD q j x t:Nat):Int)):=rowInts (row.congr fun t ht=>by rw [if_pos (by omega)])
   have hB:=onS HB2.out kb
   have rf:=zab HRF.out kb
   have q0:wr.cell? ⟨w.heap.size,0,none⟩=some (.int .i64 (P:Nat)):=rf.cell (i:=0) (by omega)
   have q1:wr.cell? ⟨w.heap.size,1,none⟩=some (.int .i64 (M:Nat)):=rf.cell (i:=1) (by omega)
   have q2:wr.cell? ⟨w.heap.size,2,none⟩=some (.slice A k c):=rf.cell (i:=2) (by omega)
   have q3:wr.cell? ⟨w.heap.size,3,none⟩=some (.int .i64 (N:Nat)):=rf.cell (i:=3) (by omega)
   have q4:wr.cell? ⟨w.heap.size,4,none⟩=some (.slice T j d):=rf.cell (i:=4) (by omega)
   have HRW:=hid hrow
   have h1:=HC.out.on hB
   have HQL:Hid (∀ i,i<j->msgD q j x i<P ^ M):=fun i _=>by rw [<-HQ.out]; exact zdU (by omega)
   clear row kb hrow
   go_wp2_with fail
   refine (yam P M A k c m (some ⟨g,0,none⟩) j (msgD q j x) T j d N V wr h1.fld h1.mod h1.km HRW.out HQL.out h1.rows h1.lt (by omega) (by omega)).mono ?_
   rintro e w5 ⟨g5,rfl,hg5,hr5,kb⟩
   have hg9:w.heap.size<=g5:=Nat.le_trans hB.size hg5
   have hB9:=onS hB kb
   have HR5:=hid hr5
   clear hr5 kb hB rf q0 q1 q2 q3 q4 h1 hg5
   go_wp2
   go_ret
   exact ⟨g5,rfl,hg9,by rw [<-HQ.out]; exact HR5.out,hB9⟩
def Words12Post (q:Nat) (add mul:Nat->Nat->Nat) (n N:Nat) (V:Nat->Nat->Nat) (w:World) (e:Ending) (w':World):Prop :=
 ∃ lv,e=.returned (.tuple #[lv,.int .i64 0])/\MTab w' w.heap.size lv (q ^ n) N (fun i=>spE add mul V (msgD q n i) n)/\Below w.heap.size w w'
theorem yaK (P M:Nat) (m:Nat->Nat) (A:Option Addr) (k c N:Nat) (T:Option Addr) (n d:Nat) (V:Nat->Nat->Nat) (w:World) (h:CodeR w P M m A k N T n V) (hsz:(P ^ M) ^ n<=65536) :
  Calls Tryz.prog 22 #[.agg #[.int .i64 (P:Nat),.int .i64 (M:Nat),.slice A k c,.int .i64 (N:Nat),.slice T n d]] w (Words12Post (P ^ M) (addF P M) (mulF P M m) n N V w):=by
 have HC:=hid h
 have hN:=h.ln2
 clear h
 have rf:=zai (w:=w) (a:=.int .i64 (P:Nat)) (b:=.int .i64 (M:Nat)) (c:=.slice A k c) (d:=.int .i64 (N:Nat)) (e:=.slice T n d) (T := 27)
 have hB:Below w.heap.size w (w.alloc (.cells #[.int .i64 (P:Nat),.int .i64 (M:Nat),.slice A k c,.int .i64 (N:Nat),.slice T n d] 27)):=(Below.refl _ _).alloc (Nat.le_refl _) _
 obtain ⟨w1,hw1⟩:∃ W,W=w.alloc (.cells #[.int .i64 (P:Nat),.int .i64 (M:Nat),.slice A k c,.int .i64 (N:Nat),.slice T n d] 27):=⟨_,rfl⟩
 rw [<-hw1] at hB rf
 go_enter Tryz.func22, Tryz.ntmps22
 go_upto_region 1 with fail
 rw [<-hw1];clear hw1
 have q0:w1.cell? ⟨w.heap.size,0,none⟩=some (.int .i64 (P:Nat)):=rf.cell (i:=0) (by omega)
 have q1:w1.cell? ⟨w.heap.size,1,none⟩=some (.int .i64 (M:Nat)):=rf.cell (i:=1) (by omega)
 have q2:w1.cell? ⟨w.heap.size,2,none⟩=some (.slice A k c):=rf.cell (i:=2) (by omega)
 have q3:w1.cell? ⟨w.heap.size,3,none⟩=some (.int .i64 (N:Nat)):=rf.cell (i:=3) (by omega)
 have q4:w1.cell? ⟨w.heap.size,4,none⟩=some (.slice T n d):=rf.cell (i:=4) (by omega)
 go_wp2_with fail
 have h1:=HC.out.on hB
 refine (zf7 (P:Int) (M:Int) A k c _ (N:Int) T n d _ _ w1 h1.ints h1.rows).mono ?_
 rintro e w2 ⟨v,u,rfl,hu,hv1,hv2,kb⟩
 have hu0:u=0:=FirstErr.unique hu (FirstErr.app_all HC.out.errs (.inr ⟨by rw [Int.toNat_natCast,Int.toNat_natCast]; exact hsz,rfl⟩) (by simp [CodeErrs]))
 have hv:=hv1 hu0
 rw [Int.toNat_natCast,Int.toNat_natCast] at hv
 subst hu0
 obtain ⟨S,hS⟩:∃ S,S=(P ^ M) ^ n:=⟨_,rfl⟩
 rw [<-hS] at hv hsz
 subst hv
 have HSS:=hid hS
 replace rf:=zab rf kb;replace hB:=onS hB kb;clear kb q0 q1 q2 q3 q4 hu hv1 hv2 h1 hS
 have H0:=hid (MTab.nil w2 w.heap.size N (fun i=>spE (addF P M) (mulF P M m) V (msgD (P ^ M) n i) n))
 go_wp2
 obtain ⟨nv,hnv⟩:∃ x:Value,x=.slice none 0 0:=⟨_,rfl⟩
 rw [<-hnv] at H0 ⊢;clear hnv
 go_loopg [6,7] S (fun gg ov iv wx=>∃ i:Nat,iv=.int .i64 (i:Nat)/\i<=S/\S<=i+gg/\Hid (MTab wx w.heap.size ov i N (fun i=>spE (addF P M) (mulF P M m) V (msgD (P ^ M) n i) n))/\wx.rowIs w.heap.size 27 5 (codCell (.int .i64 (P:Nat)) (.int .i64 (M:Nat)) (.slice A k c) (.int .i64 (N:Nat)) (.slice T n d))/\Below w.heap.size w wx)
 case atStart=>exact ⟨0,rfl,by omega,by omega,H0,rf,hB⟩
 case round =>
  clear H0 rf hB
  obtain ⟨i,rfl,hi,hig,HM,rf,hB⟩:=hrel
  have hi0:(0:Int)<=(i:Int):=by omega
  by_cases hlt:i<S
  ·have hlt':(i:Int)<(S:Int):=by omega
   have q0:wr.cell? ⟨w.heap.size,0,none⟩=some (.int .i64 (P:Nat)):=rf.cell (i:=0) (by omega)
   have q1:wr.cell? ⟨w.heap.size,1,none⟩=some (.int .i64 (M:Nat)):=rf.cell (i:=1) (by omega)
   have q2:wr.cell? ⟨w.heap.size,2,none⟩=some (.slice A k c):=rf.cell (i:=2) (by omega)
   have q3:wr.cell? ⟨w.heap.size,3,none⟩=some (.int .i64 (N:Nat)):=rf.cell (i:=3) (by omega)
   have q4:wr.cell? ⟨w.heap.size,4,none⟩=some (.slice T n d):=rf.cell (i:=4) (by omega)
   have h1:=HC.out.on hB
   have hub:∀ q,u6.ownBlock=some q->w.heap.size<=q:=fun q e=>(HM.out.choose_spec.1.lt q e).1
   have HUB:=hid hub
   clear hub
   go_wp2_with fail
   refine (ybh i P M m A k c N T n d V wr h1 (by omega)).mono ?_
   rintro e w3 ⟨g,rfl,hg,hr,kb⟩
   have hr2:=zbe hr (show w.heap.size<=g by have:=hB.size; omega) (show N<=maxLen by unfold maxLen; omega)
   have kb2:=(Below.refl w3.heap.size w3).alloc (Nat.le_refl _) (Obj.cells #[Value.slice (some ⟨g,0,none⟩) N N] 22)
   have HX8:=hid (hr2.on kb2)
   have HO8:=hid ((HM.out.on kb).on kb2)
   have HB8:=hid (onS (onS hB kb) kb2)
   have HRF8:=hid (zab (zab rf kb) kb2)
   have HC8:Hid ((w3.alloc (Obj.cells #[Value.slice (some ⟨g,0,none⟩) N N] 22)).cell? ((⟨w3.heap.size,0,none⟩:Addr).add 0)=some (.slice (some ⟨g,0,none⟩) N N)):=tbox2
   have HZ8:=hid HB8.out.size
   have HIL:Hid (i<=1048576):=by show _<=_; omega
   clear hr hr2 kb kb2 hg q0 q1 q2 q3 q4 rf hB h1
   go_wp2_with (first | (at_builtin; (refine zbY rfl (.tmp 21) (.tmp 25) rfl HO8.out rfl (ad:=⟨w3.heap.size,0,none⟩) (c:=1) rfl HC8.out rfl HX8.out HZ8.out HIL.out ?_); intro v9 w9 o1 o2 o3))
   have HM9:=hid (o1.congr (W':=fun i=>spE (addF P M) (mulF P M m) V (msgD (P ^ M) n i) n) fun u hu j _=>by
    by_cases e:u=i
    ·subst e; rw [if_pos rfl]
    ·rw [if_neg e])
   have HB9:=hid (HB8.out.grown o2 HZ8.out o3)
   have HRF9:=hid (HRF8.out.of_block (o2.block _ HRF8.out.lt fun e=>absurd (za5 HRF8.out HO8.out.choose_spec.1 (by decide)) (by rw [<-e]; simp)))
   clear o1 o2 o3
   go_wp2
   go_roundg (gk - 1)
   case measure=>omega
   case rel=>exact ⟨i+1,by go_num,by omega,by omega,HM9,HRF9.out,HB9.out⟩
  ·have hlt':¬ (i:Int)<(S:Int):=by omega
   obtain rfl:i=S:=by omega
   go_wp2
   go_ret2
   exact ⟨_,rfl,by rw [<-HSS.out]; exact HM.out,hB⟩
open Go
section
variable {P:Program} (w:World)
theorem yae (t ty e:TypeId) (i:TypeInfo) (ht:P.underlying t=some (.slice e)) (hi:P.info? e=some i)
  (g o sLen sCap:Nat) (cur:Array Value) (hg:w.heap[g]?=some (.cells cur e (0,0)))
  (x:Value) (m:Nat) (news:List Value) (hs:Src P i.size t x m news w) (hroom:sLen+m<=sCap) (hfit:o+sLen*i.size+news.length<=cur.size) :
  (Builtin.append_ #[t,t] ty #[.slice (some ⟨g,o,none⟩) sLen sCap,x]).run P w =
   .ok (.slice (some ⟨g,o,none⟩) (sLen+m) sCap) (w.setRow g (cur.toList.take (o+sLen*i.size) ++ news ++ cur.toList.drop (o+sLen*i.size+news.length)).toArray):=by
 have hst:=run_storeCells_at P g (o+sLen*i.size) e news 0 cur w hg (by simpa using hfit) hs.one
 simp only [Nat.add_zero] at hst
 simp [Builtin.append_,run_underlying ht,sizeOf,typeInfo,hi,hs.len,hroom,hs.cells,Addr.add_lit,hst]
theorem ybv {t e:TypeId} (ht:P.underlying t=some (.slice e)) {A:Option Addr} {m c s:Nat} {f:Nat->Nat->Value} (hsrc:Rd w w.heap.size A m s f) (h1:∀ k,k<m->∀ j,j<s->(f k j).oneCell'=true) (hs:0<s):Src P s t (.slice A m c) m (flat s f m) w:=by
 cases A with
 | none =>
  have h0:m=0:=by
   rcases Nat.eq_zero_or_pos m with h0 | h0
   ·exact h0
   ·obtain ⟨b,off,e1,_⟩:=hsrc 0 h0
    cases e1
  subst h0
  rw [show flat s f 0=[] by simp [flat]]
  exact Src.ofNil w ht c
 | some a =>
  refine Src.ofSlice (P:=P) w (size:=s) (e':=e) ht a m c (flat s f m) (zao _ _ _) (fun j u hu=>?_) (fun u hu=>?_)
  ·have hj:j<m*s:=by have:=(List.getElem?_eq_some_iff.1 hu).1; rwa [zao] at this
   have e1:j / s<m:=Nat.div_lt_of_lt_mul (by rw [Nat.mul_comm]; exact hj)
   have e2:j % s<s:=Nat.mod_lt _ hs
   have e3:j / s*s+j % s=j:=Nat.div_add_mod' j s
   have:=zcy (f:=f) hs e1 e2
   rw [e3,hu] at this
   injection this with this
   subst this
   obtain ⟨b',off',e',_,hc⟩:=hsrc _ e1
   injection e' with e'
   subst e'
   have:=hc _ e2
   have hadd:(⟨b',off',none⟩:Addr).add j=⟨b',off'+j,none⟩:=by unfold Addr.add; split <;> simp_all
   rw [hadd,<-this]
   congr 2; omega
  ·obtain ⟨j,hj,rfl⟩:=List.mem_map.1 hu
   rw [List.mem_range] at hj
   exact h1 _ (Nat.div_lt_of_lt_mul (by rw [Nat.mul_comm]; exact hj)) _ (Nat.mod_lt _ hs)
theorem ybr {base e s n:Nat} {v:Value} {f:Nat->Nat->Value} (h:Own w base e s v n f) (hs:0<s) {A:Option Addr} {cap:Nat} (hv:v=.slice A n cap):(Builtin.firstCells s n (.slice A n cap)).run P w.drew=.ok (flat s f n).toArray w.drew:=by
 rcases h with ⟨e1,rfl⟩ | ⟨g,o,cp,cur,e1,hb,hg,hnc,hcm,hfit,hcur⟩
 ·rw [hv] at e1
  injection e1 with e1 _ e2
  subst e1 e2
  simp [Builtin.firstCells,flat]
 ·rw [hv] at e1
  injection e1 with e1 _ e2
  subst e1 e2
  refine run_firstCells_some (P:=P) w.drew s n ⟨g,o,none⟩ n cap (flat s f n) (zao _ _ _) fun j u hu=>?_
  have hj:j<n*s:=by have:=(List.getElem?_eq_some_iff.1 hu).1; rwa [zao] at this
  have e1:j / s<n:=Nat.div_lt_of_lt_mul (by rw [Nat.mul_comm]; exact hj)
  have e2:j % s<s:=Nat.mod_lt _ hs
  have e3:j / s*s+j % s=j:=Nat.div_add_mod' j s
  have:=zcy (f:=f) hs e1 e2
  rw [e3,hu] at this
  injection this with this
  subst this
  have:=hcur _ e1 _ e2
  have hadd:(⟨g,o,none⟩:Addr).add j=⟨g,o+j,none⟩:=by unfold Addr.add; split <;> simp_all
  rw [hadd]
  show w.cell? ⟨g,o+j,none⟩=_
  rw [cell_of_row w g _ cur e (0,0) hg,<-this]
  congr 1; omega
theorem ya4 {s n m:Nat} (hs:0<s) {f:Nat->Nat->Value} {k j:Nat} (hk:k<n+m) (hj:j<s):(flat s f n ++ flat s (fun i=>f (n+i)) m)[k*s+j]?=some (f k j):=by
 by_cases hkn:k<n
 ·rw [List.getElem?_append_left (by
   rw [zao]
   have:(k+1)*s<=n*s:=Nat.mul_le_mul_right s hkn
   rw [Nat.add_mul] at this; omega)]
  exact zcy hs hkn hj
 ·obtain ⟨d,rfl⟩:∃ d,k=n+d:=⟨k - n,by omega⟩
  rw [List.getElem?_append_right (by rw [zao,Nat.add_mul]; omega),zao,show (n+d)*s+j - n*s=d*s+j by rw [Nat.add_mul]; omega]
  exact zcy (f:=fun i=>f (n+i)) hs (by omega) hj
theorem yad (base:Nat) (t ty e:TypeId) (i:TypeInfo) (z:Value) (s bytes:Nat) (ht:P.underlying t=some (.slice e)) (hi:P.info? e=some i) (hz:i.zero=some z)
  (hsize:i.size=s) (hby:i.bytes=bytes) (hzs:z.cells.size=s) (hs:0<s)
  (v:Value) (n:Nat) (f:Nat->Nat->Value) (hown:Own w base e s v n f)
  (A:Option Addr) (m c:Nat) (hsrc:Rd w w.heap.size A m s (fun k=>f (n+k))) (h1:∀ k,k<m->∀ j,j<s->(f (n+k) j).oneCell'=true)
  (h63:n+m<=maxLen) (hbytes:(n+m)*bytes<=140737488355328) (hbase:base<=w.heap.size) :
  ∃ v' w',(Builtin.append_ #[t,t] ty #[v,.slice A m c]).run P w=.ok v' w'/\Own w' base e s v' (n+m) f/\w.grownBy w' v.ownBlock/\(v'.ownBlock=v.ownBlock∨v'.ownBlock=some w.heap.size):=by
 subst hsize
 subst hby
 have hsmall:n+m<=9223372036854775807:=by simp only [maxLen] at h63; omega
 have hsr:=ybv (P:=P) w (e:=e) ht (c:=c) hsrc h1 hs
 have hgr:∀ (A2:Option Addr) (cap:Nat),v=.slice A2 n cap->cap<n+m ->
   ∃ v' w',(Builtin.append_ #[t,t] ty #[v,.slice A m c]).run P w=.ok v' w'/\Own w' base e i.size v' (n+m) f/\w.grownBy w' v.ownBlock/\(v'.ownBlock=v.ownBlock∨v'.ownBlock=some w.heap.size):=by
  intro A2 cap hv hcap
  have hold:=ybr (P:=P) w hown hs hv
  have hrun:=run_append_grow_src (P:=P) w t t ty e i z ht hi hz A2 n cap (flat i.size f n) hold (.slice A m c) m (flat i.size (fun k=>f (n+k)) m) hsr hcap (by omega) (growslice_fits hcap hbytes)
  rw [hv]
  refine ⟨_,_,hrun,.inr ⟨w.heap.size,0,_,_,rfl,hbase,heap_alloc_new w.drew _,grownCap_ge w (n+m) cap e,grownCap_le_maxLen w (n+m) cap e h63,?_,fun k hk j hj=>?_⟩,⟨rfl,rfl,rfl,by simp,fun k hk _=>Below.heap_alloc w.drew _ k hk⟩,.inr rfl⟩
  ·have hge:=grownCap_ge w (n+m) cap e
   have e1:(grownCap w (n+m) cap e - (n+m))*i.size+(n+m)*i.size=grownCap w (n+m) cap e*i.size:=by rw [<-Nat.add_mul]; congr 1; omega
   simp [zao,size_zeroCells,hzs]
   rw [Nat.add_mul n m] at e1
   omega
  ·have hlt:k*i.size+j<(n+m)*i.size:=by
    have:(k+1)*i.size<=(n+m)*i.size:=Nat.mul_le_mul_right i.size (by omega)
    rw [Nat.add_mul] at this; omega
   have hlen:(flat i.size f n ++ flat i.size (fun k=>f (n+k)) m).length=(n+m)*i.size:=by rw [List.length_append,zao,zao,Nat.add_mul]
   rw [Nat.zero_add,Array.getElem?_append_left (by simpa [hlen] using hlt),List.getElem?_toArray]
   exact ya4 hs hk hj
 rcases id hown with ⟨e1,e2⟩ | ⟨g,o,cap,cur,e1,hb,hg,hnc,hcm,hfit,hcur⟩
 ·rcases Nat.eq_zero_or_pos m with h0 | h0
  ·subst h0 e1 e2
   refine ⟨_,_,zbN (P:=P) w t ty e i ht hi A c,.inl ⟨rfl,rfl⟩,⟨rfl,rfl,rfl,Nat.le_refl _,fun _ _ _=>rfl⟩,.inl rfl⟩
  ·exact hgr none 0 (by rw [e1,e2]) (by omega)
 ·by_cases hroom:n+m<=cap
  ·have hlen:=zao i.size (fun k=>f (n+k)) m
   have hsz:o+n*i.size+(flat i.size (fun k=>f (n+k)) m).length<=cur.size:=by
    rw [hlen]
    have:(n+m)*i.size<=cap*i.size:=Nat.mul_le_mul_right i.size hroom
    rw [Nat.add_mul] at this; omega
   have hrun:=yae (P:=P) w t ty e i ht hi g o n cap cur hg (.slice A m c) m _ hsr hroom hsz
   subst e1
   refine ⟨_,_,hrun,.inr ⟨g,o,cap,_,rfl,hb,zbn hg,hroom,hcm,?_,fun k hk j hj=>?_⟩,zdb w g _,.inl rfl⟩
   ·simp; omega
   ·have hto:(cur.toList.take (o+n*i.size)).length=o+n*i.size:=by simp; omega
    rw [List.getElem?_toArray]
    by_cases hkn:k<n
    ·have:(k+1)*i.size<=n*i.size:=Nat.mul_le_mul_right i.size hkn
     rw [Nat.add_mul] at this
     rw [List.append_assoc,List.getElem?_append_left (by omega),List.getElem?_take,if_pos (by omega),Array.getElem?_toList]
     exact hcur k hkn j hj
    ·obtain ⟨d,rfl⟩:∃ d,k=n+d:=⟨k - n,by omega⟩
     have hd:(d+1)*i.size<=m*i.size:=Nat.mul_le_mul_right i.size (by omega)
     rw [Nat.add_mul] at hd
     rw [List.append_assoc,List.getElem?_append_right (by rw [hto,Nat.add_mul]; omega),hto,show o+(n+d)*i.size+j - (o+n*i.size)=d*i.size+j by rw [Nat.add_mul]; omega,List.getElem?_append_left (by rw [hlen]; omega)]
     exact zcy (f:=fun k=>f (n+k)) hs (by omega) hj
  ·exact hgr _ cap e1 (by omega)
end
theorem yaR {w:World} {ops:Array Oper} {o:Oper} {a:Act} {K:Act->World->Prop} {Q:Exit->Act->World->Prop} {E:Prop} (hgd:o.guard=none) (sl x:Operand)
  (ho:o.op=.call { callee:=.builtin .append,args:=#[sl,x],argTypes:=#[22, 22] })
  {base n m:Nat} {v:Value} {p:Nat->Nat} (h:Own w base 3 1 v n (fun j _=>.int .i64 (p j:Nat))) (hv:a.eval sl=v) {A:Option Addr} {c:Nat} (hx:a.eval x=.slice A m c)
  (hsrc:IntsR w w.heap.size A m (fun k=>(p (n+k):Nat))) (hbase:base<=w.heap.size) (hN:n+m<=1048576)
  (K':∀ v' w',Own w' base 3 1 v' (n+m) (fun j _=>.int .i64 (p j:Nat))->w.grownBy w' v.ownBlock->(v'.ownBlock=v.ownBlock∨v'.ownBlock=some w.heap.size)->K (a.put o.dst v') w') :
  if Region.wanted o (yielded ops a.tmps)=true then Oper.wp Tryz.prog o a w K Q else E:=by
 have hw:Region.wanted o (yielded ops a.tmps)=true:=by simp [Region.wanted,hgd]
 rw [if_pos hw]
 obtain ⟨i0,qi0,qz0,qz1,qz2⟩:=info_parts Tryz.infoInt
 obtain ⟨v',w',hrun,h2,h3,h4⟩:=yad (P:=Tryz.prog) w base 22 o.type 3 i0 _ 1 8 Tryz.underlying22 qi0 qz0 qz1 qz2 rfl (by omega) v n _ h A m c hsrc (fun _ _ _ _=>rfl) (by unfold maxLen; omega) (by omega) hbase
 unfold Oper.wp execOp
 simp only [ho,resolve,invoke,builtin,Sem.run_bind,Sem.run_pure,Result.andThen_ok,List.map_toArray,List.map_cons,List.map_nil,hv,hx,hrun]
 exact K' _ _ h2 h3 h4
theorem yaf {w:World} {ops:Array Oper} {rest:List Oper} {o:Oper} {a:Act} {Q:Exit->Act->World->Prop} (hgd:o.guard=none) (sl x:Operand)
  (ho:o.op=.call { callee:=.builtin .append,args:=#[sl,x],argTypes:=#[22, 22] })
  {base n m:Nat} {v:Value} {p:Nat->Nat} (h:Own w base 3 1 v n (fun j _=>.int .i64 (p j:Nat))) (hv:a.eval sl=v) {A:Option Addr} {c:Nat} (hx:a.eval x=.slice A m c)
  (hsrc:IntsR w w.heap.size A m (fun k=>(p (n+k):Nat))) (hbase:base<=w.heap.size) (hN:n+m<=1048576)
  (h9:∀ v' w',Own w' base 3 1 v' (n+m) (fun j _=>.int .i64 (p j:Nat))->w.grownBy w' v.ownBlock->(v'.ownBlock=v.ownBlock∨v'.ownBlock=some w.heap.size)->wpList Tryz.prog ops Q rest (a.put o.dst v') w'):wpList Tryz.prog ops Q (o :: rest) a w:=by
 refine wpList_plain hgd fun K hK=>?_
 obtain ⟨i0,qi0,qz0,qz1,qz2⟩:=info_parts Tryz.infoInt
 obtain ⟨v',w',hrun,h2,h3,h4⟩:=yad (P:=Tryz.prog) w base 22 o.type 3 i0 _ 1 8 Tryz.underlying22 qi0 qz0 qz1 qz2 rfl (by omega) v n _ h A m c hsrc (fun _ _ _ _=>rfl) (by unfold maxLen; omega) (by omega) hbase
 unfold Oper.wp execOp
 simp only [ho,resolve,invoke,builtin,Sem.run_bind,Sem.run_pure,Result.andThen_ok,List.map_toArray,List.map_cons,List.map_nil,hv,hx,hrun]
 exact hK _ _ (h9 v' w' h2 h3 h4)
section
variable {q n k:Nat} {add mul:Nat->Nat->Nat} {V:Nat->Nat->Nat} {neg:Nat->Nat}
theorem ybi (hL:FieldLaws q add mul) {a b c d:Nat} (ha:a<q) (hb:b<q) (hc:c<q) (hd:d<q):add (add a b) (add c d)=add (add a c) (add b d):=by
 rw [hL.addAssoc a b _ ha hb (hL.addLt _ _),<-hL.addAssoc b c d hb hc hd,hL.addComm b c,hL.addAssoc c b d hc hb hd,<-hL.addAssoc a c _ ha hc (hL.addLt _ _)]
theorem ybd (hL:FieldLaws q add mul) (hn:∀ x,x<q->neg x<q/\add x (neg x)=0) {c:Nat->Nat} {j:Nat} (hV:∀ i,i<n->V i j<q) (hc:∀ i,i<n->c i<q):∀ t,t<=n->add (spE add mul V c t j) (spE add mul V (fun i=>neg (c i)) t j)=0
 | 0,_=>hL.zeroAdd 0 (by have:=hL.two; omega)
 | t+1,ht=>by
  have h1:=hV t (by omega)
  have h2:=hc t (by omega)
  have h3:=hn _ h2
  show add (add (spE add mul V c t j) (mul (c t) (V t j))) (add (spE add mul V (fun i=>neg (c i)) t j) (mul (neg (c t)) (V t j)))=0
  rw [ybi hL (zbb hL _ _ _) (hL.mulLt _ _) (zbb hL _ _ _) (hL.mulLt _ _),ybd hL hn hV hc t (by omega),hL.mulComm (c t) _ h2 h1,hL.mulComm (neg (c t)) _ h3.1 h1,<-hL.distrib _ _ _ h1 h2 h3.1,h3.2,hL.mulZero h1]
  exact hL.zeroAdd 0 (by have:=hL.two; omega)
end
def restF (P M:Nat) (m:Nat->Nat) (p:Nat->Nat) (V:Nat->Nat->Nat) (u:Nat->Nat):Nat->Nat->Nat
 | 0=>u
 | t+1=>atF P M m (negF P M (u (p t))) (restF P M m p V u t) (V t)
section
variable {P M n k:Nat} {m:Nat->Nat} {V:Nat->Nat->Nat} {p u:Nat->Nat}
theorem yaz (hL:FieldLaws (P ^ M) (addF P M) (mulF P M m)) (hu:∀ j,j<k->u j<P ^ M):∀ t j,j<k->restF P M m p V u t j<P ^ M
 | 0,j,hj=>hu j hj
 | t+1,j,hj=>by
  show atF _ _ _ _ _ _ _<_
  unfold atF
  split
  ·exact yaz hL hu t j hj
  ·exact hL.addLt _ _
theorem yao (hL:FieldLaws (P ^ M) (addF P M) (mulF P M m)) (hP:0<P) (hu:∀ j,j<k->u j<P ^ M) {j:Nat} (hj:j<k):∀ t,restF P M m p V u t j=addF P M (u j) (spE (addF P M) (mulF P M m) V (fun i=>negF P M (u (p i))) t j)
 | 0=>by
  show u j=addF P M (u j) 0
  rw [hL.addComm,hL.zeroAdd _ (hu j hj)]
 | t + 1 => by
  have hS:=zbb hL (V:=V) (fun i=>negF P M (u (p i))) t j
  show atF _ _ _ _ _ _ _=addF P M (u j) (addF P M (spE (addF P M) (mulF P M m) V (fun i=>negF P M (u (p i))) t j) (mulF P M m (negF P M (u (p t))) (V t j)))
  rw [<-hL.addAssoc _ _ _ (hu j hj) hS (hL.mulLt _ _),<-yao hL hP hu hj t]
  unfold atF
  split
  ·next h =>
   rw [h,hL.mulZero (zbp hP),hL.addComm,hL.zeroAdd _ (yaz hL hu t j hj)]
  ·rfl
theorem ya5 (hL:FieldLaws (P ^ M) (addF P M) (mulF P M m)) (hP:0<P) (hE:EchN (P ^ M) n k k n p V) (hu:∀ j,j<k->u j<P ^ M):(∀ j,j<k->restF P M m p V u n j=0)↔InSp (P ^ M) (addF P M) (mulF P M m) n k V u:=by
 rw [zho hL hE hu]
 have hop:∀ j,j<k->addF P M (spE (addF P M) (mulF P M m) V (fun i=>u (p i)) n j) (spE (addF P M) (mulF P M m) V (fun i=>negF P M (u (p i))) n j)=0:=fun j hj =>
  ybd hL (fun x _=>⟨zbp hP,za4 hP⟩) (fun i hi=>hE.lt i hi j hj) (fun i hi=>hu _ (hE.pvlt i hi)) n (Nat.le_refl _)
 constructor
 ·intro h j hj
  have h1:=h j hj
  rw [yao hL hP hu hj] at h1
  exact zgp hL (hu j hj) (zbb hL _ _ _) (zbb hL _ _ _) h1 (hop j hj)
 ·intro h j hj
  rw [yao hL hP hu hj,h j hj]
  exact hop j hj
end
def Trel.outs (T:Trel) (i:Nat) (v:Int) (m:Nat):List Nat:=(List.range m).filter fun j=>T.fr i j == v
theorem Trel.outs_mem {T:Trel} {i m j:Nat} {v:Int}:j ∈ T.outs i v m↔j<m/\T.fr i j=v:=by
 simp [Trel.outs]
theorem Trel.outs_pos {T:Trel} (h:T.Proper) {i:Nat} (hi:i<T.n) {v:Int} (h0:0<=v) (h1:v<T.W i):∃ j,j ∈ T.outs i v (T.el i):=by
 have h2:=(h.sec i hi).2.1 v.toNat (by omega)
 obtain ⟨j,hj,e⟩:=zcM.1 h2
 exact ⟨j,Trel.outs_mem.2 ⟨hj,by omega⟩⟩
def grp (g:Nat->Nat) (e u:Nat):List Nat:=(List.range u).flatMap fun a=>(List.range e).filter fun j=>g j=a
theorem ybs {g:Nat->Nat} {e u j:Nat}:j ∈ grp g e u↔j<e/\g j<u:=by
 unfold grp
 simp only [List.mem_flatMap,List.mem_range,List.mem_filter,decide_eq_true_eq]
 constructor
 ·rintro ⟨a,h1,h2,h3⟩; exact ⟨h2,by omega⟩
 ·rintro ⟨h1,h2⟩; exact ⟨g j,h2,h1,rfl⟩
theorem yai {g:Nat->Nat} {e u:Nat} {R:Nat->Nat->Prop} (h1:∀ a b,a<e->b<e->g a<g b->R a b) (h2:∀ a b,a<b->b<e->g a=g b->R a b):(grp g e u).Pairwise R:=by
 unfold grp
 rw [List.pairwise_flatMap]
 refine ⟨fun a _=>?_,?_⟩
 ·refine List.Pairwise.filter _ ?_ |>.imp_of_mem ?_ (R:=fun x y=>x<y)
  ·exact List.pairwise_lt_range
  ·intro x y hx hy hxy
   simp only [List.mem_filter,List.mem_range,decide_eq_true_eq] at hx hy
   exact h2 x y hxy hy.1 (by omega)
 ·refine List.pairwise_lt_range.imp ?_
  intro a b hab x hx y hy
  simp only [List.mem_filter,List.mem_range,decide_eq_true_eq] at hx hy
  exact h1 x y hx.1 hy.1 (by omega)
theorem ybj {g:Nat->Nat} {e u:Nat} (h:∀ j,j<e->g j<u):(grp g e u).Perm (List.range e):=by
 refine (List.perm_ext_iff_of_nodup ?_ List.nodup_range).2 fun j=>?_
 ·exact yai (fun a b _ _ h e=>by subst e; omega) (fun a b h _ _ e=>by omega)
 ·rw [ybs,List.mem_range]
  exact ⟨fun h=>h.1,fun hj=>⟨hj,h j hj⟩⟩
def firsts (l:List Nat):List Nat:=l.foldl (fun a v=>if v ∈ a then a else a ++ [v]) []
theorem yas (l:List Nat) (v:Nat):firsts (l ++ [v])=if v ∈ firsts l then firsts l else firsts l ++ [v]:=by
 unfold firsts
 rw [List.foldl_append]
 rfl
theorem yat {l:List Nat} {v:Nat}:v ∈ firsts l↔v ∈ l:=by
 have key : ∀ m : List Nat, v ∈ firsts m.reverse ↔ v ∈ m.reverse := by
  intro m
  induction m with
  | nil=>exact Iff.rfl
  | cons a m ih =>
   rw [List.reverse_cons,yas,List.mem_append,<-ih]
   by_cases h:a ∈ firsts m.reverse
   ·rw [if_pos h]
    constructor
    ·exact .inl
    ·rintro (h1 | h1)
     ·exact h1
     ·obtain rfl:v=a:=by simpa using h1
      exact h
   ·rw [if_neg h,List.mem_append]
 have:=key l.reverse
 rwa [List.reverse_reverse] at this
theorem yal {R:Nat->Nat->Prop} {f:Nat->Nat} {V:List Nat} (h:∀ A B j,V=A ++ j :: B->(∀ a,a ∈ A->f a≠f j)->∀ a,a ∈ A->R (f a) (f j)):(firsts (V.map f)).Pairwise R:=by
 have key:∀ (m B:List Nat),V=m.reverse ++ B->(firsts (m.reverse.map f)).Pairwise R:=by
  intro m
  induction m with
  | nil=>intro B _; exact List.Pairwise.nil
  | cons a m ih =>
   intro B hB
   rw [List.reverse_cons,List.append_assoc] at hB
   have h1:=ih _ hB
   rw [List.reverse_cons,List.map_append,List.map_singleton,yas]
   by_cases hm:f a ∈ firsts (m.reverse.map f)
   ·rw [if_pos hm]; exact h1
   ·rw [if_neg hm,List.pairwise_append]
    refine ⟨h1,List.pairwise_singleton _ _,?_⟩
    intro x hx y hy
    obtain rfl:y=f a:=by simpa using hy
    rw [yat,List.mem_map] at hx hm
    obtain ⟨q,hq,rfl⟩:=hx
    exact h m.reverse B a hB (fun b hb e=>hm ⟨b,hb,e⟩) q hq
 have:=key V.reverse [] (by simp)
 rwa [List.reverse_reverse] at this
def Trel.vis (T:Trel) (i:Nat):List Nat:=grp (fun j=>T.nm i (T.fr i j).toNat) (T.el i) (T.W i).toNat
section
variable {T:Trel} (h:T.Proper)
include h
theorem Trel.Proper.vis_perm {i:Nat} (hi:i<T.n):(T.vis i).Perm (List.range (T.el i)):=ybj fun _ hj=>h.nm_lt (by omega) (h.frL hi hj).1
theorem Trel.Proper.code_mono {i:Nat} (hi:i<T.n) {a b:Nat} (ha:a<T.el i) (hb:b<T.el i) (e:T.nm i (T.fr i a).toNat<T.nm i (T.fr i b).toNat∨T.nm i (T.fr i a).toNat=T.nm i (T.fr i b).toNat/\a<b):T.code (T.nm i) i a<T.code (T.nm i) i b:=by
 have h1:=h.lbL hi ha
 have h2:=h.lbL hi hb
 unfold Trel.code
 rcases e with e | ⟨e,h3⟩
 ·omega
 ·have e2:=h.nm_inj (by omega) _ _ (h.frL hi ha).1 (h.frL hi hb).1 e
  have h5:=h.frL hi ha
  have h6:=h.frL hi hb
  have:=Trel.ord (h.sec i hi) b a h3 hb
  omega
theorem Trel.Proper.vis_code {i:Nat} (hi:i<T.n):(T.vis i).Pairwise fun a b=>T.code (T.nm i) i a<T.code (T.nm i) i b :=
 yai (fun _ _ ha hb e=>h.code_mono hi ha hb (.inl e)) (fun _ _ hab hb e=>h.code_mono hi (by omega) hb (.inr ⟨e,hab⟩))
theorem Trel.Proper.next_perm {i:Nat} (hi:i<T.n):(firsts ((T.vis i).map fun j=>(T.to i j).toNat)).Perm (List.range (T.W (i+1)).toNat) /\
  ∀ v,v<(T.W (i+1)).toNat->(firsts ((T.vis i).map fun j=>(T.to i j).toNat)).idxOf v=T.nm (i+1) v:=by
 have hpw:(firsts ((T.vis i).map fun j=>(T.to i j).toNat)).Pairwise fun a b=>T.kt (T.nm i) i (T.el i) a<T.kt (T.nm i) i (T.el i) b:=by
  refine yal (f:=fun j=>(T.to i j).toNat) ?_
  intro A B j hV hne a ha
  have hpw:=h.vis_code hi
  have hm:∀ x,x ∈ T.vis i->x<T.el i:=fun x hx=>by simpa using (h.vis_perm hi).mem_iff.1 hx
  rw [hV] at hpw hm
  have haj:=hm a (by simp [ha])
  have hjj:=hm j (by simp)
  have h1:T.kt (T.nm i) i (T.el i) (T.to i a).toNat<=T.code (T.nm i) i a:=Trel.kt_le haj
  have h2:T.code (T.nm i) i a<T.code (T.nm i) i j:=(List.pairwise_append.1 hpw).2.2 a ha j (by simp)
  obtain ⟨q,hq,e1,e2⟩:=h.kt_hit hi (h.toL hi hjj).1
  have hqV:q ∈ A ++ j :: B:=hV ▸ (h.vis_perm hi).mem_iff.2 (List.mem_range.2 hq)
  show T.kt (T.nm i) i (T.el i) (T.to i a).toNat<T.kt (T.nm i) i (T.el i) (T.to i j).toNat
  rw [e2]
  rcases List.mem_append.1 hqV with hqA | hqB
  ·exact absurd e1 (hne q hqA)
  ·rcases List.mem_cons.1 hqB with rfl | hqB
   ·omega
   ·have h3:=(List.pairwise_cons.1 (List.pairwise_append.1 hpw).2.1).1 q hqB
    omega
 have hp:(firsts ((T.vis i).map fun j=>(T.to i j).toNat)).Perm (List.range (T.W (i+1)).toNat):=by
  refine (List.perm_ext_iff_of_nodup (hpw.imp fun {a b} hab e=>by subst e; omega) List.nodup_range).2 fun v=>?_
  rw [yat,List.mem_map,List.mem_range]
  constructor
  ·rintro ⟨j,hj,rfl⟩
   exact (h.toL hi (by simpa using (h.vis_perm hi).mem_iff.1 hj)).1
  ·intro hv
   obtain ⟨j,hj,e⟩:=zcM.1 ((h.sec i hi).2.2 v hv)
   exact ⟨j,(h.vis_perm hi).mem_iff.2 (List.mem_range.2 hj),by omega⟩
 refine ⟨hp,fun v hv=>?_⟩
 have hm:=hp.mem_iff.2 (List.mem_range.2 hv)
 obtain ⟨N,hN⟩:∃ N,N=firsts ((T.vis i).map fun j=>(T.to i j).toNat):=⟨_,rfl⟩
 rw [<-hN] at hm hp hpw ⊢
 have hlt:=List.idxOf_lt_length_iff.2 hm
 have hg:N.getD (N.idxOf v) 0=v:=by
  rw [List.getD_eq_getElem?_getD,List.getElem?_eq_getElem hlt,List.getElem_idxOf]
  rfl
 have h1:=zer (k:=T.kt (T.nm i) i (T.el i)) hp (fun p q hpq hq=>by
  rw [List.getD_eq_getElem?_getD,List.getD_eq_getElem?_getD,List.getElem?_eq_getElem (by omega),List.getElem?_eq_getElem hq]
  exact List.pairwise_iff_getElem.1 hpw p q _ _ hpq) hlt
 rw [hg] at h1
 exact h1.symm
end
def Trel.PathW (T:Trel) (x:Nat->Nat):Prop:=∃ nd:Nat->Nat,nd 0=0/\∀ i,i<T.n->∃ j,j<T.el i/\T.fr i j=(nd i:Nat)/\T.lb i j=(x i:Nat)/\T.to i j=(nd (i+1):Nat)
section
variable {q n N:Nat} {add mul:Nat->Nat->Nat} {pv:Nat->Nat} {R:Nat->Nat->Nat} {T:Trel}
theorem MinT.edge (hM:MinT q add mul n N pv R T) {i:Nat} (hi:i<N) {c:Nat->Nat} (hc:∀ s,c s<q) :
  ∃ j,j<T.el i/\T.fr i j=((packB q (actA pv R N i) c n:Nat):Int)/\T.lb i j=((spE add mul R c n i:Nat):Int)/\T.to i j=((packB q (actA pv R N (i+1)) c n:Nat):Int):=by
 obtain ⟨j,hj,e⟩:=hM.out i hi c hc
 simp only [Trel.eD,secE,Prod.mk.injEq] at e
 exact ⟨j,hj,e⟩
theorem yau {D:Nat->Bool} {c:Nat->Nat} (h:∀ s,D s=false):∀ n,packB q D c n=0
 | 0=>rfl
 | n+1=>by
  show (if D n then packB q D c n*q+c n else packB q D c n)=0
  rw [h n]
  exact yau h n
theorem MinT.path_of (hM:MinT q add mul n N pv R T) {c:Nat->Nat} (hc:∀ s,c s<q) {x:Nat->Nat} (hx:∀ i,i<N->x i=spE add mul R c n i):T.PathW x:=by
 refine ⟨fun i=>packB q (actA pv R N i) c n,yau zes n,fun i hi=>?_⟩
 rw [hM.nN] at hi
 obtain ⟨j,hj,h1,h2,h3⟩:=hM.edge hi hc
 exact ⟨j,hj,h1,by rw [h2,hx i hi],h3⟩
theorem MinT.path_in (hL:FieldLaws q add mul) (h:SpanF q n N pv R) (hM:MinT q add mul n N pv R T) {x:Nat->Nat} (hx:T.PathW x):∃ c:Nat->Nat,(∀ s,c s<q)/\∀ i,i<N->x i=spE add mul R c n i:=by
 obtain ⟨nd,_,hp⟩:=hx
 rw [hM.nN] at hp
 have hq0:0<q:=by have:=hL.two; omega
 have hC:∀ i,∃ c:Nat->Nat,(∀ s,c s<q)/\(i<N->nd i=packB q (actA pv R N i) c n/\x i=spE add mul R c n i/\nd (i+1)=packB q (actA pv R N (i+1)) c n):=fun i=>by
  by_cases hi:i<N
  ·obtain ⟨j,hj,h1,h2,h3⟩:=hp i hi
   obtain ⟨c,k1,k2⟩:=hM.inn i hi j hj
   simp only [Trel.eD,secE,Prod.mk.injEq] at k2
   exact ⟨c,k1,fun _=>⟨by omega,by omega,by omega⟩⟩
  ·exact ⟨fun _=>0,fun _=>hq0,fun g=>absurd g hi⟩
 obtain ⟨C,hC⟩:=Classical.axiomOfChoice hC
 have step:∀ s,s<n->∀ d,pv s+d<N->((pv s+d:Nat):Int)<=lE (R s) N->C (pv s+d) s=C (pv s) s:=by
  intro s hs d
  induction d with
  | zero=>intro _ _; rfl
  | succ d ih =>
   intro h1 h2
   rw [<-ih (by omega) (by omega)]
   have k1:=(hC (pv s+d)).2 (by omega)
   have k2:=(hC (pv s+(d+1))).2 (by omega)
   have e:packB q (actA pv R N (pv s+d+1)) (C (pv s+(d+1))) n=packB q (actA pv R N (pv s+d+1)) (C (pv s+d)) n:=by
    rw [<-k1.2.2]; exact k2.1.symm
   exact zdx n (fun t _=>(hC _).1 t) (fun t _=>(hC _).1 t) e s hs ((zaQ _ s).2 ⟨by omega,by omega⟩)
 refine ⟨fun s=>C (pv s) s,fun s=>(hC _).1 s,fun i hi=>?_⟩
 rw [((hC i).2 hi).2.1]
 refine zgv n fun t ht=>?_
 by_cases g1:pv t<=i
 ·by_cases g2:(i:Int)<=lE (R t) N
  ·have:=step t ht (i - pv t) (by omega) (by omega)
   rw [show pv t+(i - pv t)=i by omega] at this
   rw [this]
  ·have:R t i=0:=zb7 (n:=N) hi (by omega)
   rw [this,hL.mulZero ((hC _).1 t),hL.mulZero ((hC _).1 t)]
 ·have:R t i=0:=h.low t ht i (by omega)
  rw [this,hL.mulZero ((hC _).1 t),hL.mulZero ((hC _).1 t)]
theorem MinT.path_iff (hL:FieldLaws q add mul) (h:SpanF q n N pv R) (hM:MinT q add mul n N pv R T) {x:Nat->Nat}:T.PathW x↔InSp q add mul n N R x:=by
 have hq0:0<q:=by have:=hL.two; omega
 constructor
 ·intro hx
  obtain ⟨c,h1,h2⟩:=hM.path_in hL h hx
  exact ⟨c,fun s _=>h1 s,h2⟩
 ·rintro ⟨c,h1,h2⟩
  refine hM.path_of (c:=fun s=>if s<n then c s else 0) (fun s=>?_) fun i hi=>?_
  ·show (if s<n then c s else 0)<q
   split
   ·exact h1 s (by assumption)
   ·exact hq0
  ·rw [h2 i hi]
   exact zgv n fun t ht=>by show mul (c t) _=mul (if t<n then c t else 0) _; rw [if_pos ht]
end
section
variable {q n N:Nat} {add mul:Nat->Nat->Nat} {pv:Nat->Nat} {R:Nat->Nat->Nat} {T:Trel}
theorem SpanF.ranks2 (hL:FieldLaws q add mul) {pv:Nat->Nat} {V R:Nat->Nat->Nat} (h:SpanF q n N pv R) (hV:∀ i,i<n->∀ j,j<N->V i j<q) (hS:SameSp q add mul N n n V R) (hd:∀ i j,i<j->j<n->lE (R i) N≠lE (R j) N)
  {i1 i a b:Nat} (hi1:i1<=N) (hi:i<=i1) (ha:RankIs q add mul n V 0 i1 a) (hb:RankIs q add mul n V i (N - i) b):a+b=cntB (fun s=>decide (pv s<i1) && decide ((i:Int)<=lE (R s) N)) n+n:=by
 obtain ⟨p1,W1,hE1,hR1⟩:=ha
 obtain ⟨p2,W2,hE2,hR2⟩:=hb
 have e1:SameSp q add mul i1 n a (fun s j=>R s (0+j)) W1:=fun x=>((hS.cut (lo:=0) (m:=i1) (by omega) x).symm.trans ((RowOps.sp hL (fun s hs j hj=>hV s hs (0+j) (by omega)) hR1).1 x)).trans (EchN.sp_top hL hE1 x)
 have e2:SameSp q add mul (N - i) n b (fun s j=>R s (i+j)) W2:=fun x=>((hS.cut (lo:=i) (m:=N - i) (by omega) x).symm.trans ((RowOps.sp hL (fun s hs j hj=>hV s hs (i+j) (by omega)) hR2).1 x)).trans (EchN.sp_top hL hE2 x)
 have k1:a=cntB (fun s=>decide (pv s<i1)) n:=by
  refine zgw hL (κ:=pv) (μ:=fun s=>s) (fun s hs j hj=>h.lt s hs (0+j) (by omega)) hE1.top e1 (fun s hs hD=>?_) (fun s t hs ht hD hne=>?_) (fun s hs hD j hj=>?_)
  ·have hD:=of_decide_eq_true hD
   refine ⟨hD,?_⟩
   show R s (0+pv s)≠0
   rw [Nat.zero_add,h.one s hs]
   omega
  ·have hD:=of_decide_eq_true hD
   rcases Nat.lt_or_ge t s with g | g
   ·exact .inr ⟨decide_eq_true (by have:=h.inc t s g hs; omega),g⟩
   ·refine .inl ?_
    show R t (0+pv s)=0
    rw [Nat.zero_add]
    exact h.low t ht _ (h.inc s t (by omega) ht)
  ·have hD:=of_decide_eq_false hD
   show R s (0+j)=0
   rw [Nat.zero_add]
   exact h.low s hs j (by omega)
 have k2:b=cntB (fun s=>decide ((i:Int)<=lE (R s) N)) n:=by
  have hin:=fun s=>ziJ (u:=R s) N
  refine zgw hL (κ:=fun s=>(lE (R s) N).toNat - i) (μ:=fun s=>N - (lE (R s) N).toNat) (fun s hs j hj=>h.lt s hs (i+j) (by omega)) hE2.top e2 (fun s hs hD=>?_) (fun s t hs ht hD hne=>?_) (fun s hs hD j hj=>?_)
  ·have hD:=of_decide_eq_true hD
   have h1:=hin s
   have h2:=zjm (u:=R s) N (lE (R s) N).toNat (by omega)
   refine ⟨by omega,?_⟩
   show R s (i+((lE (R s) N).toNat - i))≠0
   rw [show i+((lE (R s) N).toNat - i)=(lE (R s) N).toNat by omega]
   exact h2.2
  ·have hD:=of_decide_eq_true hD
   have h1:=hin s
   have h2:=hin t
   show R t (i+((lE (R s) N).toNat - i))=0∨_
   rw [show i+((lE (R s) N).toNat - i)=(lE (R s) N).toNat by omega]
   have hdd:lE (R s) N≠lE (R t) N:=by
    rcases Nat.lt_or_ge s t with g | g
    ·exact hd s t g ht
    ·exact (hd t s (by omega) hs).symm
   by_cases g:lE (R t) N<lE (R s) N
   ·exact .inl (zb7 (n:=N) (by omega) (by omega))
   ·exact .inr ⟨decide_eq_true (by omega),by omega⟩
  ·have hD:=of_decide_eq_false hD
   have h1:=hin s
   show R s (i+j)=0
   exact zb7 (n:=N) (by omega) (by omega)
 rw [k1,k2]
 exact zeV n fun s hs=>by
  have h1:=h.pos hs
  by_cases g:pv s<i1
  ·exact .inl (decide_eq_true g)
  ·exact .inr (decide_eq_true (by omega))
theorem SpanF.sects (hL:FieldLaws q add mul) {pv:Nat->Nat} {V R:Nat->Nat->Nat} (h:SpanF q n N pv R) (hV:∀ i,i<n->∀ j,j<N->V i j<q) (hS:SameSp q add mul N n n V R) (hd:∀ i j,i<j->j<n->lE (R i) N≠lE (R j) N)
  {i a b:Nat} (hi:i<N) (ha:RankIs q add mul n V 0 (i+1) a) (hb:RankIs q add mul n V i (N - i) b):a+b=cntB (actE pv R N i) n+n:=by
 have:=SpanF.ranks2 hL h hV hS hd (i1:=i+1) (i:=i) (by omega) (by omega) ha hb
 rw [this]
 congr 1
 refine zgt n fun s _=>?_
 unfold actE
 congr 1
 exact decide_eq_decide.2 (by omega)
end
def Cost (a:Int):Prop:=0<=a/\a<=4611686018427387904
def capI (a b:Int):Int:=if 4611686018427387904<a+b then 4611686018427387904 else a+b
theorem yaF {a b:Int} (ha:Cost a) (hb:Cost b):Cost (capI a b):=by
 unfold Cost capI at *
 split <;> omega
theorem yaS {a b:Int} (h:a+b<=4611686018427387904):capI a b=a+b:=if_neg (by omega)
theorem ybk {a b:Int} (ha:Cost a) (hb:Cost b):Cost (min a b):=by
 unfold Cost at *
 omega
theorem yap (a:Int) (w:World) (ha:Cost a):Calls Tryz.prog 180 #[.int .i64 a] w fun e w'=>e=.returned (.int .i64 a)/\Below w.heap.size w w':=by
 unfold Cost at ha
 have h1:max a 0=a:=by omega
 have h2:min a 4611686018427387904=a:=by omega
 go_enter Tryz.func180, Tryz.ntmps180
 go_wp2
 go_ret
 exact ⟨by first | rfl | (simp only [h1,h2]) | (rw [h1,h2]),Below.refl _ _⟩
theorem yaT (a b:Int) (w:World) (ha:Cost a) (hb:Cost b):Calls Tryz.prog 294 #[.int .i64 a,.int .i64 b] w fun e w'=>e=.returned (.int .i64 (capI a b))/\Below w.heap.size w w':=by
 unfold Cost at ha hb
 have hw:IntKind.i64.wrap (4611686018427387904 - b)=4611686018427387904 - b:=IntWalk.i64_in _ (by omega)
 go_enter Tryz.func294, Tryz.ntmps294
 by_cases h:4611686018427387904<a+b
 ·have hd:¬ a<=4611686018427387904 - b:=by omega
  have hd2:4611686018427387904 - b<a:=by omega
  have hc:=hid (show capI a b=4611686018427387904 from if_pos h)
  clear h
  go_wp2
  go_ret
  exact ⟨by rw [hc.out]; rfl,Below.refl _ _⟩
 ·have hd:a<=4611686018427387904 - b:=by omega
  have hd2:¬ 4611686018427387904 - b<a:=by omega
  have hw2:IntKind.i64.wrap (a+b)=a+b:=IntWalk.i64_in _ (by omega)
  have hc:=hid (show capI a b=a+b from if_neg h)
  clear h
  go_wp2
  go_ret
  exact ⟨by rw [hc.out]; first | rfl | (rw [hw2]; rfl),Below.refl _ _⟩
theorem yav (w:World):Calls Tryz.prog 119 #[.agg #[]] w fun e w'=>e=.returned (.int .i64 4611686018427387904)/\Below w.heap.size w w':=by
 go_enter Tryz.func119, Tryz.ntmps119
 go_wp2
 go_ret
 exact ⟨rfl,(Below.refl _ _).alloc (Nat.le_refl _) _⟩
theorem ya6 (w:World):Calls Tryz.prog 293 #[.agg #[]] w fun e w'=>e=.returned (.int .i64 0)/\Below w.heap.size w w':=by
 go_enter Tryz.func293, Tryz.ntmps293
 go_wp2
 go_ret
 exact ⟨rfl,(Below.refl _ _).alloc (Nat.le_refl _) _⟩
theorem yaG (a b:Int) (w:World) (ha:Cost a) (hb:Cost b):Calls Tryz.prog 120 #[.agg #[],.int .i64 a,.int .i64 b] w fun e w'=>e=.returned (.int .i64 (min a b))/\Below w.heap.size w w':=by
 have hB0:Below w.heap.size w (w.alloc (Obj.cells #[] 158)):=(Below.refl _ _).alloc (Nat.le_refl _) _
 have HA:=hid ha
 have HB:=hid hb
 clear ha hb
 go_enter Tryz.func120, Tryz.ntmps120
 go_wp2_with fail
 refine (yap a _ HA.out).mono ?_
 rintro e w1 ⟨rfl,hb⟩
 have hB1:=onS hB0 hb
 clear hb hB0
 go_wp2_with fail
 refine (yap b _ HB.out).mono ?_
 rintro e w2 ⟨rfl,hb⟩
 have hB2:=onS hB1 hb
 clear hb hB1
 by_cases h:a<=b
 ·have h2:¬ b<a:=by omega
  have hm:=hid (show min a b=a by omega)
  go_wp2
  go_ret
  exact ⟨by rw [hm.out]; rfl,hB2⟩
 ·have h2:b<a:=by omega
  have hm:=hid (show min a b=b by omega)
  go_wp2
  go_ret
  exact ⟨by rw [hm.out]; rfl,hB2⟩
theorem yaH (a b:Int) (w:World) (ha:Cost a) (hb:Cost b):Calls Tryz.prog 292 #[.agg #[],.int .i64 a,.int .i64 b] w fun e w'=>e=.returned (.int .i64 (capI a b))/\Below w.heap.size w w':=by
 have hB0:Below w.heap.size w (w.alloc (Obj.cells #[] 158)):=(Below.refl _ _).alloc (Nat.le_refl _) _
 have HA:=hid ha
 have HB:=hid hb
 clear ha hb
 go_enter Tryz.func292, Tryz.ntmps292
 go_wp2_with fail
 refine (yap a _ HA.out).mono ?_
 rintro e w1 ⟨rfl,hb⟩
 have hB1:=onS hB0 hb
 clear hb hB0
 go_wp2_with fail
 refine (yap b _ HB.out).mono ?_
 rintro e w2 ⟨rfl,hb⟩
 have hB2:=onS hB1 hb
 clear hb hB1
 go_wp2_with fail
 refine (yaT a b _ HA.out HB.out).mono ?_
 rintro e w3 ⟨rfl,hb⟩
 have hB3:=onS hB2 hb
 clear hb hB2
 obtain ⟨x,hx⟩:∃ x,x=capI a b:=⟨_,rfl⟩
 have HX:=hid hx
 rw [<-hx];clear hx
 go_wp2
 go_ret
 exact ⟨by rw [<-HX.out]; rfl,hB3⟩
section
variable {w w':World} {g base m:Nat} {F:Nat->Value} {n n':Nat->Nat} {x x':Nat->Nat->Int}
theorem IntTab.put (h:IntTab w g base m F n x) (hgb:g<base) {v:Nat} (hv:v<m) {v':Value} {k':Nat} {y:Nat->Int} (hown:Own w' base 3 1 v' k' (fun i _=>.int .i64 (y i))) (hg:w.grownBy w' (F v).ownBlock) (hat:v'.ownBlock=(F v).ownBlock∨v'.ownBlock=some w.heap.size) :
  IntTab (w'.setCell ⟨g,v,none⟩ v') g base m (fun u=>if u=v then v' else F u) (fun u=>if u=v then k' else n u) (fun u=>if u=v then y else x u):=by
 have h1:=TabOwn.put h hgb hv hown hg hat
 refine ⟨h1.row,fun u hu=>?_,h1.apart⟩
 have h2:=h1.own u hu
 by_cases e:u=v
 ·simp only [if_pos e] at h2 ⊢
  exact h2
 ·simp only [if_neg e] at h2 ⊢
  exact h2
end
theorem yaa {ops:Array Oper} {o:Oper} {a:Act} {w:World} {K:Act->World->Prop} {Q:Exit->Act->World->Prop} {E:Prop} (hgd:o.guard=none) (sl y:Operand)
  (ho:o.op=.call { callee:=.builtin .append,args:=#[sl,y],argTypes:=#[22, 22] })
  (base:Nat) (v:Value) (k:Nat) (x:Nat->Int) (hv:a.eval sl=v) (h:Own w base 3 1 v k (fun i _=>.int .i64 (x i))) (hbase:base<=w.heap.size) (hk:k<=1048576)
  (b c:Nat) (hy:a.eval y=.slice (some ⟨b,0,none⟩) 1 c) (c0:w.cell? ⟨b,0,none⟩=some (.int .i64 (x k)))
  (hK:∀ v' w',Own w' base 3 1 v' (k+1) (fun i _=>.int .i64 (x i))->w.grownBy w' v.ownBlock->(v'.ownBlock=v.ownBlock∨v'.ownBlock=some w.heap.size)->K (a.put o.dst v') w') :
  if Region.wanted o (yielded ops a.tmps)=true then Oper.wp Tryz.prog o a w K Q else E:=by
 obtain ⟨i0,qi0,qz0,qz1,qz2⟩:=info_parts Tryz.infoInt
 exact zbE w hgd sl y _ ho base 3 i0 _ 1 8 Tryz.underlying22 qi0 qz0 qz1 qz2 rfl (by omega) v k _ hv h ⟨b,0,none⟩ c hy (fun j hj=>by
   obtain rfl:j=0:=by omega
   exact c0) (fun _ _=>rfl) (by unfold maxLen; omega) (by omega) hbase hK
theorem Trel.ordP {T:Trel} {i:Nat} (h:T.secOk i):∀ q j,j<q->q<T.el i->T.fr i j<T.fr i q∨T.fr i j=T.fr i q/\T.lb i j<T.lb i q:=by
 intro q
 induction q with
 | zero=>intro j hj; omega
 | succ q ih =>
  intro j hj hq
  have h1:=(h.1 (q+1) hq).2.2 (by omega)
  unfold Trel.after at h1
  rw [Nat.add_sub_cancel] at h1
  by_cases e:j=q
  ·rw [e]; exact h1
  ·have h2:=ih j (by omega) (by omega)
   omega
end Go.Proofs.YtgekjfpapmlndaaGreat
namespace Go.Proofs
end Go.Proofs
namespace Go.Proofs.YtgekjfpapmlndaaGreat
set_option maxRecDepth 100000
set_option maxHeartbeats 32000000
open Go.RowKit
def Trel.re (T:Trel) (y:Nat->Nat->Int × Int × Int):Trel:=⟨T.nw,T.W,T.n,T.el,fun i j=>(y i j).1,fun i j=>(y i j).2.1,fun i j=>(y i j).2.2⟩
theorem IsRen.in64 {T:Trel} (hP:T.Proper) {y:Nat->Nat->Int × Int × Int} (h:IsRen T y) {i:Nat} (hi:i<T.n) {j:Nat} (hj:j<T.el i):InI64 (y i j).1/\InI64 (y i j).2.1/\InI64 (y i j).2.2:=by
 have hm:y i j ∈ (List.range (T.el i)).map (y i):=List.mem_map.2 ⟨j,List.mem_range.2 hj,rfl⟩
 obtain ⟨q,hq,e⟩:=List.mem_map.1 ((h i hi).1.mem_iff.1 hm)
 rw [List.mem_range] at hq;rw [<-e]
 have h1:=hP.nm_lt (by omega) (hP.frL hi hq).1
 have h2:=hP.nm_lt (i:=i+1) (by omega) (hP.toL hi hq).1
 have h3:=(hP.shape.wid (i:=i) (by omega)).2
 have h4:=(hP.shape.wid (i:=i+1) (by omega)).2
 have h5:=hP.lbL hi hq
 refine ⟨⟨?_,?_⟩,⟨?_,?_⟩,⟨?_,?_⟩⟩
 ·show (-9223372036854775808:Int)<=(T.nm i (T.fr i q).toNat:Nat); omega
 ·show ((T.nm i (T.fr i q).toNat:Nat):Int)<=9223372036854775807; omega
 ·show (-9223372036854775808:Int)<=T.lb i q; omega
 ·show T.lb i q<=(9223372036854775807:Int); omega
 ·show (-9223372036854775808:Int)<=(T.nm (i+1) (T.to i q).toNat:Nat); omega
 ·show ((T.nm (i+1) (T.to i q).toNat:Nat):Int)<=9223372036854775807; omega
theorem IsRen.reads {T:Trel} (hP:T.Proper) {y:Nat->Nat->Int × Int × Int} (h:IsRen T y) {w:World} {base:Nat} {v wv:Value} (hE:ETab w base v T.n T.el y) (hA:Own w base 3 1 wv T.nw (fun k _=>.int .i64 (T.W k))) :
  ∃ A B c d,wv=.slice A T.nw c/\v=.slice B T.n d/\(T.re y).Reads w A B/\T.nw<=c/\c<=maxLen/\T.n<=d/\d<=maxLen:=by
 have hnw:=hP.shape.nw
 have hn:=hP.shape.n64
 refine ETab.reads (T:=T.re y) hE hA (fun i hi=>?_) (fun i hi j hj=>h.in64 hP hi hj) (by show T.nw<=_; omega) (by show T.n<=_; omega) (fun i hi=>by have:=hP.shape.elb hi; show T.el i<=_; omega)
 have hi':i<T.nw:=hi
 have:=hP.shape.wid (i:=i) (by omega)
 refine ⟨?_,?_⟩
 ·show (-9223372036854775808:Int)<=T.W i; omega
 ·show T.W i<=(9223372036854775807:Int); omega
theorem RenOut.reads {T:Trel} (hP:T.Proper) {y:Nat->Nat->Int × Int × Int} (hy:IsRen T y) {w:World} {A B:Option Addr} {c d:Nat} (h:RenOut T y w A B c d):(T.re y).Reads w A B/\T.nw<=c/\c<=maxLen/\T.n<=d/\d<=maxLen:=by
 obtain ⟨A',B',c',d',e1,e2,hR,k1,k2,k3,k4⟩:=hy.reads hP h.1 h.2
 injection e1 with e1 _ e1'
 subst e1 e1'
 injection e2 with e2 _ e2'
 subst e2 e2'
 exact ⟨hR,k1,k2,k3,k4⟩
open Go.ChangeShapes Go.WideShapes Go.ChangeAt
theorem yaA (A B:Option Addr) (n c d:Nat) (f:Nat->Int) (w:World) (ha:IntsR w w.heap.size A n f) (hb:IntsR w w.heap.size B n f) (hn:n<=1048576) :
  Calls Tryz.prog 20 #[.slice A n c,.slice B n d] w fun e w'=>e=.returned (.int .i64 0)/\Below w.heap.size w w':=by
 have HA:=hid ha
 have HB:=hid hb
 clear ha hb
 go_enter Tryz.func20, Tryz.ntmps20
 go_wp2
 go_loopg [5] n (fun g iv wx=>∃ k:Nat,iv=.int .i64 (k:Nat)/\k<=n/\n<=k+g/\Below w.heap.size w wx)
 case atStart=>exact ⟨0,rfl,by omega,by omega,Below.refl _ _⟩
 case round =>
  obtain ⟨k,rfl,hk,hkg,hW⟩:=hrel
  have hk0:(0:Int)<=(k:Int):=by omega
  by_cases hlt:k<n
  ·have hlt':(k:Int)<(n:Int):=by omega
   have hd:decide ((k:Int)<(n:Int))=true:=by simp; omega
   obtain ⟨ab,ao,rfl,hab,x0⟩:=(HA.out.on hW).at hlt
   obtain ⟨bb,bo,rfl,hbb,y0⟩:=(HB.out.on hW).at hlt
   obtain ⟨x,hx⟩:∃ x,x=f k:=⟨_,rfl⟩
   rw [<-hx] at x0 y0;clear hx
   have h1:¬ x<x:=by omega
   have h2:¬ x > x:=by omega
   go_wp2
   go_quiet (fail)
   go_wp2
   go_quiet (fail)
   go_wp2
   go_roundg (gk - 1)
   case measure=>omega
   case rel=>exact ⟨k+1,by go_num,by omega,by omega,zae hW _⟩
  ·have hlt':¬ (k:Int)<(n:Int):=by omega
   have hd:decide ((k:Int)<(n:Int))=false:=by simp; omega
   have hnn:¬ (n:Int)<(n:Int):=by omega
   obtain rfl:k=n:=by omega
   go_wp2
   go_ret
   exact ⟨rfl,hW⟩
theorem yaB (A B:Option Addr) (n c d:Nat) (f:Nat->Int) (w:World) (ha:IntsR w w.heap.size A n f) (hb:IntsR w w.heap.size B n f) (hn:n<=1048576) :
  Calls Tryz.prog 24 #[.slice A n c,.slice B n d] w fun e w'=>e=.returned (.bool true)/\Below w.heap.size w w':=by
 have H1:=hid ha
 have H2:=hid hb
 clear ha hb
 go_enter Tryz.func24, Tryz.ntmps24
 go_wp2_with fail
 refine (yaA A B n c d f w H1.out H2.out hn).mono ?_
 rintro e w1 ⟨rfl,kb⟩
 have HB:=hid kb
 clear kb
 go_wp2
 go_ret
 exact ⟨rfl,HB.out⟩
theorem yaL (P M:Int) (A:Option Addr) (k c:Nat) (f:Nat->Int) (N:Int) (TC:Option Addr) (n d:Nat) (ln:Nat->Nat) (V:Nat->Nat->Int) (w:World) (hr:IntsR w w.heap.size A k f) (h:IntRows w TC n ln V) :
  Calls Tryz.prog 48 #[.agg #[.int .i64 P,.int .i64 M,.slice A k c,.int .i64 N,.slice TC n d]] w (SmallPost 512 P M k f N n ln V w):=by
 have HI:=hid hr
 have HT:=hid h
 clear hr h
 have rf:=zai (w:=w) (a:=.int .i64 P) (b:=.int .i64 M) (c:=.slice A k c) (d:=.int .i64 N) (e:=.slice TC n d) (T := 27)
 have hB:Below w.heap.size w (w.alloc (.cells #[.int .i64 P,.int .i64 M,.slice A k c,.int .i64 N,.slice TC n d] 27)):=(Below.refl _ _).alloc (Nat.le_refl _) _
 obtain ⟨w1,hw1⟩:∃ W,W=w.alloc (.cells #[.int .i64 P,.int .i64 M,.slice A k c,.int .i64 N,.slice TC n d] 27):=⟨_,rfl⟩
 rw [<-hw1] at hB rf
 go_enter Tryz.func48, Tryz.ntmps48
 go_upto_region 1 with fail
 rw [<-hw1];clear hw1
 obtain ⟨b0,hb0⟩:∃ b,b=w.heap.size:=⟨_,rfl⟩
 rw [<-hb0] at rf;rw [<-hb0];clear hb0
 have HBOX:Hid (∀ X,Below w1.heap.size w1 X->(X.cell? ⟨b0,0,none⟩=some (.int .i64 P)/\X.cell? ⟨b0,1,none⟩=some (.int .i64 M)/\X.cell? ⟨b0,2,none⟩=some (.slice A k c)/\X.cell? ⟨b0,3,none⟩=some (.int .i64 N)/\X.cell? ⟨b0,4,none⟩=some (.slice TC n d))):=hid fun X hx =>
  ⟨(zab rf hx).cell (i:=0) (by omega),(zab rf hx).cell (i:=1) (by omega),(zab rf hx).cell (i:=2) (by omega),(zab rf hx).cell (i:=3) (by omega),(zab rf hx).cell (i:=4) (by omega)⟩
 have HB:=hid hB
 clear hB rf
 obtain ⟨q0,q1,q2,q3,q4⟩:=HBOX.out _ (Below.refl _ _)
 go_wp2_with fail
 refine (zbz P M A k c f N TC n d ln V w1 (HI.out.on HB.out) (HT.out.on HB.out)).mono ?_
 rintro e w2 ⟨u,rfl,hu,kb⟩
 have HU:=hid hu
 have KB:=hid kb
 clear kb hu q0 q1 q2 q3 q4
 obtain ⟨q0,q1,q2,q3,q4⟩:=HBOX.out _ KB.out
 by_cases hu0:u=0
 rotate_left
 ·have hub:(u != 0)=true:=by simpa using hu0
  have HU0:Hid (¬ FirstErr (CodeErrs P M k f N n ln V) 0):=hid fun h0=>hu0 (FirstErr.unique HU.out h0)
  clear hu0
  go_wp2
  go_ret
  exact ⟨onS HB.out KB.out,true,rfl,fun _=>.inl HU0.out⟩
 subst hu0
 have hub:((0:Int) != 0)=false:=by simp
 go_wp2_with fail
 refine (zfj 512 P M A k c f N TC n d ln V w2 (HI.out.on (onS HB.out KB.out)) (HT.out.on (onS HB.out KB.out)) (by omega)).mono ?_
 rintro e w3 ⟨v,rfl,hv,kb⟩
 replace KB:=hid (onS KB.out kb);clear kb q0 q1 q2 q3 q4
 by_cases hv0:v > 0
 ·have HC:Hid ((P.toNat ^ M.toNat) ^ n<=512):=hid (by
   rcases hv with ⟨h1,_⟩ | ⟨_,h2,_⟩
   ·omega
   ·exact h2)
  have hvd:decide (v > 0)=true:=by simp; omega
  clear hv
  go_wp2
  go_ret
  exact ⟨onS HB.out KB.out,true,rfl,fun _=>.inr (.inl HC.out)⟩
 have hvd:decide (v > 0)=false:=by simp; omega
 clear hv
 obtain ⟨q0,q1,q2,q3,q4⟩:=HBOX.out _ KB.out
 go_wp2_with fail
 refine (zgQ P M A k c f N TC n d ln V w3 (HI.out.on (onS HB.out KB.out)) (HT.out.on (onS HB.out KB.out))).mono ?_
 rintro e w4 ⟨kb,u,hu,he⟩
 obtain rfl:u=0:=FirstErr.unique hu HU.out
 replace KB:=hid (onS KB.out kb);clear kb hu q0 q1 q2 q3 q4
 rcases he with ⟨h0,_⟩ | ⟨_,P',M',N',hP,hM,hN,pr,se,h1,h2,⟨h3,rfl⟩ | ⟨h3,rfl⟩⟩
 ·exact absurd rfl h0
 ·have he8:((0:Int) == 8)=false:=by simp
  clear h1 h2 h3 hP hM hN
  go_wp2
  go_ret
  exact ⟨onS HB.out KB.out,false,rfl,fun h=>by cases h⟩
 ·have he8:((8:Int) == 8)=true:=by simp
  have HBG:Hid (BigC P M k f N n V):=hid ⟨P',M',N',hP,hM,hN,pr,se,h1,h2,h3⟩
  clear h1 h2 h3 hP hM hN
  go_wp2
  go_ret
  exact ⟨onS HB.out KB.out,true,rfl,fun _=>.inr (.inr HBG.out)⟩
section
variable {T:Trel} {y:Nat->Nat->Int × Int × Int}
theorem IsRen.from_old (h:IsRen T y) {i j:Nat} (hi:i<T.n) (hj:j<T.el i):∃ p,p<T.el i/\y i p=T.tri i j:=by
 have:=(h i hi).1.mem_iff.2 (List.mem_map.2 ⟨j,List.mem_range.2 hj,rfl⟩)
 obtain ⟨p,hp,e⟩:=List.mem_map.1 this
 exact ⟨p,List.mem_range.1 hp,e⟩
theorem IsRen.to_old (h:IsRen T y) {i p:Nat} (hi:i<T.n) (hp:p<T.el i):∃ j,j<T.el i/\y i p=T.tri i j:=by
 have:=(h i hi).1.mem_iff.1 (List.mem_map.2 ⟨p,List.mem_range.2 hp,rfl⟩)
 obtain ⟨j,hj,e⟩:=List.mem_map.1 this
 exact ⟨j,List.mem_range.1 hj,e.symm⟩
theorem Trel.Proper.nm_surj (hP:T.Proper) {i:Nat} (hi:i<=T.n) {t:Nat} (ht:t<(T.W i).toNat):∃ v,v<(T.W i).toNat/\T.nm i v=t:=by
 match i with
 | 0 =>
  rw [hP.w0] at ht ⊢
  have e1:(1:Int).toNat=1:=rfl
  rw [e1] at ht
  exact ⟨0,by rw [e1]; omega,by show 0=t; omega⟩
 | i+1 =>
  obtain ⟨h1,h2⟩:=hP.next_perm (i:=i) (by omega)
  have hl:=h1.length_eq
  rw [List.length_range] at hl
  have hm:(firsts ((T.vis i).map fun j=>(T.to i j).toNat))[t]'(by omega) ∈ List.range (T.W (i+1)).toNat:=h1.mem_iff.1 (List.getElem_mem _)
  have hv:=List.mem_range.1 hm
  refine ⟨_,hv,?_⟩
  rw [<-h2 _ hv]
  have hnd:(firsts ((T.vis i).map fun j=>(T.to i j).toNat)).Nodup:=h1.nodup_iff.2 List.nodup_range
  exact hnd.idxOf_getElem t (by omega)
theorem IsRen.proper (hP:T.Proper) (h:IsRen T y):(T.re y).Proper:=by
 have hs:=hP.shape
 have eW:∀ k,(T.re y).sumW k=T.sumW k:=fun k=>by
  induction k with
  | zero=>rfl
  | succ k ih=>show (T.re y).sumW k+T.W k=T.sumW k+T.W k; rw [ih]
 have eE:∀ k,(T.re y).sumE k=T.sumE k:=fun k=>by
  induction k with
  | zero=>rfl
  | succ k ih=>show (T.re y).sumE k+T.el k=T.sumE k+T.el k; rw [ih]
 have hold:∀ i,i<T.n->∀ p,p<T.el i->∃ j,j<T.el i/\(y i p).1=((T.nm i (T.fr i j).toNat:Nat):Int)/\(y i p).2.1=T.lb i j/\(y i p).2.2=((T.nm (i+1) (T.to i j).toNat:Nat):Int):=fun i hi p hp=>by
  obtain ⟨j,hj,e⟩:=h.to_old hi hp
  rw [e]
  exact ⟨j,hj,rfl,rfl,rfl⟩
 refine ⟨⟨hs.n64,hs.nw,hs.w1,(eW _).symm ▸ hs.sW,(eE _).symm ▸ hs.sE,fun i hi p hp=>?_⟩,hP.w0,hP.wn,fun i hi=>⟨fun p hp=>?_,fun v hv=>?_,fun v hv=>?_⟩⟩
 ·have hi:i<T.n:=hi
  have hp:p<T.el i:=hp
  obtain ⟨j,hj,e1,_,e3⟩:=hold i hi p hp
  have k1:=hP.nm_lt (i:=i) (by omega) (hP.frL hi hj).1
  have k2:=hP.nm_lt (i:=i+1) (by omega) (hP.toL hi hj).1
  show 0<=(y i p).1/\(y i p).1<T.W i/\0<=(y i p).2.2/\(y i p).2.2<T.W (i+1)
  omega
 ·have hi:i<T.n:=hi
  have hp:p<T.el i:=hp
  obtain ⟨j,hj,_,e2,_⟩:=hold i hi p hp
  have k:=(hP.sec i hi).1 j hj
  refine ⟨by show 0<=(y i p).2.1; rw [e2]; exact k.1,by show (y i p).2.1<256; rw [e2]; exact k.2.1,fun h0=>?_⟩
  exact (h i hi).2 (p - 1) p (by omega) hp
 ·have hi:i<T.n:=hi
  have hv:v<(T.W i).toNat:=hv
  obtain ⟨u,hu,e⟩:=hP.nm_surj (i:=i) (by omega) hv
  obtain ⟨j,hj,e2⟩:=zcM.1 ((hP.sec i hi).2.1 u hu)
  obtain ⟨p,hp,e3⟩:=h.from_old hi hj
  refine zcM.2 ⟨p,hp,?_⟩
  show (y i p).1=(v:Nat)
  rw [e3]
  show ((T.nm i (T.fr i j).toNat:Nat):Int)=_
  rw [e2,Int.toNat_natCast,e]
 ·have hi:i<T.n:=hi
  have hv:v<(T.W (i+1)).toNat:=hv
  obtain ⟨u,hu,e⟩:=hP.nm_surj (i:=i+1) (by omega) hv
  obtain ⟨j,hj,e2⟩:=zcM.1 ((hP.sec i hi).2.2 u hu)
  obtain ⟨p,hp,e3⟩:=h.from_old hi hj
  refine zcM.2 ⟨p,hp,?_⟩
  show (y i p).2.2=(v:Nat)
  rw [e3]
  show ((T.nm (i+1) (T.to i j).toNat:Nat):Int)=_
  rw [e2,Int.toNat_natCast,e]
theorem IsRen.path (hP:T.Proper) (h:IsRen T y) {x:Nat->Nat}:(T.re y).PathW x↔T.PathW x:=by
 constructor
 ·rintro ⟨nd,h0,hp⟩
  have hp:∀ i,i<T.n->∃ p,p<T.el i/\(y i p).1=(nd i:Nat)/\(y i p).2.1=(x i:Nat)/\(y i p).2.2=(nd (i+1):Nat):=hp
  have hq:∀ i,∃ j,i<T.n->j<T.el i/\T.nm i (T.fr i j).toNat=nd i/\T.lb i j=(x i:Nat)/\T.nm (i+1) (T.to i j).toNat=nd (i+1):=fun i=>by
   by_cases hi:i<T.n
   ·obtain ⟨p,h1,h2,h3,h4⟩:=hp i hi
    obtain ⟨j,hj,e⟩:=h.to_old hi h1
    rw [e] at h2 h3 h4
    have h2:((T.nm i (T.fr i j).toNat:Nat):Int)=(nd i:Nat):=h2
    have h3:T.lb i j=(x i:Nat):=h3
    have h4:((T.nm (i+1) (T.to i j).toNat:Nat):Int)=(nd (i+1):Nat):=h4
    exact ⟨j,fun _=>⟨hj,by omega,h3,by omega⟩⟩
   ·exact ⟨0,fun g=>absurd g hi⟩
  obtain ⟨q,hq⟩:=Classical.axiomOfChoice hq
  refine ⟨fun i=>match i with | 0=>0 | i+1=>(T.to i (q i)).toNat,rfl,fun i hi=>?_⟩
  obtain ⟨k1,k2,k3,k4⟩:=hq i hi
  refine ⟨q i,k1,?_,k3,by rw [(hP.toL hi k1).2]⟩
  match i with
  | 0 =>
   have:=hP.frL hi k1
   rw [hP.w0] at this
   have e1:(1:Int).toNat=1:=rfl
   show T.fr 0 (q 0)=((0:Nat):Int)
   omega
  | i+1 =>
   obtain ⟨m1,_,_,m4⟩:=hq i (by omega)
   have:=hP.nm_inj (i:=i+1) (by omega) _ _ (hP.frL hi k1).1 (hP.toL (by omega) m1).1 (by omega)
   have e2:=(hP.frL hi k1).2
   show T.fr (i+1) (q (i+1))=(((T.to i (q i)).toNat:Nat):Int)
   omega
 ·rintro ⟨nd,h0,hp⟩
  refine ⟨fun i=>T.nm i (nd i),rfl,fun i hi=>?_⟩
  have hi:i<T.n:=hi
  obtain ⟨j,hj,h1,h2,h3⟩:=hp i hi
  obtain ⟨p,hp2,e⟩:=h.from_old hi hj
  refine ⟨p,hp2,?_,?_,?_⟩
  ·show (y i p).1=_
   rw [e]
   show ((T.nm i (T.fr i j).toNat:Nat):Int)=_
   rw [h1,Int.toNat_natCast]
  ·show (y i p).2.1=_
   rw [e]
   exact h2
  ·show (y i p).2.2=_
   rw [e]
   show ((T.nm (i+1) (T.to i j).toNat:Nat):Int)=_
   rw [h3,Int.toNat_natCast]
end
def ITabPost (T:Trel) (x:Nat->Nat->Int) (w:World) (e:Ending) (w':World):Prop :=
 ∃ g F,e=.returned (.slice (some ⟨g,0,none⟩) T.nw T.nw)/\w.heap.size<=g/\IntTab w' g (g+1) T.nw F (fun v=>(T.W v).toNat) x/\Below w.heap.size w w'
theorem ya7 (T:Trel) (A B:Option Addr) (c d:Nat) (w:World) (h:T.Reads w A B) (hs:T.Shape) :
  Calls Tryz.prog 182 #[.agg #[],.agg #[.slice A T.nw c,.slice B T.n d]] w (ITabPost T (fun _ _=>4611686018427387904) w):=by
 obtain ⟨O1,hO1⟩:∃ o,o=(Obj.cells #[] 158):=⟨_,rfl⟩
 obtain ⟨O2,hO2⟩:∃ o,o=(Obj.cells #[.slice A T.nw c,.slice B T.n d] 53):=⟨_,rfl⟩
 have hB0:Below (w.heap.size+2) ((w.alloc O1).alloc O2) ((w.alloc O1).alloc O2):=Below.refl _ _
 have HS:Hid (∀ w',Below (w.heap.size+2) ((w.alloc O1).alloc O2) w'->(w'.cell? ⟨w.heap.size+1,0,none⟩=some (.slice A T.nw c)/\w'.cell? ⟨w.heap.size+1,1,none⟩=some (.slice B T.n d))/\Below w.heap.size w w'):=fun w' hB=>by
  have hB':=zeY hB
  subst hO2
  have hr:=zfQ hB
  exact ⟨⟨hr.cell (i:=0) (by simp),hr.cell (i:=1) (by simp)⟩,hB'⟩
 obtain ⟨⟨p0,p1⟩,hW⟩:=HS.out _ hB0
 have hn64:=hs.n64
 have hnw:=hs.nw
 have hmk:=fun W=>zah (P:=Tryz.prog) 25 22 _ 24 Tryz.underlying25 Tryz.infoInts rfl (T.nw:Int) (by omega) (by omega) (by omega) W
 simp only [Int.toNat_natCast] at hmk
 have HR:=hid h
 have HSH:=hid hs
 have hnw65:T.nw<=65:=by omega
 clear h hs hnw
 go_enter Tryz.func182, Tryz.ntmps182
 go_wp2_with fail
 rw [<-hO1,<-hO2]
 go_upto_region 2 with fail
 obtain ⟨W2,hW2⟩:∃ W,W=(w.alloc O1).alloc O2:=⟨_,rfl⟩
 have hsz2:W2.heap.size=w.heap.size+2:=by rw [hW2]; simp
 have HS2:Hid (∀ w',Below (w.heap.size+2) W2 w'->(w'.cell? ⟨w.heap.size+1,0,none⟩=some (.slice A T.nw c)/\w'.cell? ⟨w.heap.size+1,1,none⟩=some (.slice B T.n d))/\Below w.heap.size w w'):=by rw [hW2]; exact HS
 rw [<-hW2] at hB0 ⊢
 obtain ⟨g,hg⟩:∃ g,g=w.heap.size+1+1:=⟨_,rfl⟩
 have hgz:g=W2.heap.size:=by omega
 have hr3:=World.rowIs_made W2 (.slice none 0 0) T.nw 22
 have hB3:=zaZ hB0 (Nat.le_of_eq hsz2.symm) ((Below.refl W2.heap.size W2).alloc (Nat.le_refl _) (Obj.cells (madeCells #[Value.slice none 0 0] T.nw) 22))
 have hl3:w.heap.size+2<(W2.alloc (Obj.cells (madeCells #[Value.slice none 0 0] T.nw) 22)).heap.size:=by simp; omega
 obtain ⟨W3,hW3⟩:∃ W,W=W2.alloc (Obj.cells (madeCells #[Value.slice none 0 0] T.nw) 22):=⟨_,rfl⟩
 rw [<-hgz] at hr3;rw [<-hW3] at hr3 hB3 hl3 ⊢;rw [<-hg]
 have hT3:IntTab W3 g (g+1) T.nw (fun _=>.slice none 0 0) (fun v=>if v<0 then (T.W v).toNat else 0) (fun _ _=>4611686018427387904):=(zet hr3).congr (fun v _=>(if_neg (by omega)).symm) (fun v _ k hk=>rfl)
 have hg2:w.heap.size+2<=g:=by omega
 clear hW3 hgz hg hr3 hW2 HS hB0 hmk hO1 hO2 hsz2
 go_loopg [15] T.nw (fun gg iv wx=>∃ (k:Nat) (F:Nat->Value),iv=.int .i64 (k:Nat)/\k<=T.nw/\T.nw<=k+gg/\IntTab wx g (g+1) T.nw F (fun v=>if v<k then (T.W v).toNat else 0) (fun _ _=>4611686018427387904)/\Below (w.heap.size+2) W2 wx/\w.heap.size+2<wx.heap.size)
 case atStart=>exact ⟨0,_,rfl,by omega,by omega,hT3,hB3,hl3⟩
 case round =>
  clear hW p0 p1 hT3 hB3 hl3
  obtain ⟨gK,hgK⟩:∃ g,g=gk:=⟨_,rfl⟩
  subst hgK
  obtain ⟨k,F,rfl,hk,hkg,hT,hB,hl⟩:=hrel
  obtain ⟨wk,hwk⟩:∃ W,W=wr:=⟨_,rfl⟩
  subst hwk
  have hk0:(0:Int)<=(k:Int):=by omega
  obtain ⟨⟨p0,p1⟩,hW⟩:=HS2.out _ hB
  by_cases hlt:k<T.nw
  ·have hlt':(k:Int)<(T.nw:Int):=by omega
   obtain ⟨wb,wo,rfl,hwb,y0,hy1,hy2⟩:=(HR.out.on hW).width hlt
   have hwid:=HSH.out.wid (i:=k) (by have:=HSH.out.nw; omega)
   obtain ⟨n1,hn1⟩:∃ n:Nat,(n:Int)=T.W k:=⟨(T.W k).toNat,by omega⟩
   rw [<-hn1] at y0 hwid
   have HN1:=hid hn1
   clear hn1 hy1 hy2
   have hT0:IntTab wk g (g+1) T.nw F (fun v=>if v<k then (T.W v).toNat else if v=k then 0 else 0) (fun _ _=>4611686018427387904):=hT.congr (fun v _=>by split <;> simp) (fun v _ q hq=>rfl)
   clear hT
   go_wp2
   go_loopg [21] n1 (fun gg jv wx=>∃ (j:Nat) (F:Nat->Value),jv=.int .i64 (j:Nat)/\j<=n1/\n1<=j+gg/\IntTab wx g (g+1) T.nw F (fun v=>if v<k then (T.W v).toNat else if v=k then j else 0) (fun _ _=>4611686018427387904)/\Below (w.heap.size+2) W2 wx/\w.heap.size+2<wx.heap.size)
   case atStart=>exact ⟨0,F,rfl,by omega,by omega,hT0,hB,hl⟩
   case round =>
    clear hW p0 p1 hT0 hB hl y0
    obtain ⟨j,F2,rfl,hj,hjg,hT,hB,hl⟩:=hrel
    have hj0:(0:Int)<=(j:Int):=by omega
    obtain ⟨⟨p0,p1⟩,hW⟩:=HS2.out _ hB
    by_cases hltj:j<n1
    ·have hltj':(j:Int)<(n1:Int):=by omega
     obtain ⟨fk,hfk⟩:∃ v,v=F2 k:=⟨_,rfl⟩
     have q0:wr.cell? ⟨g,k,none⟩=some fk:=by rw [hfk]; exact hT.row.cell hlt
     have HFK:=hid hfk
     clear hfk p0 p1 hW
     rename World=>w50
     go_upto_region 7 with fail
     refine wp_region_held_drew (S:=fun _=>True) (by kernel_rfl) trivial (fun hHeld=>?_)
     obtain ⟨w51,hw⟩:∃ W,W=World.drew w50:=⟨_,rfl⟩
     have kb:Below w50.heap.size w50 w51:=by rw [hw]; exact (Below.refl _ _).drew
     rw [<-hw];clear hw;replace hB:=zaZ hB (Nat.le_of_lt hl) kb;replace hl:=Nat.lt_of_lt_of_le hl kb.size;replace hT:=hT.on kb;replace q0:=cellS kb q0;clear kb
     refine tkq 0 (h:=tkq 1 (h:=tkq 2 (h:=tkq 3 (h:=tkq 4 (h:=tkq 6 (h:=tkq 7 (h:=?_)))))))
     refine rdq2 5 8 (h:=fun K hK=>?_) (h2:=fun K hK=>?_)
     ·go_simp
      refine bkq hK trivial (h:=fun hHeld=>?_)
      clear hK K
      refine rdq 8 (h:=fun K hK=>?_)
      go_simp
      go_wp2_with fail
      refine (yav w51).mono ?_
      rintro e w52 ⟨rfl,kb⟩
      replace hB:=zaZ hB (Nat.le_of_lt hl) kb;replace hl:=Nat.lt_of_lt_of_le hl kb.size;replace hT:=hT.on kb;replace q0:=cellS kb q0;clear kb
      refine bkq hK trivial (h:=fun hHeld=>?_)
      clear hK K
      refine rdq 9 (h:=fun K hK=>?_)
      go_simp
      obtain ⟨w53,hw⟩:∃ W,W=World.alloc w52 (Obj.cells #[Value.int .i64 4611686018427387904] 3):=⟨_,rfl⟩
      have kb:Below w52.heap.size w52 w53:=by rw [hw]; exact (Below.refl _ _).alloc (Nat.le_refl _) _
      have n1c:w53.cell? ⟨w52.heap.size,0,none⟩=some (Value.int .i64 4611686018427387904):=by rw [hw]; simp
      rw [<-hw];clear hw
      obtain ⟨nb_n1c,hnb⟩:∃ b,b=w52.heap.size:=⟨_,rfl⟩
      rw [<-hnb] at n1c ⊢;clear hnb;replace hB:=zaZ hB (Nat.le_of_lt hl) kb;replace hl:=Nat.lt_of_lt_of_le hl kb.size;replace hT:=hT.on kb;replace q0:=cellS kb q0;clear kb
      refine bkq hK trivial (h:=fun hHeld=>?_)
      clear hK K
      refine rdq 10 (h:=fun K hK=>?_)
      have hOwn:Own w53 (g+1) 3 1 fk j (fun _ _=>.int .i64 4611686018427387904):=by
       have:=hT.own k hlt
       rw [if_neg (Nat.lt_irrefl k),if_pos rfl,<-HFK.out] at this
       exact this
      have hgl:g+1<=w53.heap.size:=hT.row.lt
      refine yaa (by rfl) (.tmp 28) (.tmp 32) (by rfl) (g+1) fk j (fun _=>4611686018427387904) (by rfl) hOwn hgl (by omega) nb_n1c 1 (by rfl) n1c ?_
      intro v9 w9 o1 o2 o3
      obtain ⟨A9,c9,hv9⟩:=o1.shape
      subst hv9
      have hfo:∀ q,fk.ownBlock=some q->g+1<=q:=fun q e=>(hOwn.lt q e).1
      have q9:w9.cell? ⟨g,k,none⟩=some fk:=zac q0 o2 fun e=>by have:=hfo g e; omega
      have z9:w9.frozen? ⟨g,k,none⟩=false:=by
       have:=(hT.row.of_block (o2.block g hT.row.lt fun e=>by have:=hfo g e.symm; omega)).frozen k
       exact this
      have hB9:Below (w.heap.size+2) W2 w9:=hB.grown o2 (Nat.le_of_lt hl) fun q e=>by have:=hfo q e; omega
      have hl9:w.heap.size+2<w9.heap.size:=Nat.lt_of_lt_of_le hl o2.size
      have hPut:=hid (hT.put (by omega) hlt o1 (by rw [<-HFK.out]; exact o2) (by rw [<-HFK.out]; exact o3))
      refine bkq hK trivial (h:=fun hHeld=>?_)
      clear hK K
      refine tkq 11 (h:=?_)
      refine rdq 12 (h:=fun K hK=>?_)
      go_simp
      refine bkq hK trivial (h:=fun hHeld=>?_)
      clear hK K
      refine wpAnyH_done (by kernel_rfl) ?_ _
      clear hHeld
      have hN:=hPut.out.congr (n':=fun v=>if v<k then (T.W v).toNat else if v=k then j+1 else 0) (x':=fun _ _=>4611686018427387904) (fun v _=>by
        by_cases e:v=k
        ·subst e; simp
        ·simp [e]) (fun v _ q hq=>by split <;> rfl)
      have HN:=hid hN
      have hBf:=hB9.setCell (p:=⟨g,k,none⟩) hg2 (.slice A9 (j+1) c9)
      have hlf:w.heap.size+2<(w9.setCell ⟨g,k,none⟩ (.slice A9 (j+1) c9)).heap.size:=by simp; exact hl9
      clear hPut hN q9 z9 hB9
      go_wp2
      go_roundg (gk - 1)
      case measure=>omega
      case rel=>exact ⟨j+1,_,by go_num,by omega,by omega,HN.out,hBf,hlf⟩
     ·go_simp
      go_wp2_with fail
      refine (yav w51).mono ?_
      rintro e w52 ⟨rfl,kb⟩
      replace hB:=zaZ hB (Nat.le_of_lt hl) kb;replace hl:=Nat.lt_of_lt_of_le hl kb.size;replace hT:=hT.on kb;replace q0:=cellS kb q0;clear kb
      refine bkq hK trivial (h:=fun hHeld=>?_)
      clear hK K
      refine rdq2 5 9 (h:=fun K hK=>?_) (h2:=fun K hK=>?_)
      ·go_simp
       refine bkq hK trivial (h:=fun hHeld=>?_)
       clear hK K
       refine rdq 9 (h:=fun K hK=>?_)
       go_simp
       obtain ⟨w53,hw⟩:∃ W,W=World.alloc w52 (Obj.cells #[Value.int .i64 4611686018427387904] 3):=⟨_,rfl⟩
       have kb:Below w52.heap.size w52 w53:=by rw [hw]; exact (Below.refl _ _).alloc (Nat.le_refl _) _
       have n1c:w53.cell? ⟨w52.heap.size,0,none⟩=some (Value.int .i64 4611686018427387904):=by rw [hw]; simp
       rw [<-hw];clear hw
       obtain ⟨nb_n1c,hnb⟩:∃ b,b=w52.heap.size:=⟨_,rfl⟩
       rw [<-hnb] at n1c ⊢;clear hnb;replace hB:=zaZ hB (Nat.le_of_lt hl) kb;replace hl:=Nat.lt_of_lt_of_le hl kb.size;replace hT:=hT.on kb;replace q0:=cellS kb q0;clear kb
       refine bkq hK trivial (h:=fun hHeld=>?_)
       clear hK K
       refine rdq 10 (h:=fun K hK=>?_)
       have hOwn:Own w53 (g+1) 3 1 fk j (fun _ _=>.int .i64 4611686018427387904):=by
        have:=hT.own k hlt
        rw [if_neg (Nat.lt_irrefl k),if_pos rfl,<-HFK.out] at this
        exact this
       have hgl:g+1<=w53.heap.size:=hT.row.lt
       refine yaa (by rfl) (.tmp 28) (.tmp 32) (by rfl) (g+1) fk j (fun _=>4611686018427387904) (by rfl) hOwn hgl (by omega) nb_n1c 1 (by rfl) n1c ?_
       intro v9 w9 o1 o2 o3
       obtain ⟨A9,c9,hv9⟩:=o1.shape
       subst hv9
       have hfo:∀ q,fk.ownBlock=some q->g+1<=q:=fun q e=>(hOwn.lt q e).1
       have q9:w9.cell? ⟨g,k,none⟩=some fk:=zac q0 o2 fun e=>by have:=hfo g e; omega
       have z9:w9.frozen? ⟨g,k,none⟩=false:=by
        have:=(hT.row.of_block (o2.block g hT.row.lt fun e=>by have:=hfo g e.symm; omega)).frozen k
        exact this
       have hB9:Below (w.heap.size+2) W2 w9:=hB.grown o2 (Nat.le_of_lt hl) fun q e=>by have:=hfo q e; omega
       have hl9:w.heap.size+2<w9.heap.size:=Nat.lt_of_lt_of_le hl o2.size
       have hPut:=hid (hT.put (by omega) hlt o1 (by rw [<-HFK.out]; exact o2) (by rw [<-HFK.out]; exact o3))
       refine bkq hK trivial (h:=fun hHeld=>?_)
       clear hK K
       refine tkq 11 (h:=?_)
       refine rdq 12 (h:=fun K hK=>?_)
       go_simp
       refine bkq hK trivial (h:=fun hHeld=>?_)
       clear hK K
       refine wpAnyH_done (by kernel_rfl) ?_ _
       clear hHeld
       have hN:=hPut.out.congr (n':=fun v=>if v<k then (T.W v).toNat else if v=k then j+1 else 0) (x':=fun _ _=>4611686018427387904) (fun v _=>by
         by_cases e:v=k
         ·subst e; simp
         ·simp [e]) (fun v _ q hq=>by split <;> rfl)
       have HN:=hid hN
       have hBf:=hB9.setCell (p:=⟨g,k,none⟩) hg2 (.slice A9 (j+1) c9)
       have hlf:w.heap.size+2<(w9.setCell ⟨g,k,none⟩ (.slice A9 (j+1) c9)).heap.size:=by simp; exact hl9
       clear hPut hN q9 z9 hB9
       go_wp2
       go_roundg (gk - 1)
       case measure=>omega
       case rel=>exact ⟨j+1,_,by go_num,by omega,by omega,HN.out,hBf,hlf⟩
      ·go_simp
       obtain ⟨w53,hw⟩:∃ W,W=World.alloc w52 (Obj.cells #[Value.int .i64 4611686018427387904] 3):=⟨_,rfl⟩
       have kb:Below w52.heap.size w52 w53:=by rw [hw]; exact (Below.refl _ _).alloc (Nat.le_refl _) _
       have n1c:w53.cell? ⟨w52.heap.size,0,none⟩=some (Value.int .i64 4611686018427387904):=by rw [hw]; simp
       rw [<-hw];clear hw
       obtain ⟨nb_n1c,hnb⟩:∃ b,b=w52.heap.size:=⟨_,rfl⟩
       rw [<-hnb] at n1c ⊢;clear hnb;replace hB:=zaZ hB (Nat.le_of_lt hl) kb;replace hl:=Nat.lt_of_lt_of_le hl kb.size;replace hT:=hT.on kb;replace q0:=cellS kb q0;clear kb
       refine bkq hK trivial (h:=fun hHeld=>?_)
       clear hK K
       refine rdq 5 (h:=fun K hK=>?_)
       go_simp
       refine bkq hK trivial (h:=fun hHeld=>?_)
       clear hK K
       refine rdq 10 (h:=fun K hK=>?_)
       have hOwn:Own w53 (g+1) 3 1 fk j (fun _ _=>.int .i64 4611686018427387904):=by
        have:=hT.own k hlt
        rw [if_neg (Nat.lt_irrefl k),if_pos rfl,<-HFK.out] at this
        exact this
       have hgl:g+1<=w53.heap.size:=hT.row.lt
       refine yaa (by rfl) (.tmp 28) (.tmp 32) (by rfl) (g+1) fk j (fun _=>4611686018427387904) (by rfl) hOwn hgl (by omega) nb_n1c 1 (by rfl) n1c ?_
       intro v9 w9 o1 o2 o3
       obtain ⟨A9,c9,hv9⟩:=o1.shape
       subst hv9
       have hfo:∀ q,fk.ownBlock=some q->g+1<=q:=fun q e=>(hOwn.lt q e).1
       have q9:w9.cell? ⟨g,k,none⟩=some fk:=zac q0 o2 fun e=>by have:=hfo g e; omega
       have z9:w9.frozen? ⟨g,k,none⟩=false:=by
        have:=(hT.row.of_block (o2.block g hT.row.lt fun e=>by have:=hfo g e.symm; omega)).frozen k
        exact this
       have hB9:Below (w.heap.size+2) W2 w9:=hB.grown o2 (Nat.le_of_lt hl) fun q e=>by have:=hfo q e; omega
       have hl9:w.heap.size+2<w9.heap.size:=Nat.lt_of_lt_of_le hl o2.size
       have hPut:=hid (hT.put (by omega) hlt o1 (by rw [<-HFK.out]; exact o2) (by rw [<-HFK.out]; exact o3))
       refine bkq hK trivial (h:=fun hHeld=>?_)
       clear hK K
       refine tkq 11 (h:=?_)
       refine rdq 12 (h:=fun K hK=>?_)
       go_simp
       refine bkq hK trivial (h:=fun hHeld=>?_)
       clear hK K
       refine wpAnyH_done (by kernel_rfl) ?_ _
       clear hHeld
       have hN:=hPut.out.congr (n':=fun v=>if v<k then (T.W v).toNat else if v=k then j+1 else 0) (x':=fun _ _=>4611686018427387904) (fun v _=>by
         by_cases e:v=k
         ·subst e; simp
         ·simp [e]) (fun v _ q hq=>by split <;> rfl)
       have HN:=hid hN
       have hBf:=hB9.setCell (p:=⟨g,k,none⟩) hg2 (.slice A9 (j+1) c9)
       have hlf:w.heap.size+2<(w9.setCell ⟨g,k,none⟩ (.slice A9 (j+1) c9)).heap.size:=by simp; exact hl9
       clear hPut hN q9 z9 hB9
       go_wp2
       go_roundg (gk - 1)
       case measure=>omega
       case rel=>exact ⟨j+1,_,by go_num,by omega,by omega,HN.out,hBf,hlf⟩
    ·have hltj':¬ (j:Int)<(n1:Int):=by omega
     have hje:j=n1:=by omega
     have hT1:Hid (IntTab wr g (g+1) T.nw F2 (fun v=>if v<k+1 then (T.W v).toNat else 0) (fun _ _=>4611686018427387904)):=hT.congr (fun v _=>by
      by_cases e:v<k
      ·rw [if_pos e,if_pos (by omega)]
      ·rw [if_neg e]
       by_cases e2:v=k
       ·subst e2
        rw [if_pos rfl,if_pos (by omega),hje]
        have:=HN1.out
        omega
       ·rw [if_neg e2,if_neg (by omega)]) (fun v _ q hq=>rfl)
     have HB:=hid hB
     clear hT hB hje
     go_wp2
     go_roundg (gK - 1)
     case measure=>omega
     case rel=>exact ⟨k+1,F2,by go_num,by omega,by omega,hT1.out,HB.out,hl⟩
  ·have hlt':¬ (k:Int)<(T.nw:Int):=by omega
   have hTf:Hid (IntTab wk g (g+1) T.nw F (fun v=>(T.W v).toNat) (fun _ _=>4611686018427387904)):=hT.congr (fun v hv=>if_pos (by omega)) (fun v _ q hq=>rfl)
   clear hT
   go_wp2
   go_ret
   exact ⟨g,F,rfl,by omega,hTf.out,hW⟩
def Trel.bwE (T:Trel) (y:Nat->Nat->Int) (next:Nat->Int) (i:Nat):Nat->Nat->Int
 | 0,_=>4611686018427387904
 | j+1,v=>if (T.fr i j).toNat=v then min (T.bwE y next i j v) (capI (y i j) (next (T.to i j).toNat)) else T.bwE y next i j v
def Trel.bw (T:Trel) (y:Nat->Nat->Int):Nat->Nat->Int
 | 0,v=>if v=0 then 0 else 4611686018427387904
 | r+1,v=>T.bwE y (T.bw y r) (T.n - (r+1)) (T.el (T.n - (r+1))) v
def Trel.bwX (T:Trel) (y:Nat->Nat->Int) (i j u v:Nat):Int:=if i<u then T.bw y (T.n - u) v else if u=i then T.bwE y (T.bw y (T.n - (i+1))) i j v else 4611686018427387904
def Costs (T:Trel) (y:Nat->Nat->Int):Prop:=∀ i,i<T.n->∀ j,j<T.el i->0<=y i j/\y i j<=2147483648
section
variable {T:Trel} {y:Nat->Nat->Int}
theorem Trel.bwE_cost {next:Nat->Int} {i:Nat} (hn:∀ v,Cost (next v)):∀ j,(∀ q,q<j->Cost (y i q))->∀ v,Cost (T.bwE y next i j v):=by
 intro j
 induction j with
 | zero=>intro _ v; show Cost 4611686018427387904; unfold Cost; omega
 | succ j ih =>
  intro hy v
  have h1:=ih (fun q hq=>hy q (by omega)) v
  show Cost (if _ then _ else _)
  split
  ·exact ybk h1 (yaF (hy j (by omega)) (hn _))
  ·exact h1
theorem Costs.cost (h:Costs T y) {i j:Nat} (hi:i<T.n) (hj:j<T.el i):Cost (y i j):=by
 have:=h i hi j hj
 unfold Cost
 omega
theorem Trel.bw_cost (h:Costs T y):∀ r,r<=T.n->∀ v,Cost (T.bw y r v):=by
 intro r
 induction r with
 | zero=>intro _ v; show Cost (if v=0 then 0 else _); unfold Cost; split <;> omega
 | succ r ih =>
  intro hr v
  exact Trel.bwE_cost (ih (by omega)) _ (fun q hq=>h.cost (by omega) hq) v
theorem Trel.bwX_cost (h:Costs T y) {i j:Nat} (hi:i<T.n) (hj:j<=T.el i) (u v:Nat):Cost (T.bwX y i j u v):=by
 unfold Trel.bwX
 split
 ·exact Trel.bw_cost h _ (by omega) _
 ·split
  ·exact Trel.bwE_cost (Trel.bw_cost h _ (by omega)) _ (fun q hq=>h.cost hi (by omega)) _
  ·unfold Cost; omega
theorem Trel.bwX_put (i j u v:Nat) {fn tn:Nat} (hf:(T.fr i j).toNat=fn) (ht:(T.to i j).toNat=tn) :
  (fun u' j'=>if u'=i/\j'=fn then min (T.bwX y i j i fn) (capI (y i j) (T.bwX y i j (i+1) tn)) else T.bwX y i j u' j') u v=T.bwX y i (j+1) u v:=by
 have e1:T.bwX y i j i fn=T.bwE y (T.bw y (T.n - (i+1))) i j fn:=by
  unfold Trel.bwX
  rw [if_neg (by omega),if_pos rfl]
 have e2:T.bwX y i j (i+1) tn=T.bw y (T.n - (i+1)) tn:=by
  unfold Trel.bwX
  rw [if_pos (by omega)]
 simp only [e1,e2]
 by_cases h:i<u
 ·rw [if_neg (by omega)]
  unfold Trel.bwX
  rw [if_pos h,if_pos h]
 ·by_cases h2:u=i
  ·subst h2
   have e3:T.bwX y u (j+1) u v=if (T.fr u j).toNat=v then min (T.bwE y (T.bw y (T.n - (u+1))) u j v) (capI (y u j) (T.bw y (T.n - (u+1)) (T.to u j).toNat)) else T.bwE y (T.bw y (T.n - (u+1))) u j v:=by
    show (if u<u then _ else if u=u then T.bwE y (T.bw y (T.n - (u+1))) u (j+1) v else _)=_
    rw [if_neg (by omega),if_pos rfl]
    rfl
   rw [e3,hf,ht]
   by_cases h3:v=fn
   ·subst h3
    rw [if_pos ⟨rfl,rfl⟩,if_pos rfl]
   ·rw [if_neg fun hh=>h3 hh.2,if_neg fun hh=>h3 hh.symm]
    unfold Trel.bwX
    rw [if_neg (by omega),if_pos rfl]
  ·rw [if_neg fun hh=>h2 hh.1]
   unfold Trel.bwX
   rw [if_neg h,if_neg h2,if_neg h,if_neg h2]
theorem Trel.bwX_next {i:Nat} (hi:i<T.n) (u v:Nat):T.bwX y i (T.el i) u v=if i<=u then T.bw y (T.n - u) v else 4611686018427387904:=by
 unfold Trel.bwX
 by_cases h:i<u
 ·rw [if_pos h,if_pos (by omega)]
 ·rw [if_neg h]
  by_cases h2:u=i
  ·subst h2
   rw [if_pos rfl,if_pos (Nat.le_refl _)]
   have e:T.n - u=(T.n - (u+1))+1:=by omega
   rw [e]
   show _=T.bwE y (T.bw y (T.n - (u+1))) (T.n - (T.n - (u+1)+1)) (T.el (T.n - (T.n - (u+1)+1))) v
   rw [show T.n - (T.n - (u+1)+1)=u by omega]
  ·rw [if_neg h2,if_neg (by omega)]
theorem Trel.bwX_first {i:Nat} (u v:Nat):T.bwX y i 0 u v=if i+1<=u then T.bw y (T.n - u) v else 4611686018427387904:=by
 unfold Trel.bwX
 by_cases h:i<u
 ·rw [if_pos h,if_pos (by omega)]
 ·rw [if_neg h,if_neg (show ¬ i+1<=u by omega)]
  split
  ·rfl
  ·rfl
end
theorem yaM (T:Trel) (A B V:Option Addr) (c d vc:Nat) (y:Nat->Nat->Int) (w:World) (h:T.Reads w A B) (hs:T.shapeE=0) (hv:IntRows w V T.n T.el y) :
  Calls Tryz.prog 181 #[.agg #[.slice A T.nw c,.slice B T.n d],.slice V T.n vc] w fun e w'=>e=.returned (.int .i64 0)/\Below w.heap.size w w':=by
 obtain ⟨RB,hRB⟩:∃ o,o=(Obj.cells #[.slice A T.nw c,.slice B T.n d] 53):=⟨_,rfl⟩
 have hB0:Below (w.heap.size+1) (w.alloc RB) (w.alloc RB):=Below.refl _ _
 have HS:Hid (∀ w',Below (w.heap.size+1) (w.alloc RB) w'->(w'.cell? ⟨w.heap.size,0,none⟩=some (.slice A T.nw c)/\w'.cell? ⟨w.heap.size,1,none⟩=some (.slice B T.n d))/\Below w.heap.size w w'):=fun w' hB=>by
  have hB':=zaO hB
  subst hRB
  exact ⟨⟨tbox hB rfl,tbox hB rfl⟩,hB'⟩
 obtain ⟨⟨p0,p1⟩,hW⟩:=HS.out _ hB0
 go_enter Tryz.func181, Tryz.ntmps181
 go_wp2_with fail
 rw [<-hRB]
 refine (zdY T A B c d _ (h.on hW)).mono ?_
 rintro e w1 ⟨rfl,hb⟩
 have hB1:=zav hB0 hb
 rw [hs]
 have HR:=hid h
 have HV:=hid hv
 have hn64:=(Trel.shape_of hs).n64
 clear hW p0 p1 hb hB0 hRB h hv hs
 obtain ⟨⟨p0,p1⟩,hW⟩:=HS.out _ hB1
 go_wp2
 go_loopg [22] T.n (fun gg iv wx=>∃ k:Nat,iv=.int .i64 (k:Nat)/\k<=T.n/\T.n<=k+gg/\Below w1.heap.size w1 wx)
 case atStart=>exact ⟨0,rfl,by omega,by omega,Below.refl _ _⟩
 case round =>
  obtain ⟨k,rfl,hk,hkg,hb⟩:=hrel
  have hk0:(0:Int)<=(k:Int):=by omega
  replace p0:=cellS hb p0;replace p1:=cellS hb p1
  have hWr:=onS hW hb
  clear hW
  by_cases hlt:k<T.n
  ·have hlt':(k:Int)<(T.n:Int):=by omega
   obtain ⟨b,o,E,ec,rfl,_,x0,_,_,_,_⟩:=(HR.out.on hWr).sec hlt
   obtain ⟨vb,vo,R,rc,rfl,_,x1,_,_,_,_⟩:=(HV.out.on hWr) k hlt
   have hne:((T.el k:Int) != (T.el k:Int))=false:=by simp
   go_wp2
   go_roundg (gk - 1)
   case measure=>omega
   case rel=>exact ⟨k+1,by go_num,by omega,by omega,hb⟩
  ·have hlt':¬ (k:Int)<(T.n:Int):=by omega
   go_wp2
   go_ret
   exact ⟨rfl,hWr⟩
end Go.Proofs.YtgekjfpapmlndaaGreat