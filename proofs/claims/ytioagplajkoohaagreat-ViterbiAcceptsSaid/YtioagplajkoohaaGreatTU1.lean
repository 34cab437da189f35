/- Merged texts of a claim: Base, Tk, IntsAll, FldP, Own, Copy, NatLow, NatLo2, FldQ, TabRow, TabAll, ElAll, Elim, Same09, Chk12, Null, CodeE, Dual12, WordsAll, AppCells, NatA, NatB, NatC, RatA, RatB, Rat13, RatC, PolyA, PAddAll, PMulAll, RefEval, PolyC, WtsAll, PatAll, UndAll, SeesCode, Gf1, Gf2, Gf3, Gf4, Gf5, GfObj, GfMul, GfDot, GfChk, GfNew, DTab, MAdd, MCl, MEach, MElim, MCan, MChk, MOpen, MCano, MKer, Spc, SpOpen, PCode, PDual, ExpN, Dot04, Word12, Syn12, Tab55, RefRight, Nats, Right, RightLaw, Leaders, Between55, LeadersLaw, RecFirst, RecRed, RecFrom, Recover, RefRec, RecLaw, AppMany, Has12, Rest10, ConRow, ConCode, ConTab, ConRec, ConLaw, SeesW, Trel, Shape, Less, Proper, TrelProper, Repeat, NumTab, Counting, NumRows, Valued, Forward, Paths, FewT, RefForward, RefPaths, Same11, SynMem, Syn, Turn09, Cmp11, SameN, RefIs, Check47, Cont47, TChk, ChkLaw, WordsMath, ZeroV, ZeroR, BoundV, MaxV, Proves, RefCP, CheckP, SeesClaim, PotLaw, MinPlus, IntTab, Bwd, IRows, IValued, IBack, IVals, BwdMath, Along, AliveAll, PotTop, Wt11, SoundLaw, IRepeat, VPot, RPot, Near23, PotsLaw. -/
import Derived.Test.YtioagplajkoohaaGreatTQ17
import Derived.Test.YtioagplajkoohaaGreatRows
import Derived.WalkKit
import Derived.WalkSpells
import Derived.WalkLawsBesides
import Derived.Deep.OwnRows
import Derived.ProofKit
import Derived.Deep.RegionHeld3
import Derived.Deep.Slices
import Derived.Lib.SmallJoins
import Derived.Deep.LoopGhost
import Derived.Deep.QuietTactic
import Derived.BigQuiet
import Derived.Deep.Cut
import Derived.Deep.CutBlock
import Derived.Deep.DeepCutAuto
import Derived.IntWalk
import Derived.StillTailTactics
import Derived.SizedLaws
import Derived.Deep.AppendSrc
import Derived.Maps.AppendAt
import Derived.Laws.Bits64b
import Derived.Shelf.Small.Bits
import Derived.Laws.CopyOwn
import Derived.Laws.StructEq
namespace Go.Proofs.YtioagplajkoohaaGreat
set_option maxRecDepth 100000
set_option maxHeartbeats 32000000
open Go.RowKit
open Go.ChangeShapes Go.WideShapes Go.ChangeAt
open Go.Shelf
theorem listCell_app {l x:List Int} {k j:Nat} (h:k<l.length):listCell l k j=listCell (l ++ x) k j:=by
 unfold listCell
 rw [List.getD_eq_getElem?_getD,List.getD_eq_getElem?_getD,List.getElem?_append_left h]
theorem listCell_last {l:List Int} {x:Int} {j:Nat}:listCell (l ++ [x]) l.length j=.int .i64 x:=by
 unfold listCell
 simp [List.getD_eq_getElem?_getD]
theorem OwnL.cells {w:World} {base:Nat} {R:Value} {l:List Int} (x:Int) (h:OwnL w base R l):Own w base 3 1 R l.length (listCell (l ++ [x])):=h.congr fun _ hi _ _=>listCell_app hi
theorem wpList_append_lint {w:World} {ops:Array Oper} {rest:List Oper} {o:Oper} {a:Act} {Q:Exit->Act->World->Prop} (hgd:o.guard=none) (sl x:Operand)
  (ho:o.op=.call { callee:=.builtin .append,args:=#[sl,x],argTypes:=#[22, 22] })
  {base:Nat} {v:Value} {l:List Int} (h:OwnL w base v l) (hv:a.eval sl=v) {ad:Addr} {c:Nat} {r:Int} (hx:a.eval x=.slice (some ad) 1 c)
  (hcell:w.cell? (ad.add 0)=some (.int .i64 r)) (hbase:base<=w.heap.size) (hN:l.length<=1048576)
  (K:∀ v' w',OwnL w' base v' (l ++ [r])->w.grownBy w' v.ownBlock->(v'.ownBlock=v.ownBlock∨v'.ownBlock=some w.heap.size)->wpList Tryz.prog ops Q rest (a.put o.dst v') w'):wpList Tryz.prog ops Q (o :: rest) a w:=by
 obtain ⟨i0,qi0,qz0,qz1,qz2⟩:=info_parts Tryz.infoInt
 refine zaK w hgd sl x _ ho base 3 i0 _ 1 8 Tryz.underlying22 qi0 qz0 qz1 qz2 rfl (by omega) v l.length _ hv (h.cells r) ad c hx (fun j hj=>by
   obtain rfl:j=0:=by omega
   rw [listCell_last]
   exact hcell) (fun _ _=>by rw [listCell_last]; rfl) (by unfold maxLen; omega) (by omega) hbase ?_
 intro v' w3 hown3 hg3 hat3
 exact K v' w3 (by unfold OwnL; rw [List.length_append]; exact hown3) hg3 hat3
namespace Fie
variable {K:Type} [Add K] [Mul K] [Neg K] [Zero K] [One K] (F:Fie K)
include F
end Fie
open Go
def WordErrs (q N l:Nat) (u:Nat->Int):List (Prop × Int):=[(l=N,4),(AllIn q l u,2)]
theorem list12_any (P M:Nat) (A:Option Addr) (k c:Nat) (U:Option Addr) (l d N:Nat) (u:Nat->Int) (w:World) (hf:FldOk P M) (h:IntsR w w.heap.size U l u) (hn:l<=9223372036854775807) :
  Calls Tryz.prog 41 #[.agg #[.int .i64 (P:Nat),.int .i64 (M:Nat),.slice A k c],.slice U l d,.int .i64 (N:Nat)] w (ErrsPost (WordErrs (P ^ M) N l u) w):=by
 have HU:=hid h
 clear h
 have hB:Below w.heap.size w (w.alloc (.cells #[.int .i64 (P:Nat),.int .i64 (M:Nat),.slice A k c] 24)):=(Below.refl _ _).alloc (Nat.le_refl _) _
 have rf:=zad (w:=w) (a:=.int .i64 (P:Nat)) (b:=.int .i64 (M:Nat)) (c:=.slice A k c) (T := 24)
 obtain ⟨w0,hw0⟩:∃ W,W=w.alloc (.cells #[.int .i64 (P:Nat),.int .i64 (M:Nat),.slice A k c] 24):=⟨_,rfl⟩
 rw [<-hw0] at hB rf
 go_enter Tryz.func41, Tryz.ntmps41
 go_upto_region 1 with fail
 rw [<-hw0]
 clear hw0
 have q0:w0.cell? ⟨w.heap.size,0,none⟩=some (.int .i64 (P:Nat)):=rf.cell (i:=0) (by omega)
 have q1:w0.cell? ⟨w.heap.size,1,none⟩=some (.int .i64 (M:Nat)):=rf.cell (i:=1) (by omega)
 have q2:w0.cell? ⟨w.heap.size,2,none⟩=some (.slice A k c):=rf.cell (i:=2) (by omega)
 clear rf
 by_cases hl:l=N
 ·have HL:=hid hl
  have hl':((l:Int) != (N:Int))=false:=by simp [hl]
  clear hl
  go_wp2_with fail
  refine (zd6 P M A k c U l d u w0 hf (HU.out.on hB) hn).mono ?_
  rintro e w1 ⟨v,rfl,hv,kb⟩
  have HV:=hid hv
  replace hB:=onS hB kb
  clear hv kb q0 q1 q2
  go_wp2
  go_ret
  refine errsPost (.inr ⟨HL.out,?_⟩) hB
  rcases HV.out with ⟨h1,h2⟩ | ⟨h1,h2⟩
  ·exact .inr ⟨h2,h1⟩
  ·exact .inl ⟨h2,h1⟩
 ·have HL:=hid hl
  have hl':((l:Int) != (N:Int))=true:=by simp; omega
  clear hl
  go_wp2
  go_ret
  exact errsPost (.inl ⟨HL.out,rfl⟩) hB
def SaysB (p:Prop) (w:World) (r:Ending) (w':World):Prop:=∃ b:Bool,r=.returned (.bool b)/\(b=true↔p)/\Below w.heap.size w w'
theorem proves_any (T:Trel) (e nd:Nat->Nat) (TA TB:Option Addr) (ca cb:Nat) (D:Int) (PA:Option Addr) (pn pc:Nat) (ln:Nat->Nat) (L:Nat->Nat->Int) (w:World) (hT:T.Reads w TA TB) (hp:T.Proper) (hz:T.ZP e nd) (hP:IntRows w PA pn ln L) :
  Calls Tryz.prog 133 #[.agg #[.slice TA T.nw ca,.slice TB T.n cb],.agg #[.int .i64 D,.slice PA pn pc]] w (SaysB (PotOk T nd D pn ln L) w):=by
 have HR:=hid hT
 have HP:=hid hp
 have HZ:=hid hz
 have HPR:=hid hP
 have HSH:=hid hp.shape
 have hn64:=hp.shape.n64
 have HNW1:=hid hp.shape.nw
 have HW:Hid (∀ i,i<=T.n->1<=T.W i/\T.W i<=65536):=hid fun i hi=>hp.shape.wid hi
 clear hT hp hz hP
 have rt:=zae (w:=w) (a:=.slice TA T.nw ca) (b:=.slice TB T.n cb) (T := 74)
 have hB:Below w.heap.size w (w.alloc (.cells #[.slice TA T.nw ca,.slice TB T.n cb] 74)):=(Below.refl _ _).alloc (Nat.le_refl _) _
 have hsz:(w.alloc (.cells #[.slice TA T.nw ca,.slice TB T.n cb] 74)).heap.size=w.heap.size+1:=by simp
 obtain ⟨w1,hw1⟩:∃ W,W=w.alloc (.cells #[.slice TA T.nw ca,.slice TB T.n cb] 74):=⟨_,rfl⟩
 rw [<-hw1] at hB rt hsz
 have rp:=zae (w:=w1) (a:=.int .i64 D) (b:=.slice PA pn pc) (T := 81)
 have kb:Below w1.heap.size w1 (w1.alloc (.cells #[.int .i64 D,.slice PA pn pc] 81)):=(Below.refl _ _).alloc (Nat.le_refl _) _
 obtain ⟨w2,hw2⟩:∃ W,W=w1.alloc (.cells #[.int .i64 D,.slice PA pn pc] 81):=⟨_,rfl⟩
 rw [<-hw2] at kb rp
 replace rt:=zaa rt kb
 replace hB:=onS hB kb
 rw [hsz] at rp
 go_enter Tryz.func133, Tryz.ntmps133
 go_upto_region 1 with fail
 rw [<-hw1,<-hw2]
 clear hw1 hw2 kb hsz
 obtain ⟨b0,hb0⟩:∃ b,b=w.heap.size:=⟨_,rfl⟩
 obtain ⟨b1,hb1⟩:∃ b,b=w.heap.size+1:=⟨_,rfl⟩
 rw [<-hb0] at rt
 rw [<-hb1] at rp
 rw [<-hb1,<-hb0]
 clear hb0 hb1
 have HBOX:Hid (∀ X,Below w2.heap.size w2 X->(X.cell? ⟨b0,0,none⟩=some (.slice TA T.nw ca)/\X.cell? ⟨b0,1,none⟩=some (.slice TB T.n cb))/\X.cell? ⟨b1,0,none⟩=some (.int .i64 D)/\X.cell? ⟨b1,1,none⟩=some (.slice PA pn pc)):=hid fun X hx=>⟨⟨(zaa rt hx).cell (i:=0) (by omega),(zaa rt hx).cell (i:=1) (by omega)⟩,(zaa rp hx).cell (i:=0) (by omega),(zaa rp hx).cell (i:=1) (by omega)⟩
 have HB:=hid hB
 clear hB rt rp
 obtain ⟨⟨p0,p1⟩,q0,q1⟩:=HBOX.out _ (Below.refl _ _)
 by_cases hpn:pn=T.nw
 rotate_left
 ·have hne:((pn:Int) != (T.nw:Int))=true:=by simp; omega
  have HNO:Hid (¬ PotOk T nd D pn ln L):=hid fun h=>hpn h.1
  clear hpn
  go_wp2
  go_ret
  exact ⟨false,rfl,⟨fun h=>(nomatch h),fun h=>absurd h HNO.out⟩,HB.out⟩
 subst hpn
 have hne:((T.nw:Int) != (T.nw:Int))=false:=by simp
 have hnw65:T.nw<=65:=by have:=HNW1.out; omega
 go_upto_region 4 with fail
 clear hne p0 p1 q0 q1
 go_loopg [5] T.nw (fun gg iv wx=>∃ i:Nat,iv=.int .i64 (i:Nat)/\i<=T.nw/\T.nw<=i+gg/\Hid (∀ i',i'<i->T.rowOk ln L i')/\Below w2.heap.size w2 wx)
 case atStart=>exact ⟨0,rfl,by omega,by omega,hid fun i' h=>absurd h (by omega),Below.refl _ _⟩
 case round =>
  obtain ⟨i,rfl,hi,hig,HOK,hB⟩:=hrel
  have hi0:(0:Int)<=(i:Int):=by omega
  have KB:=hid hB
  obtain ⟨w3,hw3⟩:∃ X,X=wr:=⟨_,rfl⟩
  subst hw3
  clear hB
  obtain ⟨⟨p0,p1⟩,q0,q1⟩:=HBOX.out _ KB.out
  by_cases hin:i<T.nw
  ·have hin':(i:Int)<(T.nw:Int):=by omega
   obtain ⟨pb,po,RA,rc,hPA,_,x0,hc1,hc2,hrow,hrng⟩:=HPR.out i hin
   subst hPA
   replace x0:=cellS (onS HB.out KB.out) x0
   have HROW:=hid hrow
   have HRNG:=hid hrng
   obtain ⟨ab,ao,hAe,_,a0,_⟩:=(HR.out.on (onS HB.out KB.out)).width hin
   subst hAe
   obtain ⟨m,hm⟩:∃ x,x=ln i:=⟨_,rfl⟩
   rw [<-hm] at x0 hc1 HROW
   obtain ⟨wv,hwv⟩:∃ x,x=T.W i:=⟨_,rfl⟩
   rw [<-hwv] at a0
   have HM:=hid hm
   have HWV:=hid hwv
   have hwr:=HW.out i (by have:=HNW1.out; omega)
   rw [<-hwv] at hwr
   clear hm hwv hrow hrng
   go_upto_region 6 with fail
   refine wp_region_held_drew (S:=fun X=>X.cell? ⟨b0,0,none⟩=some (.slice (some ⟨ab,ao,none⟩) T.nw ca)/\X.cell? ⟨b1,1,none⟩=some (.slice (some ⟨pb,po,none⟩) T.nw pc)/\X.cell? ⟨pb,po+i,none⟩=some (.slice RA m rc)/\X.cell? ⟨ab,ao+i,none⟩=some (.int .i64 wv)) (by kernel_rfl) ⟨cellS (Below.refl _ _).drew p0,cellS (Below.refl _ _).drew q1,cellS (Below.refl _ _).drew x0,cellS (Below.refl _ _).drew a0⟩ (fun hHeld=>?_)
   obtain ⟨w4,hw⟩:∃ W,W=World.drew w3:=⟨_,rfl⟩
   have kb:Below w3.heap.size w3 w4:=by rw [hw]; exact (Below.refl _ _).drew
   rw [<-hw] at hHeld ⊢
   clear hw a0 p0 p1 q0 q1
   replace KB:=hid (onS KB.out kb)
   replace x0:=cellS kb x0
   clear kb
   by_cases hmw:(m:Int)=wv
   rotate_left
   ·have hne:((m:Int) != wv)=true:=by simpa using hmw
    have HNO:Hid (¬ PotOk T nd D T.nw ln L):=hid fun h=>hmw (by rw [HM.out,HWV.out]; exact (h.2.1 i hin).1)
    clear hmw
    refine tkq 0 (h:=tkq 1 (h:=tkq 2 (h:=tkq 3 (h:=tkq 4 (h:=tkq 5 (h:=tkq 6 (h:=tkq 7 (h:=tkq 8 (h:=tkq 9 (h:=tkq 10 (h:=tkq 11 (h:=?_))))))))))))
    refine wpAnyH_done (by kernel_rfl) ?_ _
    clear hHeld x0
    go_wp2
    go_ret
    exact ⟨false,rfl,⟨fun h=>(nomatch h),fun h=>absurd h HNO.out⟩,onS HB.out KB.out⟩
   have hne:((m:Int) != wv)=false:=by simpa using hmw
   have HMW:=hid hmw
   clear hmw
   refine tkq 0 (h:=tkq 1 (h:=tkq 2 (h:=tkq 3 (h:=tkq 4 (h:=tkq 5 (h:=tkq 6 (h:=tkq 7 (h:=tkq 8 (h:=tkq 9 (h:=tkq 10 (h:=tkq 11 (h:=?_))))))))))))
   refine wpAnyH_done (by kernel_rfl) ?_ _
   clear hHeld hne
   have hm65:m<=65536:=by have:=HMW.out; omega
   have HX0:=hid x0
   clear x0
   obtain ⟨gO,hgO⟩:∃ x,x=gk:=⟨_,rfl⟩
   subst hgO
   go_upto_region 9 with fail
   go_loopg [6] m (fun gg jv wx=>∃ j:Nat,jv=.int .i64 (j:Nat)/\j<=m/\m<=j+gg/\Hid (∀ v,v<j->L i v<=4611686018427387904)/\wx=w4)
   case atStart=>exact ⟨0,rfl,by omega,by omega,hid fun v h=>absurd h (by omega),rfl⟩
   case round =>
    obtain ⟨j,rfl,hj,hjg,HJ,hwx⟩:=hrel
    obtain rfl:w4=wr:=hwx.symm
    have hj0:(0:Int)<=(j:Int):=by omega
    obtain ⟨⟨p0,p1⟩,q0,q1⟩:=HBOX.out _ KB.out
    have x0:=HX0.out
    by_cases hjl:j<m
    ·have hjl':(j:Int)<(m:Int):=by omega
     obtain ⟨rb,ro,hRA,_,y0⟩:=(HROW.out.on (onS HB.out KB.out)).at hjl
     subst hRA
     obtain ⟨v,hv⟩:∃ x,x=L i j:=⟨_,rfl⟩
     rw [<-hv] at y0
     have HVV:=hid hv
     clear hv
     by_cases hvb:v<=4611686018427387904
     ·have hgt:¬ 4611686018427387904<v:=by omega
      have HJ2:Hid (∀ v,v<j+1->L i v<=4611686018427387904):=hid fun t ht=>by
       by_cases et:t=j
       ·rw [et,<-HVV.out]; exact hvb
       ·exact HJ.out t (by omega)
      go_wp2
      go_roundg (gk - 1)
      case measure=>omega
      case rel=>exact ⟨j+1,by go_num,by omega,by omega,HJ2,rfl⟩
     ·have hgt:4611686018427387904<v:=by omega
      have HNO:Hid (¬ PotOk T nd D T.nw ln L):=hid fun h=>hvb (by rw [HVV.out]; exact (h.2.1 i hin).2 j (by rw [<-HM.out]; exact hjl))
      go_wp2
      go_ret
      exact ⟨false,rfl,⟨fun h=>(nomatch h),fun h=>absurd h HNO.out⟩,onS HB.out KB.out⟩
    ·have hjl':¬ (j:Int)<(m:Int):=by omega
     obtain rfl:m=j:=by omega
     have HOK2:Hid (∀ i',i'<i+1->T.rowOk ln L i'):=hid fun i' hi'=>by
      by_cases ei:i'=i
      ·rw [ei]
       exact ⟨by rw [<-HM.out,<-HWV.out]; exact HMW.out,fun v hv=>HJ.out v (by rw [HM.out]; exact hv)⟩
      ·exact HOK.out i' (by omega)
     go_wp2
     go_roundg (gO - 1)
     case measure=>omega
     case rel=>exact ⟨i+1,by go_num,by omega,by omega,HOK2,KB.out⟩
  ·have hin':¬ (i:Int)<(T.nw:Int):=by omega
   obtain rfl:i=T.nw:=by omega
   go_upto_region 13 with fail
   have HOKA:=HOK
   have hWOK:Hid (∀ i v,i<=T.n->v<(T.W i).toNat->L i v<=4611686018427387904):=hid fun i v hi hv=>(HOKA.out i (by have:=HNW1.out; omega)).2 v (by have:=(HOKA.out i (by have:=HNW1.out; omega)).1; omega)
   obtain ⟨⟨p0,p1⟩,q0,q1⟩:=HBOX.out _ KB.out
   go_wp2_with fail
   refine (zg4 T e nd TA TB ca cb w3 (HR.out.on (onS HB.out KB.out)) HP.out HZ.out).mono ?_
   rintro r w4 ⟨zv,rfl,hzv,kb⟩
   obtain ⟨zb,zo,zc,hzs,_,_,_,_,hzc⟩:=hzv.form (by have:=HNW1.out; omega)
   subst hzs
   have HZC:Hid (∀ i,i<T.n->w4.cell? ⟨zb,zo+i,none⟩=some (.int .i64 (nd i:Nat))):=hid fun i hi=>by
    have h1:=hzc i (by have:=HNW1.out; omega) 0 (by omega)
    rwa [Nat.mul_one,Nat.add_zero] at h1
   clear hzc
   replace KB:=hid (onS KB.out kb)
   clear kb hzv p0 p1 q0 q1 hi0 hig
   go_upto_region 15 with fail
   go_loopg [8] T.n (fun gg iv wx=>∃ i:Nat,iv=.int .i64 (i:Nat)/\i<=T.n/\T.n<=i+gg/\Hid (∀ i',i'<i->∀ j,j<T.el i'->L (i'+1) (T.to i' j).toNat<=T.mostR nd L i' j)/\Below w4.heap.size w4 wx)
   case atStart=>exact ⟨0,rfl,by omega,by omega,hid fun i' h=>absurd h (by omega),Below.refl _ _⟩
   case round =>
    obtain ⟨i,rfl,hi,hig,HED0,hB⟩:=hrel
    have hi0:(0:Int)<=(i:Int):=by omega
    have K4:=hid hB
    obtain ⟨w5,hw5⟩:∃ X,X=wr:=⟨_,rfl⟩
    subst hw5
    clear hB
    obtain ⟨⟨p0,p1⟩,q0,q1⟩:=HBOX.out _ (onS KB.out K4.out)
    by_cases hin:i<T.n
    ·have hin':(i:Int)<(T.n:Int):=by omega
     obtain ⟨eb,eo,E,ec,hBe,heb,e0w,hec,hec2,hEd,hI64⟩:=HR.out.sec hin
     have HED:=hid hEd
     have HE0:=hid e0w
     subst hBe
     obtain ⟨el,hel⟩:∃ x,x=T.el i:=⟨_,rfl⟩
     have hel2:el<=262144:=by rw [hel]; exact HSH.out.elb hin
     rw [<-hel] at HE0 HED
     have HEL:=hid hel
     clear hel hEd hI64 hec hec2 e0w
     obtain ⟨pb,po,RA,rc,hPA,_,x0w,_,_,hrow,hrng⟩:=HPR.out i (by have:=HNW1.out; omega)
     subst hPA
     obtain ⟨pb2,po2,RB,rd,hPA2,_,x1w,_,_,hrow2,_⟩:=HPR.out (i+1) (by have:=HNW1.out; omega)
     injection hPA2 with hPA2
     injection hPA2 with g1 g2
     subst g1 g2
     have HX0:=hid x0w
     have HX1:=hid x1w
     have HROW:=hid hrow
     have HROW2:=hid hrow2
     have HRNG:=hid hrng
     have HLN0:=hid (HOKA.out i (by have:=HNW1.out; omega)).1
     have HLN1:=hid (HOKA.out (i+1) (by have:=HNW1.out; omega)).1
     clear x0w x1w hrow hrow2 hrng
     obtain ⟨gO,hgO⟩:∃ x,x=gk:=⟨_,rfl⟩
     subst hgO
     go_upto_region 18 with fail
     clear p0 p1 q0 q1
     go_loopg [9] el (fun gg jv wx=>∃ j:Nat,jv=.int .i64 (j:Nat)/\j<=el/\el<=j+gg/\Hid (∀ j',j'<j->L (i+1) (T.to i j').toNat<=T.mostR nd L i j')/\Below w5.heap.size w5 wx)
     case atStart=>exact ⟨0,rfl,by omega,by omega,hid fun i' h=>absurd h (by omega),Below.refl _ _⟩
     case round =>
      obtain ⟨j,rfl,hj,hjg,HJ,hBx⟩:=hrel
      have hj0:(0:Int)<=(j:Int):=by omega
      have K5:=hid (onS K4.out hBx)
      have HBX:=hid hBx
      obtain ⟨w6,hw6⟩:∃ X,X=wr:=⟨_,rfl⟩
      subst hw6
      clear hBx
      obtain ⟨⟨p0,p1⟩,q0,q1⟩:=HBOX.out _ (onS KB.out K5.out)
      have hKW:=onS HB.out (onS KB.out K5.out)
      have e0:=cellS hKW HE0.out
      by_cases hjl:j<el
      ·have hjl':(j:Int)<(el:Int):=by omega
       obtain ⟨xb,xo,hEe,hxb,y0,y1,y2⟩:=zaS HED.out hjl
       subst hEe
       replace y0:=cellS hKW y0
       replace y1:=cellS hKW y1
       replace y2:=cellS hKW y2
       have hins:=HSH.out.ins i hin j (by rw [<-HEL.out]; exact hjl)
       obtain ⟨f0,f1,t0,t1⟩:=hins
       obtain ⟨fu,hfu⟩:∃ x:Nat,x=(T.fr i j).toNat:=⟨_,rfl⟩
       obtain ⟨tu,htu⟩:∃ x:Nat,x=(T.to i j).toNat:=⟨_,rfl⟩
       have hf:T.fr i j=(fu:Int):=by omega
       have ht:T.to i j=(tu:Int):=by omega
       have hfu2:fu<ln i:=by have:=HLN0.out; omega
       have htu2:tu<ln (i+1):=by have:=HLN1.out; omega
       rw [hf] at y0
       rw [ht] at y2
       have HFU:=hid hf
       have HTU:=hid ht
       obtain ⟨lb,hlb⟩:∃ x:Int,x=T.lb i j:=⟨_,rfl⟩
       rw [<-hlb] at y1
       have HLB:=hid hlb
       obtain ⟨fb,fo,hRA,_,l0w⟩:=HROW.out.at hfu2
       subst hRA
       obtain ⟨tb,tO,hRB,_,l1w⟩:=HROW2.out.at htu2
       subst hRB
       obtain ⟨l0,hl0⟩:∃ x,x=L i fu:=⟨_,rfl⟩
       obtain ⟨l1,hl1⟩:∃ x,x=L (i+1) tu:=⟨_,rfl⟩
       rw [<-hl0] at l0w
       rw [<-hl1] at l1w
       have hl0b : -9223372036854775808<=l0/\l0<=4611686018427387904:=by
        refine ⟨by rw [hl0]; exact (HRNG.out fu hfu2).1,?_⟩
        rw [hl0]
        exact hWOK.out i fu (by omega) (by omega)
       have HL0:=hid hl0
       have HL1:=hid hl1
       have HL0W:=hid l0w
       have HL1W:=hid l1w
       have hmr:T.mostR nd L i j=if lb≠0 then (if (fu:Int)=(nd i:Int) then min (l0+1) 1 else l0+1) else l0:=by
        unfold Trel.mostR
        rw [<-hlb,hf,Int.toNat_natCast,<-hl0]
       have HMR:=hid hmr
       clear hf ht hfu htu hlb l0w l1w hl0 hl1 hmr f0 f1 t0 t1 hKW
       go_upto_region 21 with fail
       have rx:=zad (w:=w6) (a:=.int .i64 (fu:Nat)) (b:=.int .i64 lb) (c:=.int .i64 (tu:Nat)) (T := 148)
       have kb:Below w6.heap.size w6 (w6.alloc (.cells #[.int .i64 (fu:Nat),.int .i64 lb,.int .i64 (tu:Nat)] 148)):=(Below.refl _ _).alloc (Nat.le_refl _) _
       obtain ⟨w7,hw7⟩:∃ W,W=w6.alloc (.cells #[.int .i64 (fu:Nat),.int .i64 lb,.int .i64 (tu:Nat)] 148):=⟨_,rfl⟩
       rw [<-hw7] at rx kb ⊢
       clear hw7
       obtain ⟨b10,hb10⟩:∃ b,b=w6.heap.size:=⟨_,rfl⟩
       rw [<-hb10] at rx ⊢
       clear hb10 y0 y1 y2 e0
       replace K5:=hid (onS K5.out kb)
       replace HBX:=hid (onS HBX.out kb)
       have HSS:Hid (∀ X,Below w7.heap.size w7 X->(X.cell? ⟨b1,1,none⟩=some (.slice (some ⟨pb,po,none⟩) T.nw pc)/\X.cell? ⟨pb,po+i,none⟩=some (.slice (some ⟨fb,fo,none⟩) (ln i) rc)/\X.cell? ⟨fb,fo+fu,none⟩=some (.int .i64 l0)/\X.cell? ⟨b10,0,none⟩=some (.int .i64 (fu:Nat)))/\X.cell? ⟨b10,1,none⟩=some (.int .i64 lb)/\(X.cell? ⟨b10,2,none⟩=some (.int .i64 (tu:Nat))/\X.cell? ⟨b1,1,none⟩=some (.slice (some ⟨pb,po,none⟩) T.nw pc)/\X.cell? ⟨pb,po+(i+1),none⟩=some (.slice (some ⟨tb,tO,none⟩) (ln (i+1)) rd)/\X.cell? ⟨tb,tO+tu,none⟩=some (.int .i64 l1))/\X.cell? ⟨zb,zo+i,none⟩=some (.int .i64 (nd i:Nat))):=hid fun X hx=>by
        have hKX:=onS KB.out (onS K5.out hx)
        have hWX:=onS HB.out hKX
        have hrx:=zaa rx hx
        refine ⟨⟨(HBOX.out _ hKX).2.2,cellS hWX HX0.out,cellS hWX HL0W.out,hrx.cell (i:=0) (by omega)⟩,hrx.cell (i:=1) (by omega),⟨hrx.cell (i:=2) (by omega),(HBOX.out _ hKX).2.2,cellS hWX HX1.out,cellS hWX HL1W.out⟩,cellS (onS K5.out hx) (HZC.out i hin)⟩
       clear kb rx p0 p1 q0 q1
       have hiw:(i:Int)<(T.nw:Int):=by have:=HNW1.out; omega
       have hfi:(fu:Int)<((ln i:Nat):Int):=by omega
       have hti:(tu:Int)<((ln (i+1):Nat):Int):=by omega
       obtain ⟨⟨s1,s2,s3,s4⟩,s5,_,_⟩:=HSS.out _ (Below.refl _ _).drew
       refine wp_region_held_drew (S:=fun X=>X.cell? ⟨b1,1,none⟩=some (.slice (some ⟨pb,po,none⟩) T.nw pc)/\X.cell? ⟨pb,po+i,none⟩=some (.slice (some ⟨fb,fo,none⟩) (ln i) rc)/\X.cell? ⟨fb,fo+fu,none⟩=some (.int .i64 l0)/\X.cell? ⟨b10,0,none⟩=some (.int .i64 (fu:Nat))) (by kernel_rfl) ⟨s1,s2,s3,s4⟩ (fun hHeld=>?_)
       obtain ⟨w8,hw⟩:∃ W,W=World.drew w7:=⟨_,rfl⟩
       have kb:Below w7.heap.size w7 w8:=by rw [hw]; exact (Below.refl _ _).drew
       rw [<-hw] at hHeld ⊢
       clear hw s1 s2 s3 s4 s5
       have K7:=hid kb
       clear kb
       refine tkq 0 (h:=tkq 1 (h:=tkq 2 (h:=tkq 3 (h:=tkq 4 (h:=tkq 5 (h:=tkq 6 (h:=tkq 7 (h:=tkq 8 (h:=tkq 9 (h:=?_))))))))))
       refine wpAnyH_done (by kernel_rfl) ?_ _
       clear hHeld
       obtain ⟨_,s5,_,_⟩:=HSS.out _ K7.out
       obtain ⟨M0,hM0⟩:∃ x,x=T.mostR nd L i j:=⟨_,rfl⟩
       have hMM:=HMR.out
       rw [<-hM0] at hMM
       have HM0:=hid hM0
       clear hM0 HMR
       go_upto_if 95 with fail
       go_cut [11] (fun v11 wx=>v11=.int .i64 M0/\Below w8.heap.size w8 wx)
       case first =>
        by_cases e1:lb=0
        ·have b1':(lb != 0)=false:=by simp [e1]
         have hm:M0=l0:=by rw [hMM,if_neg (fun h=>h e1)]
         have HMM:=hid hm
         clear e1 hm hMM
         go_wp2
         go_meet
         exact ⟨by rw [HMM.out],Below.refl _ _⟩
        have b1':(lb != 0)=true:=by simpa using e1
        rw [if_pos e1] at hMM
        have hwl:wrap64 (l0+1)=l0+1:=by unfold wrap64; omega
        have hwl2:IntKind.i64.wrap (l0+1)=l0+1:=IntWalk.i64_in _ (by omega)
        obtain ⟨⟨_,_,_,s4⟩,_,_,s7⟩:=HSS.out _ K7.out
        clear s5
        go_upto_region 24 with fail
        refine wp_region_held_drew (S:=fun X=>X.cell? ⟨b10,0,none⟩=some (.int .i64 (fu:Nat))/\X.cell? ⟨zb,zo+i,none⟩=some (.int .i64 (nd i:Nat))) (by kernel_rfl) ⟨cellS (Below.refl _ _).drew s4,cellS (Below.refl _ _).drew s7⟩ (fun hHeld=>?_)
        obtain ⟨w9,hw⟩:∃ W,W=World.drew w8:=⟨_,rfl⟩
        have kb:Below w8.heap.size w8 w9:=by rw [hw]; exact (Below.refl _ _).drew
        rw [<-hw] at hHeld ⊢
        clear hw s4 s7
        have K8:=hid kb
        clear kb
        by_cases e2:(fu:Int)=(nd i:Int)
        ·have b2':((fu:Int) == (nd i:Int))=true:=by simpa using e2
         rw [if_pos e2] at hMM
         have HMM:=hid hMM
         clear e1 e2 hMM
         refine tkq 0 (h:=tkq 1 (h:=tkq 2 (h:=tkq 3 (h:=tkq 4 (h:=tkq 5 (h:=tkq 6 (h:=?_)))))))
         refine wpAnyH_done (by kernel_rfl) ?_ _
         clear hHeld
         go_wp2
         go_meet
         exact ⟨by rw [HMM.out],K8.out⟩
        ·have b2':((fu:Int) == (nd i:Int))=false:=by simpa using e2
         rw [if_neg e2] at hMM
         have HMM:=hid hMM
         clear e1 e2 hMM
         refine tkq 0 (h:=tkq 1 (h:=tkq 2 (h:=tkq 3 (h:=tkq 4 (h:=tkq 5 (h:=tkq 6 (h:=?_)))))))
         refine wpAnyH_done (by kernel_rfl) ?_ _
         clear hHeld
         go_wp2
         go_meet
         exact ⟨by rw [HMM.out],K8.out⟩
       case rest =>
        obtain ⟨hv11,hBc⟩:=hcut
        subst hv11
        obtain ⟨w9,hw9⟩:∃ X,X=wc:=⟨_,rfl⟩
        subst hw9
        have K9:=hid (onS K7.out hBc)
        clear hBc s5 hMM
        have hinw:((i+1:Nat):Int)<(T.nw:Int):=by have:=HNW1.out; omega
        have hinw2:(i:Int)+1<(T.nw:Int):=by have:=HNW1.out; omega
        have hi10:(0:Int)<=((i+1:Nat):Int):=by omega
        have hi11:(0:Int)<=(i:Int)+1:=by omega
        have hi1w:IntKind.i64.wrap ((i:Int)+1)=(i:Int)+1:=IntWalk.i64_in _ (by omega)
        have hi1x:wrap64 ((i:Int)+1)=(i:Int)+1:=by unfold wrap64; omega
        obtain ⟨_,_,⟨s1,s2,s3,s4⟩,_⟩:=HSS.out _ (onS K9.out (Below.refl _ _).drew)
        go_upto_region 26 with fail
        refine wp_region_held_drew (S:=fun X=>X.cell? ⟨b10,2,none⟩=some (.int .i64 (tu:Nat))/\X.cell? ⟨b1,1,none⟩=some (.slice (some ⟨pb,po,none⟩) T.nw pc)/\X.cell? ⟨pb,po+(i+1),none⟩=some (.slice (some ⟨tb,tO,none⟩) (ln (i+1)) rd)/\X.cell? ⟨tb,tO+tu,none⟩=some (.int .i64 l1)) (by kernel_rfl) ⟨s1,s2,s3,s4⟩ (fun hHeld=>?_)
        obtain ⟨w10,hw⟩:∃ W,W=World.drew w9:=⟨_,rfl⟩
        have kb:Below w9.heap.size w9 w10:=by rw [hw]; exact (Below.refl _ _).drew
        rw [<-hw] at hHeld ⊢
        clear hw s1 s2 s3 s4
        replace K9:=hid (onS K9.out kb)
        clear kb
        by_cases hgt:M0<l1
        ·have hng:¬ l1<=M0:=by omega
         have HNO:Hid (¬ PotOk T nd D T.nw ln L):=hid fun h=>by
          have h1:=h.2.2.1 i hin j (by rw [<-HEL.out]; exact hjl)
          rw [HTU.out,Int.toNat_natCast,<-HL1.out,<-HM0.out] at h1
          omega
         refine tkq 0 (h:=tkq 1 (h:=tkq 2 (h:=tkq 3 (h:=tkq 4 (h:=tkq 5 (h:=tkq 6 (h:=tkq 7 (h:=tkq 8 (h:=tkq 9 (h:=tkq 10 (h:=tkq 11 (h:=?_))))))))))))
         refine wpAnyH_done (by kernel_rfl) ?_ _
         clear hHeld
         go_wp2
         go_ret
         exact ⟨false,rfl,⟨fun h=>(nomatch h),fun h=>absurd h HNO.out⟩,onS HB.out (onS KB.out (onS K5.out K9.out))⟩
        ·have hng:l1<=M0:=by omega
         have HJ2:Hid (∀ j',j'<j+1->L (i+1) (T.to i j').toNat<=T.mostR nd L i j'):=hid fun j' hj'=>by
          by_cases ej:j'=j
          ·rw [ej,HTU.out,Int.toNat_natCast,<-HL1.out,<-HM0.out]; exact hng
          ·exact HJ.out j' (by omega)
         refine tkq 0 (h:=tkq 1 (h:=tkq 2 (h:=tkq 3 (h:=tkq 4 (h:=tkq 5 (h:=tkq 6 (h:=tkq 7 (h:=tkq 8 (h:=tkq 9 (h:=tkq 10 (h:=tkq 11 (h:=?_))))))))))))
         refine wpAnyH_done (by kernel_rfl) ?_ _
         clear hHeld
         go_wp2
         go_roundg (gk - 1)
         case measure=>omega
         case rel=>exact ⟨j+1,by go_num,by omega,by omega,HJ2,onS HBX.out K9.out⟩
      ·have hjl':¬ (j:Int)<(el:Int):=by omega
       obtain rfl:el=j:=by omega
       have HED2:Hid (∀ i',i'<i+1->∀ j,j<T.el i'->L (i'+1) (T.to i' j).toNat<=T.mostR nd L i' j):=hid fun i' hi' j hj=>by
        by_cases ei:i'=i
        ·subst ei; exact HJ.out j (by rw [HEL.out]; exact hj)
        ·exact HED0.out i' (by omega) j hj
       go_wp2
       go_roundg (gO - 1)
       case measure=>omega
       case rel=>exact ⟨i+1,by go_num,by omega,by omega,HED2,K5.out⟩
    ·have hin':¬ (i:Int)<(T.n:Int):=by omega
     obtain rfl:i=T.n:=by omega
     obtain ⟨pb,po,RA,rc,hPA,_,x0w,_,_,hrow,_⟩:=HPR.out T.n (by have:=HNW1.out; omega)
     subst hPA
     have hl1:ln T.n=1:=by
      have h1:=(HOKA.out T.n (by have:=HNW1.out; omega)).1
      have h2:=HP.out.wn
      omega
     obtain ⟨rb,ro,hRA,_,l0w⟩:=hrow.at (i:=0) (by omega)
     subst hRA
     rw [Nat.add_zero] at l0w
     rw [hl1] at x0w
     obtain ⟨l0,hl0⟩:∃ x,x=L T.n 0:=⟨_,rfl⟩
     rw [<-hl0] at l0w
     have hKW:=onS HB.out (onS KB.out K4.out)
     have s1:=cellS hKW x0w
     have s2:=cellS hKW l0w
     have HL0:=hid hl0
     have hnw':(T.n:Int)<(T.nw:Int):=by have:=HNW1.out; omega
     clear hl1 x0w l0w hrow hl0
     go_upto_region 28 with fail
     refine wp_region_held_drew (S:=fun X=>X.cell? ⟨b0,1,none⟩=some (.slice TB T.n cb)/\X.cell? ⟨b1,0,none⟩=some (.int .i64 D)/\X.cell? ⟨b1,1,none⟩=some (.slice (some ⟨pb,po,none⟩) T.nw pc)/\X.cell? ⟨pb,po+T.n,none⟩=some (.slice (some ⟨rb,ro,none⟩) (1:Nat) rc)/\X.cell? ⟨rb,ro,none⟩=some (.int .i64 l0)) (by kernel_rfl) ⟨cellS (Below.refl _ _).drew p1,cellS (Below.refl _ _).drew q0,cellS (Below.refl _ _).drew q1,cellS (Below.refl _ _).drew s1,cellS (Below.refl _ _).drew s2⟩ (fun hHeld=>?_)
     obtain ⟨w6,hw⟩:∃ W,W=World.drew w5:=⟨_,rfl⟩
     have kb:Below w5.heap.size w5 w6:=by rw [hw]; exact (Below.refl _ _).drew
     rw [<-hw] at hHeld ⊢
     clear hw s1 s2 p0 p1 q0 q1
     have K6:=hid (onS hKW kb)
     clear kb hKW
     refine tkq 0 (h:=tkq 1 (h:=tkq 2 (h:=tkq 3 (h:=tkq 4 (h:=tkq 5 (h:=tkq 6 (h:=tkq 7 (h:=tkq 8 (h:=tkq 9 (h:=tkq 10 (h:=tkq 11 (h:=tkq 12 (h:=?_)))))))))))))
     refine wpAnyH_done (by kernel_rfl) ?_ _
     clear hHeld
     have HFIN:Hid (decide (D<=l0)=true↔PotOk T nd D T.nw ln L):=hid (by
      rw [decide_eq_true_iff,HL0.out]
      exact ⟨fun h=>⟨rfl,HOKA.out,HED0.out,h⟩,fun h=>h.2.2.2⟩)
     go_wp2
     go_ret
     exact ⟨_,rfl,HFIN.out,K6.out⟩
theorem refCP_any (P M:Int) (A:Option Addr) (k c:Nat) (f:Nat->Int) (N:Int) (TC:Option Addr) (n d:Nat) (ln:Nat->Nat) (V:Nat->Nat->Int) (T:Trel) (TA TB:Option Addr) (ca cb:Nat) (D:Int) (PA:Option Addr) (pn pc:Nat) (lp:Nat->Nat) (L:Nat->Nat->Int) (w:World) (hr:IntsR w w.heap.size A k f) (h:IntRows w TC n ln V) (hT:T.Reads w TA TB) (hP:IntRows w PA pn lp L) :
  Calls Tryz.prog 53 #[.agg #[.int .i64 P,.int .i64 M,.slice A k c,.int .i64 N,.slice TC n d],.agg #[.slice TA T.nw ca,.slice TB T.n cb],.agg #[.int .i64 D,.slice PA pn pc]] w fun e w'=>∃ v:Int,e=.returned (.int .i64 v)/\PChk P M k f N n ln V T D pn lp L v/\Below w.heap.size w w':=by
 have HI:=hid hr
 have HT:=hid h
 have HR:=hid hT
 have HPR:=hid hP
 clear hr h hT hP
 have rf:=zam (w:=w) (a:=.int .i64 P) (b:=.int .i64 M) (c:=.slice A k c) (d:=.int .i64 N) (e:=.slice TC n d) (T := 27)
 have hB:Below w.heap.size w (w.alloc (.cells #[.int .i64 P,.int .i64 M,.slice A k c,.int .i64 N,.slice TC n d] 27)):=(Below.refl _ _).alloc (Nat.le_refl _) _
 obtain ⟨w1,hw1⟩:∃ W,W=w.alloc (.cells #[.int .i64 P,.int .i64 M,.slice A k c,.int .i64 N,.slice TC n d] 27):=⟨_,rfl⟩
 rw [<-hw1] at hB rf
 have rt:=zae (w:=w1) (a:=.slice TA T.nw ca) (b:=.slice TB T.n cb) (T := 74)
 have kb:Below w1.heap.size w1 (w1.alloc (.cells #[.slice TA T.nw ca,.slice TB T.n cb] 74)):=(Below.refl _ _).alloc (Nat.le_refl _) _
 have hsz2:(w1.alloc (.cells #[.slice TA T.nw ca,.slice TB T.n cb] 74)).heap.size=w1.heap.size+1:=by simp
 obtain ⟨w2,hw2⟩:∃ W,W=w1.alloc (.cells #[.slice TA T.nw ca,.slice TB T.n cb] 74):=⟨_,rfl⟩
 rw [<-hw2] at kb rt hsz2
 replace rf:=zaa rf kb
 replace hB:=onS hB kb
 have hsz1:w1.heap.size=w.heap.size+1:=by rw [hw1]; simp
 rw [hsz1] at rt hsz2
 have rp:=zae (w:=w2) (a:=.int .i64 D) (b:=.slice PA pn pc) (T := 81)
 have kb2:Below w2.heap.size w2 (w2.alloc (.cells #[.int .i64 D,.slice PA pn pc] 81)):=(Below.refl _ _).alloc (Nat.le_refl _) _
 obtain ⟨w3,hw3⟩:∃ W,W=w2.alloc (.cells #[.int .i64 D,.slice PA pn pc] 81):=⟨_,rfl⟩
 rw [<-hw3] at kb2 rp
 rw [hsz2] at rp
 replace rf:=zaa rf kb2
 replace rt:=zaa rt kb2
 replace hB:=onS hB kb2
 go_enter Tryz.func53, Tryz.ntmps53
 go_upto_region 1 with fail
 rw [<-hw1,<-hw2,<-hw3]
 clear hw1 hw2 hw3 kb kb2 hsz1 hsz2
 obtain ⟨b0,hb0⟩:∃ b,b=w.heap.size:=⟨_,rfl⟩
 obtain ⟨b1,hb1⟩:∃ b,b=w.heap.size+1:=⟨_,rfl⟩
 obtain ⟨b2,hb2⟩:∃ b,b=w.heap.size+1+1:=⟨_,rfl⟩
 rw [<-hb0] at rf
 rw [<-hb1] at rt
 rw [<-hb2] at rp
 rw [<-hb2,<-hb1,<-hb0]
 clear hb0 hb1 hb2
 have HBOX:Hid (∀ X,Below w3.heap.size w3 X->(X.cell? ⟨b0,0,none⟩=some (.int .i64 P)/\X.cell? ⟨b0,1,none⟩=some (.int .i64 M)/\X.cell? ⟨b0,2,none⟩=some (.slice A k c)/\X.cell? ⟨b0,3,none⟩=some (.int .i64 N)/\X.cell? ⟨b0,4,none⟩=some (.slice TC n d))/\(X.cell? ⟨b1,0,none⟩=some (.slice TA T.nw ca)/\X.cell? ⟨b1,1,none⟩=some (.slice TB T.n cb))/\X.cell? ⟨b2,0,none⟩=some (.int .i64 D)/\X.cell? ⟨b2,1,none⟩=some (.slice PA pn pc)):=hid fun X hx =>
  ⟨⟨(zaa rf hx).cell (i:=0) (by omega),(zaa rf hx).cell (i:=1) (by omega),(zaa rf hx).cell (i:=2) (by omega),(zaa rf hx).cell (i:=3) (by omega),(zaa rf hx).cell (i:=4) (by omega)⟩,⟨(zaa rt hx).cell (i:=0) (by omega),(zaa rt hx).cell (i:=1) (by omega)⟩,(zaa rp hx).cell (i:=0) (by omega),(zaa rp hx).cell (i:=1) (by omega)⟩
 have HB:=hid hB
 clear hB rf rt rp
 obtain ⟨⟨q0,q1,q2,q3,q4⟩,⟨p0,p1⟩,_,_⟩:=HBOX.out _ (Below.refl _ _)
 go_wp2_with fail
 refine (zdO P M A k c f N TC n d ln V T TA TB ca cb w3 (HI.out.on HB.out) (HT.out.on HB.out) (HR.out.on HB.out)).mono ?_
 rintro e w4 ⟨u,rfl,hu,kb⟩
 have HU:=hid hu
 have KB:=hid kb
 clear hu kb q0 q1 q2 q3 q4 p0 p1
 by_cases hu0:u=0
 rotate_left
 ·have hub:(u == 0)=false:=by simpa using hu0
  have HU0:=hid hu0
  clear hu0
  go_wp2
  go_ret
  exact ⟨u,rfl,⟨u,HU.out,.inl ⟨HU0.out,rfl⟩⟩,onS HB.out KB.out⟩
 subst hu0
 obtain ⟨hp,ze,nd,hz⟩:=TChk.zp HI.out HT.out HU.out
 have HP:=hid hp
 have HZ:=hid hz
 clear hp hz
 obtain ⟨_,⟨p0,p1⟩,s0,s1⟩:=HBOX.out _ KB.out
 go_wp2_with fail
 refine (proves_any T ze nd TA TB ca cb D PA pn pc lp L w4 (HR.out.on (onS HB.out KB.out)) HP.out HZ.out (HPR.out.on (onS HB.out KB.out))).mono ?_
 rintro e w5 ⟨b,rfl,hb,kb⟩
 have HBB:=hid hb
 replace KB:=hid (onS KB.out kb)
 clear hb kb p0 p1 s0 s1
 cases b with
 | false =>
  have HNO:Hid (¬ PotOk T nd D pn lp L):=hid fun h=>by
   have:=HBB.out.2 h
   cases this
  go_wp2
  go_ret
  exact ⟨13,rfl,⟨0,HU.out,.inr ⟨rfl,ze,nd,HZ.out,.inr rfl,⟨fun h=>absurd h (by omega),fun h=>absurd h HNO.out⟩⟩⟩,onS HB.out KB.out⟩
 | true =>
  have HYES:Hid (PotOk T nd D pn lp L):=hid (HBB.out.1 rfl)
  go_wp2
  go_ret
  exact ⟨0,rfl,⟨0,HU.out,.inr ⟨rfl,ze,nd,HZ.out,.inl rfl,⟨fun _=>HYES.out,fun _=>rfl⟩⟩⟩,onS HB.out KB.out⟩
section
variable {H:Type} {enc:TypeId × Value->H} {w:World} {base:Nat} {spare:Nat->Bool} {held:Bool} {cs:List Value}
theorem sees_claim (h:SeesW enc Tryz.prog w base spare held 83 cs) :
  ∃ (P M:Int) (A:Option Addr) (k c:Nat) (N:Int) (TC:Option Addr) (n d:Nat) (f:Nat->Int) (ln:Nat->Nat) (V:Nat->Nat->Int) (T:Trel) (TA TB:Option Addr) (ca cb:Nat) (D:Int) (PA:Option Addr) (pn pc:Nat) (lp:Nat->Nat) (L:Nat->Nat->Int) (MA:Option Addr) (mn mc:Nat) (g:Nat->Int),
   cs=[.int .i64 P,.int .i64 M,.slice A k c,.int .i64 N,.slice TC n d,.slice TA T.nw ca,.slice TB T.n cb,.int .i64 D,.slice PA pn pc,.slice MA mn mc] /\
   k<=c/\IntsR w w.heap.size A k f/\IntRows w TC n ln V/\T.Reads w TA TB/\IntRows w PA pn lp L/\IntsR w w.heap.size MA mn g/\mn<=mc/\mc<=maxLen:=by
 obtain ⟨hl,_⟩:=zbA Tryz.underlying83 h.sees
 match cs,hl.trans (show Tryz.prog.cellsOf 83 = 10 by kernel_rfl) with
 | [c0,c1,c2,c3,c4,c5,c6,c7,c8,c9],_ =>
  have hc:Tryz.prog.cellsOf 3 = 1:=by kernel_rfl
  have hct:Tryz.prog.cellsOf 25 = 1:=by kernel_rfl
  have gC:=zgV Tryz.underlying83 h 0 27 0 5 ⟨_,rfl,rfl,rfl⟩ (by kernel_rfl)
  have gT:=zgV Tryz.underlying83 h 1 74 5 2 ⟨_,rfl,rfl,rfl⟩ (by kernel_rfl)
  have gP:=zgV Tryz.underlying83 h 2 81 7 2 ⟨_,rfl,rfl,rfl⟩ (by kernel_rfl)
  have gM:=zgV Tryz.underlying83 h 3 22 9 1 ⟨_,rfl,rfl,rfl⟩ (by kernel_rfl)
  obtain ⟨P,M,A,k,c,N,TC,n,d,f,ln,V,hC,_,_,hkc,_,_,_,hr,ht⟩:=zhy gC.sees
  obtain ⟨T,TA,TB,ca,cb,hT,hTr,_⟩:=zhM gT
  have p0:=zbR Tryz.underlying81 gP.sees 0 3 0 1 ⟨_,rfl,rfl,rfl⟩ hc
  have p1:=zbR Tryz.underlying81 gP.sees 1 25 1 1 ⟨_,rfl,rfl,rfl⟩ hct
  obtain ⟨D,hD,_⟩:=zbt Tryz.underlying3 p0
  obtain ⟨PA,pn,pc,lp,L,hP,_,_,hrows⟩:=zhf p1
  obtain ⟨MA,mn,mc,g,hs,m1,m2,hm,_⟩:=zdh Tryz.underlying22 Tryz.underlying3 hc gM.sees
  simp at hC hT hD hP hs
  obtain ⟨rfl,rfl,rfl,rfl,rfl⟩:=hC
  obtain ⟨rfl,rfl⟩:=hT
  subst hD hP hs
  exact ⟨P,M,A,k,c,N,TC,n,d,f,ln,V,T,TA,TB,ca,cb,D,PA,pn,pc,lp,L,MA,mn,mc,g,rfl,hkc,hr,ht,hTr,hrows,hm,m1,m2⟩
end
def clmCell (a b c d e t u x y z:Value) (i:Nat):Value:=if i=0 then a else if i=1 then b else if i=2 then c else if i=3 then d else if i=4 then e else if i=5 then t else if i=6 then u else if i=7 then x else if i=8 then y else z
theorem clmBox_row {w:World} {a b c d e t u x y z:Value} {T:TypeId}:(w.alloc (.cells #[a,b,c,d,e,t,u,x,y,z] T)).rowIs w.heap.size T 10 (clmCell a b c d e t u x y z) :=
 ⟨#[a,b,c,d,e,t,u,x,y,z],zaw rfl,rfl,fun i hi=>by
  rcases (show i=0∨i=1∨i=2∨i=3∨i=4∨i=5∨i=6∨i=7∨i=8∨i=9 by omega) with rfl | rfl | rfl | rfl | rfl | rfl | rfl | rfl | rfl | rfl <;> rfl⟩
theorem viterbiAccepts_any (ALIVE:∀ w:World,Calls Tryz.prog 51 #[] w fun e w'=>e=.returned (.bool true)/\Below w.heap.size w w')
  (P M:Int) (A:Option Addr) (k c:Nat) (f:Nat->Int) (N:Int) (TC:Option Addr) (n d:Nat) (ln:Nat->Nat) (V:Nat->Nat->Int) (T:Trel) (TA TB:Option Addr) (ca cb:Nat) (D:Int) (PA:Option Addr) (pn pc:Nat) (lp:Nat->Nat) (L:Nat->Nat->Int) (Ms:Value) (w:World) (hr:IntsR w w.heap.size A k f) (h:IntRows w TC n ln V) (hkc:k<=c) (hT:T.Reads w TA TB) (hP:IntRows w PA pn lp L) :
  Calls Tryz.prog 10 #[.agg #[.int .i64 P,.int .i64 M,.slice A k c,.int .i64 N,.slice TC n d,.slice TA T.nw ca,.slice TB T.n cb,.int .i64 D,.slice PA pn pc,Ms]] w fun e w'=>e=.returned (.bool true)/\Below w.heap.size w w':=by
 have HA:=hid ALIVE
 have HI:=hid hr
 have HT:=hid h
 have HR:=hid hT
 have HPR:=hid hP
 clear hr h hT hP ALIVE
 have rf:=clmBox_row (w:=w) (a:=.int .i64 P) (b:=.int .i64 M) (c:=.slice A k c) (d:=.int .i64 N) (e:=.slice TC n d) (t:=.slice TA T.nw ca) (u:=.slice TB T.n cb) (x:=.int .i64 D) (y:=.slice PA pn pc) (z:=Ms) (T := 83)
 have hB:Below w.heap.size w (w.alloc (.cells #[.int .i64 P,.int .i64 M,.slice A k c,.int .i64 N,.slice TC n d,.slice TA T.nw ca,.slice TB T.n cb,.int .i64 D,.slice PA pn pc,Ms] 83)):=(Below.refl _ _).alloc (Nat.le_refl _) _
 obtain ⟨w3,hw3⟩:∃ W,W=w.alloc (.cells #[.int .i64 P,.int .i64 M,.slice A k c,.int .i64 N,.slice TC n d,.slice TA T.nw ca,.slice TB T.n cb,.int .i64 D,.slice PA pn pc,Ms] 83):=⟨_,rfl⟩
 rw [<-hw3] at hB rf
 go_enter Tryz.func10, Tryz.ntmps10
 go_upto_region 1 with fail
 rw [<-hw3]
 clear hw3
 obtain ⟨b0,hb0⟩:∃ b,b=w.heap.size:=⟨_,rfl⟩
 rw [<-hb0] at rf
 rw [<-hb0]
 clear hb0
 have HS:Hid (∀ X,Below w3.heap.size w3 X->(X.cell? ⟨b0,0,none⟩=some (.int .i64 P)/\X.cell? ⟨b0,1,none⟩=some (.int .i64 M)/\X.cell? ⟨b0,2,none⟩=some (.slice A k c)/\X.cell? ⟨b0,3,none⟩=some (.int .i64 N)/\X.cell? ⟨b0,4,none⟩=some (.slice TC n d)/\X.cell? ⟨b0,5,none⟩=some (.slice TA T.nw ca)/\X.cell? ⟨b0,6,none⟩=some (.slice TB T.n cb)/\X.cell? ⟨b0,7,none⟩=some (.int .i64 D)/\X.cell? ⟨b0,8,none⟩=some (.slice PA pn pc))):=hid fun X hx =>
  ⟨(zaa rf hx).cell (i:=0) (by omega),(zaa rf hx).cell (i:=1) (by omega),(zaa rf hx).cell (i:=2) (by omega),(zaa rf hx).cell (i:=3) (by omega),(zaa rf hx).cell (i:=4) (by omega),(zaa rf hx).cell (i:=5) (by omega),(zaa rf hx).cell (i:=6) (by omega),(zaa rf hx).cell (i:=7) (by omega),(zaa rf hx).cell (i:=8) (by omega)⟩
 have HB:=hid hB
 clear hB rf
 obtain ⟨_,_,_,_,_,p0,p1,_,_⟩:=HS.out _ (Below.refl _ _)
 go_wp2_with fail
 refine (zi0 T TA TB ca cb 3000 (by omega) w3 (HR.out.on HB.out)).mono ?_
 rintro e w4 ⟨⟨r,rfl⟩,kb⟩
 have KB:=hid kb
 clear kb p0 p1
 cases r with
 | false =>
  go_wp2_with fail
  refine (HA.out _).mono ?_
  rintro e w5 ⟨rfl,kb⟩
  replace KB:=hid (onS KB.out kb)
  clear kb
  go_wp2
  go_ret
  exact ⟨rfl,onS HB.out KB.out⟩
 | true =>
  go_upto_region 3 with fail
  refine wp_region_held_drew (S:=fun X=>(X.cell? ⟨b0,0,none⟩=some (.int .i64 P)/\X.cell? ⟨b0,1,none⟩=some (.int .i64 M)/\X.cell? ⟨b0,2,none⟩=some (.slice A k c)/\X.cell? ⟨b0,3,none⟩=some (.int .i64 N)/\X.cell? ⟨b0,4,none⟩=some (.slice TC n d)/\X.cell? ⟨b0,5,none⟩=some (.slice TA T.nw ca)/\X.cell? ⟨b0,6,none⟩=some (.slice TB T.n cb)/\X.cell? ⟨b0,7,none⟩=some (.int .i64 D)/\X.cell? ⟨b0,8,none⟩=some (.slice PA pn pc))) (by kernel_rfl) (HS.out _ (onS KB.out (Below.refl _ _).drew)) (fun hHeld=>?_)
  obtain ⟨w5,hw⟩:∃ W,W=World.drew w4:=⟨_,rfl⟩
  have kb:Below w4.heap.size w4 w5:=by rw [hw]; exact (Below.refl _ _).drew
  rw [<-hw] at hHeld ⊢
  clear hw
  replace KB:=hid (onS KB.out kb)
  clear kb
  refine tkq 0 (h:=tkq 1 (h:=tkq 2 (h:=tkq 3 (h:=tkq 4 (h:=tkq 5 (h:=tkq 7 (h:=tkq 8 (h:=tkq 9 (h:=tkq 10 (h:=tkq 11 (h:=tkq 12 (h:=?_))))))))))))
  clear hHeld
  refine rdq 6 (h:=fun K hK=>?_)
  go_simp
  go_wp2_with fail
  refine (zfX P M A k c f N TC n d ln V T TA TB ca cb D PA pn pc lp L w5 (HI.out.on (onS HB.out KB.out)) (HT.out.on (onS HB.out KB.out)) hkc (HR.out.on (onS HB.out KB.out)) (HPR.out.on (onS HB.out KB.out))).mono ?_
  rintro e w6 ⟨u,rfl,hu,kb⟩
  have HU:=hid hu
  replace KB:=hid (onS KB.out kb)
  clear kb hu
  refine bkq hK (HS.out _ KB.out) (h:=fun hHeld=>?_)
  clear hK K hHeld
  refine rdq 13 (h:=fun K hK=>?_)
  go_simp
  go_wp2_with fail
  refine (refCP_any P M A k c f N TC n d ln V T TA TB ca cb D PA pn pc lp L w6 (HI.out.on (onS HB.out KB.out)) (HT.out.on (onS HB.out KB.out)) (HR.out.on (onS HB.out KB.out)) (HPR.out.on (onS HB.out KB.out))).mono ?_
  rintro e w7 ⟨v,rfl,hv,kb⟩
  obtain rfl:u=v:=PChk.unique HI.out HT.out HU.out hv
  replace KB:=hid (onS KB.out kb)
  clear kb hv
  refine bkq hK (HS.out _ KB.out) (h:=fun hHeld=>?_)
  clear hK K
  have hpp:(u == u)=true:=by simp
  refine tkq 14 (h:=tkq 15 (h:=?_))
  clear hHeld
  refine rdq 16 (h:=fun K hK=>?_)
  go_simp
  go_wp2_with fail
  refine (HA.out w7).mono ?_
  rintro e w8 ⟨rfl,kb⟩
  replace KB:=hid (onS KB.out kb)
  clear kb
  refine bkq hK (HS.out _ KB.out) (h:=fun hHeld=>?_)
  clear hK K
  refine tkq 17 (h:=tkq 18 (h:=?_))
  refine wpAnyH_done (by kernel_rfl) ?_ _
  clear hHeld
  go_wp2
  go_ret
  exact ⟨rfl,onS HB.out KB.out⟩
theorem viterbiAccepts_law {H:Type} {enc:TypeId × Value->H} {w:World} {cs:Array Value}
  (h:SeesW enc Tryz.prog w 0 (fun _=>true) true 83 cs.toList) :
  Calls Tryz.prog 10 #[.agg cs] w fun e w'=>e=.returned (.bool true)/\Below w.heap.size w w':=by
 obtain ⟨cs⟩:=cs
 obtain ⟨P,M,A,k,c,N,TC,n,d,f,ln,V,T,TA,TB,ca,cb,D,PA,pn,pc,lp,L,MA,mn,mc,g,rfl,hkc,hr,ht,hT,hP,_⟩:=sees_claim h
 exact viterbiAccepts_any zfZ P M A k c f N TC n d ln V T TA TB ca cb D PA pn pc lp L _ w hr ht hkc hT hP
theorem clean11_any (P M:Nat) (A:Option Addr) (k c:Nat) (U:Option Addr) (n d:Nat) (u:Nat->Int) (w:World) (hf:FldOk P M) (h:IntsR w w.heap.size U n u) (hn:n<=1048576) (hu:∀ j,j<n->0<=u j/\u j<((P ^ M:Nat):Int)) :
  Calls Tryz.prog 111 #[.agg #[.int .i64 (P:Nat),.int .i64 (M:Nat),.slice A k c],.slice U n d] w (RowPost n (fun j=>.int .i64 (u j)) w):=by
 have HU:=hid h
 have HQ:=hid hu
 have HORD:=hid (zbS hf)
 clear h hu
 have hB:Below w.heap.size w (w.alloc (.cells #[.int .i64 (P:Nat),.int .i64 (M:Nat),.slice A k c] 24)):=(Below.refl _ _).alloc (Nat.le_refl _) _
 have rf:=zad (w:=w) (a:=.int .i64 (P:Nat)) (b:=.int .i64 (M:Nat)) (c:=.slice A k c) (T := 24)
 obtain ⟨w0,hw0⟩:∃ W,W=w.alloc (.cells #[.int .i64 (P:Nat),.int .i64 (M:Nat),.slice A k c] 24):=⟨_,rfl⟩
 rw [<-hw0] at hB rf
 have hmk:=fun W=>zaf (P:=Tryz.prog) 22 3 _ 8 Tryz.underlying22 Tryz.infoInt rfl (n:Int) (by omega) (by omega) (by omega) W
 simp only [Int.toNat_natCast] at hmk
 go_enter Tryz.func111, Tryz.ntmps111
 go_upto_region 1 with fail
 rw [<-hw0]
 clear hw0
 have q0:w0.cell? ⟨w.heap.size,0,none⟩=some (.int .i64 (P:Nat)):=rf.cell (i:=0) (by omega)
 have q1:w0.cell? ⟨w.heap.size,1,none⟩=some (.int .i64 (M:Nat)):=rf.cell (i:=1) (by omega)
 have q2:w0.cell? ⟨w.heap.size,2,none⟩=some (.slice A k c):=rf.cell (i:=2) (by omega)
 clear rf
 go_wp2_with fail
 refine (zbB (P:Int) (M:Int) A k c w0).mono ?_
 rintro e w1 ⟨rfl,kb⟩
 have HB:=hid (onS hB kb)
 clear kb hB q0 q1 q2
 rw [HORD.out]
 clear HORD
 obtain ⟨q,hq⟩:∃ q,q=P ^ M:=⟨_,rfl⟩
 rw [<-hq] at HQ ⊢
 clear hq
 go_upto_region 3 with fail
 have rz:World.rowIs (World.alloc w1 (Obj.cells (madeCells #[Value.int .i64 0] n) 3)) w1.heap.size 3 n (fun _=>.int .i64 0):=World.rowIs_made _ (.int .i64 0) n 3
 have kb:Below w1.heap.size w1 (World.alloc w1 (Obj.cells (madeCells #[Value.int .i64 0] n) 3)):=(Below.refl _ _).alloc (Nat.le_refl _) _
 obtain ⟨w2,hw2⟩:∃ W,W=World.alloc w1 (Obj.cells (madeCells #[Value.int .i64 0] n) 3):=⟨_,rfl⟩
 rw [<-hw2] at rz kb ⊢
 obtain ⟨go,hgo⟩:∃ g,g=w1.heap.size:=⟨_,rfl⟩
 have hgoB:w.heap.size<=go:=by rw [hgo]; exact HB.out.size
 rw [<-hgo] at rz ⊢
 replace HB:=hid (onS HB.out kb)
 clear kb hw2 hgo hmk
 go_upto_region 4 with fail
 go_loopg [7] n (fun gg iv wx=>∃ i:Nat,iv=.int .i64 (i:Nat)/\i<=n/\n<=i+gg/\wx.rowIs go 3 n (fun t=>.int .i64 (if t<i then u t else 0))/\Below w.heap.size w wx)
 case atStart=>exact ⟨0,rfl,by omega,by omega,rz.congr fun t _=>by rw [if_neg (by omega)],HB.out⟩
 case round =>
  clear rz HB
  obtain ⟨i,rfl,hi,hig,hrow,hBx⟩:=hrel
  have hi0:(0:Int)<=(i:Int):=by omega
  have HROW:=hid hrow
  have HB:=hid hBx
  obtain ⟨w3,hw3⟩:∃ X,X=wr:=⟨_,rfl⟩
  subst hw3
  clear hrow hBx
  by_cases hin:i<n
  ·have hin':(i:Int)<(n:Int):=by omega
   obtain ⟨b,o,hUe,hb,x0⟩:=(HU.out.on HB.out).at hin
   subst hUe
   obtain ⟨v,hv⟩:∃ x,x=u i:=⟨_,rfl⟩
   have hvq:=HQ.out i hin
   rw [<-hv] at x0 hvq
   have hge:decide (v ≥ 0)=true:=by simp; exact hvq.1
   have hlt:decide (v<(q:Int))=true:=by simp; exact hvq.2
   have hge':v ≥ 0:=hvq.1
   have hlt':=hvq.2
   have hne:b≠go:=by
    have:=(HU.out).at hin
    obtain ⟨b2,o2,h2,hb2,_⟩:=this
    injection h2 with h2
    injection h2 with h2 _
    omega
   have u0:=HROW.out.cell (i:=i) hin
   have u1:=HROW.out.frozen i
   have hrow2:=HROW.out.set i (.int .i64 v)
   have hB2:=HB.out.setCell (p:=⟨go,i,none⟩) hgoB (.int .i64 v)
   obtain ⟨w4,hw4⟩:∃ W,W=w3.setCell ⟨go,i,none⟩ (.int .i64 v):=⟨_,rfl⟩
   rw [<-hw4] at hrow2 hB2
   have HROW2:Hid (w4.rowIs go 3 n (fun t=>.int .i64 (if t<i+1 then u t else 0))):=hid (hrow2.congr fun t _=>by
    by_cases et:t=i
    ·rw [if_pos et,if_pos (by omega),hv,et]
    ·have h1:(t<i)↔(t<i+1):=by omega
     rw [if_neg et]
     simp only [h1])
   have HB2:=hid hB2
   have HW4:=hid hw4
   clear hrow2 hB2 hw4 hv hvq
   go_wp2
   rw [<-HW4.out]
   go_roundg (gk - 1)
   case measure=>omega
   case rel=>exact ⟨i+1,by go_num,by omega,by omega,HROW2.out,HB2.out⟩
  ·have hin':¬ (i:Int)<(n:Int):=by omega
   obtain rfl:i=n:=by omega
   have HROW2:Hid (w3.rowIs go 3 i (fun t=>.int .i64 (u t))):=hid (HROW.out.congr fun t ht=>by rw [if_pos ht])
   go_wp2
   go_ret
   exact ⟨go,rfl,hgoB,HROW2.out,HB.out⟩
def supL (u:Nat->Int) (n:Nat):List Int:=((List.range n).filter fun j=>u j != 0).map fun (j:Nat)=>(j:Int)
theorem supL_succ (u:Nat->Int) (n:Nat):supL u (n+1)=supL u n ++ if u n=0 then [] else [(n:Int)]:=by
 unfold supL
 rw [List.range_succ,List.filter_append,List.map_append]
 by_cases h:u n=0
 ·simp [h]
 ·simp [h]
theorem supL_len (u:Nat->Int) (n:Nat):(supL u n).length=disN u (fun _=>0) n:=by
 induction n with
 | zero=>rfl
 | succ n ih =>
  rw [supL_succ,List.length_append,ih]
  show _=disN u (fun _=>0) n+if u n=0 then 0 else 1
  split <;> rfl
theorem support11_any (P M:Nat) (A:Option Addr) (k c:Nat) (U:Option Addr) (n d:Nat) (u:Nat->Int) (w:World) (hf:FldOk P M) (h:IntsR w w.heap.size U n u) (hn:n<=1048576) (hu:∀ j,j<n->0<=u j/\u j<((P ^ M:Nat):Int)) :
  Calls Tryz.prog 42 #[.agg #[.int .i64 (P:Nat),.int .i64 (M:Nat),.slice A k c],.slice U n d] w fun e w'=>∃ v,e=.returned v/\OwnL w' w.heap.size v (supL u n)/\Below w.heap.size w w':=by
 have HU:=hid h
 have HQ:=hid hu
 clear h hu
 have hB:Below w.heap.size w (w.alloc (.cells #[.int .i64 (P:Nat),.int .i64 (M:Nat),.slice A k c] 24)):=(Below.refl _ _).alloc (Nat.le_refl _) _
 have rf:=zad (w:=w) (a:=.int .i64 (P:Nat)) (b:=.int .i64 (M:Nat)) (c:=.slice A k c) (T := 24)
 obtain ⟨w0,hw0⟩:∃ W,W=w.alloc (.cells #[.int .i64 (P:Nat),.int .i64 (M:Nat),.slice A k c] 24):=⟨_,rfl⟩
 rw [<-hw0] at hB rf
 go_enter Tryz.func42, Tryz.ntmps42
 go_upto_region 1 with fail
 rw [<-hw0]
 clear hw0
 have q0:w0.cell? ⟨w.heap.size,0,none⟩=some (.int .i64 (P:Nat)):=rf.cell (i:=0) (by omega)
 have q1:w0.cell? ⟨w.heap.size,1,none⟩=some (.int .i64 (M:Nat)):=rf.cell (i:=1) (by omega)
 have q2:w0.cell? ⟨w.heap.size,2,none⟩=some (.slice A k c):=rf.cell (i:=2) (by omega)
 clear rf
 go_wp2_with fail
 refine (clean11_any P M A k c U n d u w0 hf (HU.out.on hB) hn HQ.out).mono ?_
 rintro e w1 ⟨g,rfl,hg,hrow,kb⟩
 have HR:Hid (IntsR w1 w1.heap.size (some ⟨g,0,none⟩) n u):=hid (zbk hrow)
 have HB:=hid (onS hB kb)
 clear kb hB q0 q1 q2 hg hrow
 go_upto_region 3 with fail
 have kb:=(Below.refl w1.heap.size w1).alloc (Nat.le_refl _) (Obj.cells #[] 3)
 have HO:Hid (OwnL (w1.alloc (Obj.cells #[] 3)) w1.heap.size (.slice (some ⟨w1.heap.size,0,none⟩) 0 0) (supL u 0)):=hid (Own.new (Nat.le_refl _) (Nat.le_refl _) (by unfold maxLen; omega) (by simp) fun k hk=>absurd hk (by omega))
 obtain ⟨w2,hw2⟩:∃ W,W=w1.alloc (Obj.cells #[] 3):=⟨_,rfl⟩
 rw [<-hw2] at HO kb ⊢
 obtain ⟨v0,hv0⟩:∃ v:Value,v=.slice (some ⟨w1.heap.size,0,none⟩) 0 0:=⟨_,rfl⟩
 rw [<-hv0] at HO ⊢
 have K2:=hid kb
 clear kb hw2 hv0
 go_upto_region 4 with fail
 go_loopg [6,7] n (fun gg ov iv wx=>∃ i:Nat,iv=.int .i64 (i:Nat)/\i<=n/\n<=i+gg/\Hid (OwnL wx w1.heap.size ov (supL u i))/\Below w1.heap.size w1 wx)
 case atStart=>exact ⟨0,rfl,by omega,by omega,HO,K2.out⟩
 case round =>
  clear HO K2
  obtain ⟨i,rfl,hi,hig,HO,hBx⟩:=hrel
  have hi0:(0:Int)<=(i:Int):=by omega
  have K2:=hid hBx
  obtain ⟨w3,hw3⟩:∃ X,X=wr:=⟨_,rfl⟩
  subst hw3
  clear hBx
  by_cases hin:i<n
  ·have hin':(i:Int)<(n:Int):=by omega
   obtain ⟨b,o,hUe,hb,x0⟩:=(HR.out.on K2.out).at hin
   injection hUe with hUe
   injection hUe with h1 h2
   subst h1 h2
   rw [Nat.zero_add] at x0
   obtain ⟨v,hv⟩:∃ x,x=u i:=⟨_,rfl⟩
   rw [<-hv] at x0
   by_cases hz:v=0
   ·have hne:(v != 0)=false:=by simp [hz]
    have HO2:Hid (OwnL w3 w1.heap.size u6 (supL u (i+1))):=by rw [supL_succ,if_pos (by rw [<-hv]; exact hz),List.append_nil]; exact HO
    clear hv hz
    go_wp2
    go_roundg (gk - 1)
    case measure=>omega
    case rel=>exact ⟨i+1,by go_num,by omega,by omega,HO2,K2.out⟩
   ·have hne:(v != 0)=true:=by simp [hz]
    have HE:Hid (supL u (i+1)=supL u i ++ [(i:Int)]):=by show _=_; rw [supL_succ,if_neg (by rw [<-hv]; exact hz)]
    clear hv hz
    have kb2:=(Below.refl w3.heap.size w3).alloc (Nat.le_refl _) (Obj.cells #[Value.int .i64 (i:Int)] 3)
    have HO8:=hid (HO.out.on kb2)
    have HB8:=hid (onS K2.out kb2)
    have HC8:Hid ((w3.alloc (Obj.cells #[Value.int .i64 (i:Int)] 3)).cell? ((⟨w3.heap.size,0,none⟩:Addr).add 0)=some (.int .i64 (i:Int))):=tbox2
    have HZ8:=hid HB8.out.size
    have HIL:Hid ((supL u i).length<=1048576):=by show _<=_; rw [supL_len]; have:=zif u (fun _=>0) i; omega
    clear kb2
    go_wp2_with (first | (at_builtin; (refine wpList_append_lint rfl (.tmp 23) (.tmp 25) rfl HO8.out rfl (ad:=⟨w3.heap.size,0,none⟩) (c:=1) rfl HC8.out HZ8.out HIL.out ?_); intro v9 w9 o1 o2 o3))
    have HM9:Hid (OwnL w9 w1.heap.size v9 (supL u (i+1))):=by rw [HE.out]; exact hid o1
    have HBB:=hid (HB8.out.grown o2 HZ8.out (fun q e=>(HO8.out.lt q e).1))
    clear o1 o2 o3
    go_wp2
    go_roundg (gk - 1)
    case measure=>omega
    case rel=>exact ⟨i+1,by go_num,by omega,by omega,HM9,HBB.out⟩
  ·have hin':¬ (i:Int)<(n:Int):=by omega
   obtain rfl:i=n:=by omega
   go_wp2
   go_ret
   exact ⟨_,rfl,Own.mono HO.out HB.out.size,onS HB.out K2.out⟩
theorem weight11_any (P M:Nat) (A:Option Addr) (k c:Nat) (U:Option Addr) (n d:Nat) (u:Nat->Int) (w:World) (hf:FldOk P M) (h:IntsR w w.heap.size U n u) (hn:n<=1048576) (hu:∀ j,j<n->0<=u j/\u j<((P ^ M:Nat):Int)) :
  Calls Tryz.prog 55 #[.agg #[.int .i64 (P:Nat),.int .i64 (M:Nat),.slice A k c],.slice U n d] w fun e w'=>e=.returned (.int .i64 (disN u (fun _=>0) n:Nat))/\Below w.heap.size w w':=by
 have HU:=hid h
 have HQ:=hid hu
 clear h hu
 have hB:Below w.heap.size w (w.alloc (.cells #[.int .i64 (P:Nat),.int .i64 (M:Nat),.slice A k c] 24)):=(Below.refl _ _).alloc (Nat.le_refl _) _
 have rf:=zad (w:=w) (a:=.int .i64 (P:Nat)) (b:=.int .i64 (M:Nat)) (c:=.slice A k c) (T := 24)
 obtain ⟨w0,hw0⟩:∃ W,W=w.alloc (.cells #[.int .i64 (P:Nat),.int .i64 (M:Nat),.slice A k c] 24):=⟨_,rfl⟩
 rw [<-hw0] at hB rf
 go_enter Tryz.func55, Tryz.ntmps55
 go_upto_region 1 with fail
 rw [<-hw0]
 clear hw0
 have q0:w0.cell? ⟨w.heap.size,0,none⟩=some (.int .i64 (P:Nat)):=rf.cell (i:=0) (by omega)
 have q1:w0.cell? ⟨w.heap.size,1,none⟩=some (.int .i64 (M:Nat)):=rf.cell (i:=1) (by omega)
 have q2:w0.cell? ⟨w.heap.size,2,none⟩=some (.slice A k c):=rf.cell (i:=2) (by omega)
 clear rf
 go_wp2_with fail
 refine (support11_any P M A k c U n d u w0 hf (HU.out.on hB) hn HQ.out).mono ?_
 rintro e w1 ⟨v,rfl,hv,kb⟩
 obtain ⟨vA,vc,rfl⟩:=Own.shape hv
 have HB:=hid (onS hB kb)
 have HL:=hid (supL_len u n)
 clear kb hB q0 q1 q2 hv
 rw [HL.out]
 go_wp2
 go_ret
 exact ⟨rfl,HB.out⟩
def EncPost (q:Nat) (add mul:Nat->Nat->Nat) (n N:Nat) (V:Nat->Nat->Nat) (l:Nat) (u:Nat->Int) (w:World) (e:Ending) (w':World):Prop :=
 Below w.heap.size w w'/\((∃ v:Int,v≠0/\e=.returned (.tuple #[.slice none 0 0,.int .i64 v])/\FirstErr (WordErrs q n l u) v) ∨
  (l=n/\(∀ i,i<n->0<=u i/\u i<(q:Int))/\∃ g,e=.returned (.tuple #[.slice (some ⟨g,0,none⟩) N N,.int .i64 0])/\w.heap.size<=g/\w'.rowIs g 3 N (fun j=>.int .i64 (spE add mul V (fun i=>(u i).toNat) n j:Nat))))
theorem encode12_any (P M:Nat) (m:Nat->Nat) (A:Option Addr) (k c N:Nat) (T:Option Addr) (n d:Nat) (V:Nat->Nat->Nat) (U:Option Addr) (l uc:Nat) (u:Nat->Int) (w:World) (h:CodeR w P M m A k N T n V) (hnN:n<=1048576) (hu:IntsR w w.heap.size U l u) (hn:l<=9223372036854775807) :
  Calls Tryz.prog 54 #[.agg #[.int .i64 (P:Nat),.int .i64 (M:Nat),.slice A k c,.int .i64 (N:Nat),.slice T n d],.slice U l uc] w (EncPost (P ^ M) (addF P M) (mulF P M m) n N V l u w):=by
 have HC:=hid h
 have HU:=hid hu
 have hN:=h.ln2
 have hfo:=h.fld.1
 have hkm:=h.km
 clear h hu
 have rf:=zam (w:=w) (a:=.int .i64 (P:Nat)) (b:=.int .i64 (M:Nat)) (c:=.slice A k c) (d:=.int .i64 (N:Nat)) (e:=.slice T n d) (T := 27)
 have hB:Below w.heap.size w (w.alloc (.cells #[.int .i64 (P:Nat),.int .i64 (M:Nat),.slice A k c,.int .i64 (N:Nat),.slice T n d] 27)):=(Below.refl _ _).alloc (Nat.le_refl _) _
 obtain ⟨w1,hw1⟩:∃ W,W=w.alloc (.cells #[.int .i64 (P:Nat),.int .i64 (M:Nat),.slice A k c,.int .i64 (N:Nat),.slice T n d] 27):=⟨_,rfl⟩
 rw [<-hw1] at hB rf
 go_enter Tryz.func54, Tryz.ntmps54
 go_upto_region 1 with fail
 rw [<-hw1]
 clear hw1
 have q0:w1.cell? ⟨w.heap.size,0,none⟩=some (.int .i64 (P:Nat)):=rf.cell (i:=0) (by omega)
 have q1:w1.cell? ⟨w.heap.size,1,none⟩=some (.int .i64 (M:Nat)):=rf.cell (i:=1) (by omega)
 have q2:w1.cell? ⟨w.heap.size,2,none⟩=some (.slice A k c):=rf.cell (i:=2) (by omega)
 have q3:w1.cell? ⟨w.heap.size,3,none⟩=some (.int .i64 (N:Nat)):=rf.cell (i:=3) (by omega)
 have q4:w1.cell? ⟨w.heap.size,4,none⟩=some (.slice T n d):=rf.cell (i:=4) (by omega)
 go_wp2_with fail
 have h1:=HC.out.on hB
 refine (zdc (P:Int) (M:Int) A k c _ (N:Int) T n d _ _ w1 h1.ints h1.rows).mono ?_
 rintro e w2 ⟨v,rfl,hv,kb⟩
 obtain rfl:v=0:=FirstErr.unique hv HC.out.errs
 replace hB:=onS hB kb
 replace q0:=cellS kb q0
 replace q1:=cellS kb q1
 replace q2:=cellS kb q2
 replace q3:=cellS kb q3
 replace q4:=cellS kb q4
 clear kb rf hv h1
 go_wp2_with fail
 refine (list12_any P M A k c U l uc n u w2 hfo (HU.out.on hB) hn).mono ?_
 rintro e w3 ⟨v,rfl,hv,kb⟩
 have HV:=hid hv
 replace hB:=onS hB kb
 replace q0:=cellS kb q0
 replace q1:=cellS kb q1
 replace q2:=cellS kb q2
 replace q3:=cellS kb q3
 replace q4:=cellS kb q4
 clear hv kb
 by_cases hv0:v=0
 rotate_left
 ·have hne:(v != 0)=true:=by simp [hv0]
  have HV0:=hid hv0
  have HB:=hid hB
  clear hv0 q0 q1 q2 q3 q4 hB
  go_wp2
  go_ret2
  exact ⟨HB.out,.inl ⟨v,HV0.out,rfl,HV.out⟩⟩
 ·subst hv0
  have hl:l=n/\∀ i,i<n->0<=u i/\u i<((P ^ M:Nat):Int):=by
   rcases HV.out with ⟨_,h2⟩ | ⟨h1,h2⟩
   ·exact absurd h2 (by omega)
   ·rcases h2 with ⟨_,h4⟩ | ⟨h3,_⟩
    ·exact absurd h4 (by omega)
    ·exact ⟨h1,fun i hi=>h3 i (by omega)⟩
  obtain ⟨rfl,hin⟩:=hl
  have HIN:=hid hin
  clear hin HV
  have hne:((0:Int) != 0)=false:=by simp
  go_wp2_with fail
  have h1:=HC.out.on hB
  refine (zfH P M A k c m U uc (fun i=>(u i).toNat) T l d N V w3 h1.fld h1.mod h1.km ((HU.out.on hB).congr fun i hi=>by have:=HIN.out i hi; omega) (fun i hi=>by have:=HIN.out i hi; omega) h1.rows h1.lt (by omega) hnN).mono ?_
  rintro e w4 ⟨g,rfl,hg,hrow,kb⟩
  have HG:=hid (Nat.le_trans hB.size hg)
  have HROW:=hid hrow
  have HB:=hid (onS hB kb)
  clear hg hrow kb hB q0 q1 q2 q3 q4 h1 hne
  go_wp2
  go_ret2
  exact ⟨HB.out,.inr ⟨rfl,HIN.out,g,rfl,HG.out,HROW.out⟩⟩
theorem viterbiSound_any (ALIVE:∀ w:World,Calls Tryz.prog 51 #[] w fun e w'=>e=.returned (.bool true)/\Below w.heap.size w w')
  (P M:Int) (A:Option Addr) (k c:Nat) (f:Nat->Int) (N:Int) (TC:Option Addr) (n d:Nat) (ln:Nat->Nat) (V:Nat->Nat->Int) (T:Trel) (TA TB:Option Addr) (ca cb:Nat) (D:Int) (PA:Option Addr) (pn pc:Nat) (lp:Nat->Nat) (L:Nat->Nat->Int) (MA:Option Addr) (mn mc:Nat) (g:Nat->Int) (w:World) (hr:IntsR w w.heap.size A k f) (h:IntRows w TC n ln V) (hkc:k<=c) (hT:T.Reads w TA TB) (hP:IntRows w PA pn lp L) (hM:IntsR w w.heap.size MA mn g) (hmn:mn<=9223372036854775807) :
  Calls Tryz.prog 11 #[.agg #[.int .i64 P,.int .i64 M,.slice A k c,.int .i64 N,.slice TC n d,.slice TA T.nw ca,.slice TB T.n cb,.int .i64 D,.slice PA pn pc,.slice MA mn mc]] w fun e w'=>e=.returned (.bool true)/\Below w.heap.size w w':=by
 have HA:=hid ALIVE
 have HI:=hid hr
 have HT:=hid h
 have HR:=hid hT
 have HPR:=hid hP
 have HM:=hid hM
 clear hr h hT hP hM ALIVE
 have rf:=clmBox_row (w:=w) (a:=.int .i64 P) (b:=.int .i64 M) (c:=.slice A k c) (d:=.int .i64 N) (e:=.slice TC n d) (t:=.slice TA T.nw ca) (u:=.slice TB T.n cb) (x:=.int .i64 D) (y:=.slice PA pn pc) (z:=.slice MA mn mc) (T := 83)
 have hB:Below w.heap.size w (w.alloc (.cells #[.int .i64 P,.int .i64 M,.slice A k c,.int .i64 N,.slice TC n d,.slice TA T.nw ca,.slice TB T.n cb,.int .i64 D,.slice PA pn pc,.slice MA mn mc] 83)):=(Below.refl _ _).alloc (Nat.le_refl _) _
 obtain ⟨w3,hw3⟩:∃ W,W=w.alloc (.cells #[.int .i64 P,.int .i64 M,.slice A k c,.int .i64 N,.slice TC n d,.slice TA T.nw ca,.slice TB T.n cb,.int .i64 D,.slice PA pn pc,.slice MA mn mc] 83):=⟨_,rfl⟩
 rw [<-hw3] at hB rf
 go_enter Tryz.func11, Tryz.ntmps11
 go_upto_region 1 with fail
 rw [<-hw3]
 clear hw3
 obtain ⟨b0,hb0⟩:∃ b,b=w.heap.size:=⟨_,rfl⟩
 rw [<-hb0] at rf
 rw [<-hb0]
 clear hb0
 have HS:Hid (∀ X,Below w3.heap.size w3 X->(X.cell? ⟨b0,0,none⟩=some (.int .i64 P)/\X.cell? ⟨b0,1,none⟩=some (.int .i64 M)/\X.cell? ⟨b0,2,none⟩=some (.slice A k c)/\X.cell? ⟨b0,3,none⟩=some (.int .i64 N)/\X.cell? ⟨b0,4,none⟩=some (.slice TC n d)/\X.cell? ⟨b0,5,none⟩=some (.slice TA T.nw ca)/\X.cell? ⟨b0,6,none⟩=some (.slice TB T.n cb)/\X.cell? ⟨b0,7,none⟩=some (.int .i64 D)/\X.cell? ⟨b0,8,none⟩=some (.slice PA pn pc)/\X.cell? ⟨b0,9,none⟩=some (.slice MA mn mc))):=hid fun X hx =>
  ⟨(zaa rf hx).cell (i:=0) (by omega),(zaa rf hx).cell (i:=1) (by omega),(zaa rf hx).cell (i:=2) (by omega),(zaa rf hx).cell (i:=3) (by omega),(zaa rf hx).cell (i:=4) (by omega),(zaa rf hx).cell (i:=5) (by omega),(zaa rf hx).cell (i:=6) (by omega),(zaa rf hx).cell (i:=7) (by omega),(zaa rf hx).cell (i:=8) (by omega),(zaa rf hx).cell (i:=9) (by omega)⟩
 have HB:=hid hB
 clear hB rf
 go_wp2_with fail
 refine (HA.out w3).mono ?_
 rintro e w4 ⟨rfl,kb⟩
 have KB:=hid kb
 clear kb
 obtain ⟨_,_,_,_,_,p0,p1,_,_,_⟩:=HS.out _ KB.out
 go_wp2_with fail
 refine (zi0 T TA TB ca cb 3000 (by omega) w4 (HR.out.on (onS HB.out KB.out))).mono ?_
 rintro e w5 ⟨⟨r,rfl⟩,kb⟩
 replace KB:=hid (onS KB.out kb)
 clear kb p0 p1
 cases r with
 | false =>
  go_wp2
  go_ret
  exact ⟨rfl,onS HB.out KB.out⟩
 | true =>
  obtain ⟨p0,p1,p2,p3,p4,p5,p6,p7,p8,p9⟩:=HS.out _ KB.out
  go_wp2_with fail
  refine (zfX P M A k c f N TC n d ln V T TA TB ca cb D PA pn pc lp L w5 (HI.out.on (onS HB.out KB.out)) (HT.out.on (onS HB.out KB.out)) hkc (HR.out.on (onS HB.out KB.out)) (HPR.out.on (onS HB.out KB.out))).mono ?_
  rintro e w6 ⟨u,rfl,hu,kb⟩
  have HU:=hid hu
  replace KB:=hid (onS KB.out kb)
  clear kb hu p0 p1 p2 p3 p4 p5 p6 p7 p8 p9
  by_cases hu0:u=0
  rotate_left
  ·have hub:(u != 0)=true:=by simpa using hu0
   clear hu0
   go_wp2
   go_ret
   exact ⟨rfl,onS HB.out KB.out⟩
  subst hu0
  obtain ⟨P',M',N',rfl,rfl,rfl,hC,hS⟩:=PChk.sound HI.out HT.out HU.out
  have HC:=hid hC
  have HSO:=hid hS
  clear hC hS
  obtain ⟨p0,p1,p2,p3,p4,p5,p6,p7,p8,p9⟩:=HS.out _ KB.out
  have hub:((0:Int) != 0)=false:=by simp
  go_wp2_with fail
  clear hub
  refine (encode12_any P' M' (fun i=>(f i).toNat) A k c N' TC n d (natT V) MA mn mc g w6 (HC.out.on (onS HB.out KB.out)) (by have:=HC.out.n_le; have:=HC.out.ln2; omega) (HM.out.on (onS HB.out KB.out)) hmn).mono ?_
  rintro e w7 ⟨kb,he⟩
  replace KB:=hid (onS KB.out kb)
  clear kb p0 p1 p2 p3 p4 p5 p6 p7 p8 p9
  obtain ⟨p0,p1,p2,p3,p4,p5,p6,p7,p8,p9⟩:=HS.out _ KB.out
  rcases he with ⟨v,hv,rfl,_⟩ | ⟨rfl,hin,gg,rfl,hgg,hrow⟩
  ·have hvb:(v != 0)=true:=by simpa using hv
   clear hv
   go_wp2_with fail
   have h1:=HC.out.on (onS HB.out KB.out)
   refine (zdc (P':Int) (M':Int) A k c _ (N':Int) TC n d _ _ w7 h1.ints h1.rows).mono ?_
   rintro e w8 ⟨v2,rfl,hv2,kb⟩
   obtain rfl:v2=0:=FirstErr.unique hv2 HC.out.errs
   replace KB:=hid (onS KB.out kb)
   clear kb p0 p1 p2 p3 p4 p5 p6 p7 p8 p9 hv2 h1 hvb
   go_wp2
   go_ret
   exact ⟨rfl,onS HB.out KB.out⟩
  ·have hvb:((0:Int) != 0)=false:=by simp
   have HIN:=hid hin
   have HRW:=hid hrow
   clear hin hrow hgg
   obtain ⟨W,hW⟩:∃ W,W=spE (addF P' M') (mulF P' M' fun i=>(f i).toNat) (natT V) (fun i=>(g i).toNat) mn:=⟨_,rfl⟩
   have HWS:Hid (∀ j,j<N'->(W j:Int)<((P' ^ M':Nat):Int)):=hid fun j _=>by
    have:=zcL (fieldLaws HC.out.fld) (V:=natT V) (fun i=>(g i).toNat) mn j
    rw [hW]
    omega
   have HWD:Hid (disN (fun j=>(W j:Int)) (fun _=>0) N'=0∨D<=(disN (fun j=>(W j:Int)) (fun _=>0) N':Nat)):=hid (HSO.out W ⟨fun i=>(g i).toNat,fun i hi=>by have:=HIN.out i hi; show (g i).toNat<P' ^ M'; omega,fun j _=>by rw [hW]⟩)
   have HRW2:Hid (IntsR w7 w7.heap.size (some ⟨gg,0,none⟩) N' (fun j=>(W j:Int))):=hid (by rw [hW]; exact zbk HRW.out)
   clear hW
   go_wp2_with fail
   clear hvb
   refine (weight11_any P' M' A k c (some ⟨gg,0,none⟩) N' N' (fun j=>(W j:Int)) w7 HC.out.fld.1 HRW2.out (by have:=HC.out.ln2; omega) (fun j hj=>⟨by omega,HWS.out j hj⟩)).mono ?_
   rintro e w8 ⟨rfl,kb⟩
   replace KB:=hid (onS KB.out kb)
   clear kb p0 p1 p2 p3 p4 p5 p6 p7 p8 p9
   obtain ⟨p0,p1,p2,p3,p4,p5,p6,p7,p8,p9⟩:=HS.out _ KB.out
   obtain ⟨z,hz⟩:∃ z,z=disN (fun j=>(W j:Int)) (fun _=>0) N':=⟨_,rfl⟩
   rw [<-hz] at HWD ⊢
   clear hz
   by_cases hz0:z=0
   ·have hzb:((z:Int) == 0)=true:=by simp [hz0]
    clear hz0
    go_wp2
    go_ret
    exact ⟨rfl,onS HB.out KB.out⟩
   ·have hzb:((z:Int) == 0)=false:=by simp [hz0]
    have hge:D<=(z:Int):=HWD.out.resolve_left hz0
    have hge2:decide ((z:Int) ≥ D)=true:=by simp [hge]
    clear hz0
    go_wp2
    go_ret
    exact ⟨rfl,onS HB.out KB.out⟩
theorem viterbiSound_law {H:Type} {enc:TypeId × Value->H} {w:World} {cs:Array Value}
  (h:SeesW enc Tryz.prog w 0 (fun _=>true) true 83 cs.toList) :
  Calls Tryz.prog 11 #[.agg cs] w fun e w'=>e=.returned (.bool true)/\Below w.heap.size w w':=by
 obtain ⟨cs⟩:=cs
 obtain ⟨P,M,A,k,c,N,TC,n,d,f,ln,V,T,TA,TB,ca,cb,D,PA,pn,pc,lp,L,MA,mn,mc,g,rfl,hkc,hr,ht,hT,hP,hM,h1,h2⟩:=sees_claim h
 exact viterbiSound_any zfZ P M A k c f N TC n d ln V T TA TB ca cb D PA pn pc lp L MA mn mc g w hr ht hkc hT hP hM (by unfold maxLen at h2; omega)
end Go.Proofs.YtioagplajkoohaaGreat