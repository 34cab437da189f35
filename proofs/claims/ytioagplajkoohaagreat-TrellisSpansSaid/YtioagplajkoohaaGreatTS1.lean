/- Merged texts of a claim: Base, Tk, IntsAll, FldP, Own, Copy, NatLow, NatLo2, FldQ, TabRow, TabAll, ElAll, Elim, Same09, Chk12, Null, CodeE, Dual12, WordsAll, AppCells, NatA, NatB, NatC, RatA, RatB, Rat13, RatC, PolyA, PAddAll, PMulAll, RefEval, PolyC, WtsAll, PatAll, UndAll, DualPl, SeesCode, Gf1, Gf2, Gf3, Gf4, Gf5, GfObj, GfMul, GfDot, GfChk, GfNew, DTab, MAdd, MCl, MEach, MElim, MCan, MChk, MOpen, MCano, MKer, Spc, SpOpen, PCode, PDual, ExpN, Dot04, Word12, Syn12, Tab55, RefRight, Nats, Right, RightLaw, Leaders, Between55, LeadersLaw, RecFirst, RecRed, RecFrom, Recover, RefRec, RecLaw, AppMany, Has12, RestPl, Rest10, ConRow, ConCode, ConTab, ConRec, ConLaw, SeesW, Trel, Shape, Less, Proper, TrelProper, Repeat, NumTab, Counting, NumRows, Valued, Forward, Paths, FewT, RefForward, RefPaths, Same11, SynMem, Syn, Turn09, Cmp11, SameN, RefIs, Check47, Cont47, TChk, ChkLaw, WordsMath, ZeroV, ZeroR, BoundV, MaxV, Proves, RefCP, CheckP, SeesClaim, PotLaw, MinPlus, IntTab, Bwd, IRows, IValued, IBack, IVals, BwdMath, Along, AliveAll, PotTop, Wt11, SoundLaw, IRepeat, VPot, RPot, Near23, PotsLaw, SpanPl, Spans. -/
import Derived.Test.YtioagplajkoohaaGreatTQ13
import Derived.Test.YtioagplajkoohaaGreatRows
import Derived.WalkKit
import Derived.WalkSpells
import Derived.WalkLawsBesides
import Derived.Deep.OwnRows
import Derived.ProofKit
import Derived.Deep.RegionHeld3
import Derived.Deep.Slices
import Derived.Lib.SmallJoins
import Derived.Deep.LoopGhost
import Derived.Deep.QuietTactic
import Derived.BigQuiet
import Derived.Deep.Cut
import Derived.Deep.CutBlock
import Derived.Deep.DeepCutAuto
import Derived.IntWalk
import Derived.StillTailTactics
import Derived.SizedLaws
import Derived.Deep.AppendSrc
import Derived.Maps.AppendAt
import Derived.Laws.Bits64b
import Derived.Shelf.Small.Bits
import Derived.Laws.CopyOwn
import Derived.Laws.StructEq
namespace Go.Proofs.YtioagplajkoohaaGreat
set_option maxRecDepth 100000
set_option maxHeartbeats 32000000
open Go.RowKit
open Go.ChangeShapes Go.WideShapes Go.ChangeAt
open Go.Shelf
theorem refSame_any (A A2:Option Addr) (c c2 x:Nat) (w:World) (h:NatOk w w.heap.size A x) (h2:NatOk w w.heap.size A2 x) (hn:dl x<=1073741824) :
  Calls Tryz.prog 92 #[.slice A (dl x) c,.slice A2 (dl x) c2] w fun e w'=>e=.returned (.bool true)/\Below w.heap.size w w':=by
 obtain ⟨n,hn'⟩:∃ n,n=dl x:=⟨_,rfl⟩
 have HN:=hid hn'
 rw [<-hn'] at hn ⊢
 clear hn'
 go_enter Tryz.func92, Tryz.ntmps92
 go_wp2
 go_loopg [5] n (fun gg iv wx=>∃ k:Nat,iv=.int .i64 (k:Nat)/\k<=n/\n<=k+gg/\Below w.heap.size w wx)
 case atStart=>exact ⟨0,rfl,by omega,by omega,Below.refl _ _⟩
 case round =>
  obtain ⟨k,rfl,hk,hkg,hB⟩:=hrel
  by_cases hlt:k<n
  ·obtain ⟨b,o,rfl,hb,e0⟩:=Lims.at (h.on hB) (i:=k) (by rw [<-HN.out]; exact hlt)
   obtain ⟨b2,o2,rfl,hb2,e2⟩:=Lims.at (h2.on hB) (i:=k) (by rw [<-HN.out]; exact hlt)
   have hlt':(k:Int)<(n:Int):=by omega
   have hk0:(0:Int)<=(k:Int):=by omega
   go_wp2
   go_quiet (fail)
   go_wp2
   go_roundg (gk - 1)
   case measure=>omega
   case rel=>exact ⟨k+1,by go_num,by omega,by omega,zac hB _⟩
  ·obtain rfl:k=n:=by omega
   go_wp2
   go_ret
   exact ⟨rfl,hB⟩
theorem listCell_app {l x:List Int} {k j:Nat} (h:k<l.length):listCell l k j=listCell (l ++ x) k j:=by
 unfold listCell
 rw [List.getD_eq_getElem?_getD,List.getD_eq_getElem?_getD,List.getElem?_append_left h]
theorem listCell_last {l:List Int} {x:Int} {j:Nat}:listCell (l ++ [x]) l.length j=.int .i64 x:=by
 unfold listCell
 simp [List.getD_eq_getElem?_getD]
theorem OwnL.cells {w:World} {base:Nat} {R:Value} {l:List Int} (x:Int) (h:OwnL w base R l):Own w base 3 1 R l.length (listCell (l ++ [x])):=h.congr fun _ hi _ _=>listCell_app hi
theorem wpList_append_lint {w:World} {ops:Array Oper} {rest:List Oper} {o:Oper} {a:Act} {Q:Exit->Act->World->Prop} (hgd:o.guard=none) (sl x:Operand)
  (ho:o.op=.call { callee:=.builtin .append,args:=#[sl,x],argTypes:=#[22, 22] })
  {base:Nat} {v:Value} {l:List Int} (h:OwnL w base v l) (hv:a.eval sl=v) {ad:Addr} {c:Nat} {r:Int} (hx:a.eval x=.slice (some ad) 1 c)
  (hcell:w.cell? (ad.add 0)=some (.int .i64 r)) (hbase:base<=w.heap.size) (hN:l.length<=1048576)
  (K:∀ v' w',OwnL w' base v' (l ++ [r])->w.grownBy w' v.ownBlock->(v'.ownBlock=v.ownBlock∨v'.ownBlock=some w.heap.size)->wpList Tryz.prog ops Q rest (a.put o.dst v') w'):wpList Tryz.prog ops Q (o :: rest) a w:=by
 obtain ⟨i0,qi0,qz0,qz1,qz2⟩:=info_parts Tryz.infoInt
 refine zaK w hgd sl x _ ho base 3 i0 _ 1 8 Tryz.underlying22 qi0 qz0 qz1 qz2 rfl (by omega) v l.length _ hv (h.cells r) ad c hx (fun j hj=>by
   obtain rfl:j=0:=by omega
   rw [listCell_last]
   exact hcell) (fun _ _=>by rw [listCell_last]; rfl) (by unfold maxLen; omega) (by omega) hbase ?_
 intro v' w3 hown3 hg3 hat3
 exact K v' w3 (by unfold OwnL; rw [List.length_append]; exact hown3) hg3 hat3
namespace Fie
variable {K:Type} [Add K] [Mul K] [Neg K] [Zero K] [One K] (F:Fie K)
include F
end Fie
theorem field12_any (P M:Int) (A:Option Addr) (k c:Nat) (f:Nat->Int) (w:World) (h:IntsR w w.heap.size A k f) (hk:k<=1048576) :
  Calls Tryz.prog 82 #[.agg #[.int .i64 P,.int .i64 M,.slice A k c]] w (FieldPost P M k f w):=by
 have HR:=hid h
 clear h
 have rf:=zad (w:=w) (a:=.int .i64 P) (b:=.int .i64 M) (c:=.slice A k c) (T := 24)
 have hB:Below w.heap.size w (w.alloc (.cells #[.int .i64 P,.int .i64 M,.slice A k c] 24)):=(Below.refl _ _).alloc (Nat.le_refl _) _
 have hsz:(w.alloc (.cells #[.int .i64 P,.int .i64 M,.slice A k c] 24)).heap.size=w.heap.size+1:=by simp
 obtain ⟨w0,hw0⟩:∃ W,W=w.alloc (.cells #[.int .i64 P,.int .i64 M,.slice A k c] 24):=⟨_,rfl⟩
 have rm:=zad (w:=w0) (a:=.int .i64 0) (b:=.int .i64 0) (c:=.slice none 0 0) (T := 24)
 have kb:Below w0.heap.size w0 (w0.alloc (.cells #[.int .i64 0,.int .i64 0,.slice none 0 0] 24)):=(Below.refl _ _).alloc (Nat.le_refl _) _
 obtain ⟨w1,hw1⟩:∃ W,W=w0.alloc (.cells #[.int .i64 0,.int .i64 0,.slice none 0 0] 24):=⟨_,rfl⟩
 rw [<-hw0] at hB rf hsz
 rw [<-hw1] at rm kb
 rw [hsz] at rm
 replace rf:=zaa rf kb
 replace hB:=onS hB kb
 go_enter Tryz.func82, Tryz.ntmps82
 go_upto_region 1 with fail
 rw [<-hw0,<-hw1]
 clear hw0 hw1 kb hsz
 have q0:w1.cell? ⟨w.heap.size,0,none⟩=some (.int .i64 P):=rf.cell (i:=0) (by omega)
 have q1:w1.cell? ⟨w.heap.size,1,none⟩=some (.int .i64 M):=rf.cell (i:=1) (by omega)
 have q2:w1.cell? ⟨w.heap.size,2,none⟩=some (.slice A k c):=rf.cell (i:=2) (by omega)
 go_wp2
 refine wp_region_held_drew (S:=fun w'=>w'.cell? ⟨w.heap.size,0,none⟩=some (.int .i64 P)/\w'.cell? ⟨w.heap.size,1,none⟩=some (.int .i64 M)/\w'.cell? ⟨w.heap.size,2,none⟩=some (.slice A k c)) (by kernel_rfl) ⟨cellS (Below.refl _ _).drew (q0),cellS (Below.refl _ _).drew (q1),cellS (Below.refl _ _).drew (q2)⟩ (fun hHeld=>?_)
 obtain ⟨w2,hw⟩:∃ W,W=World.drew w1:=⟨_,rfl⟩
 have kb:Below w1.heap.size w1 w2:=by rw [hw]; exact (Below.refl _ _).drew
 rw [<-hw] at hHeld ⊢
 clear hw
 replace rf:=zaa rf kb
 replace rm:=zaa rm kb
 replace hB:=onS hB kb
 replace q0:=cellS kb q0
 replace q1:=cellS kb q1
 replace q2:=cellS kb q2
 clear kb
 refine tkq 0 (h:=tkq 1 (h:=tkq 2 (h:=tkq 3 (h:=tkq 5 (h:=tkq 6 (h:=?_))))))
 refine rdq 4 (h:=fun K hK=>?_)
 go_simp
 obtain ⟨w3,hw⟩:∃ W,W=World.alloc w2 (Obj.cells #[] 3):=⟨_,rfl⟩
 have kb:Below w2.heap.size w2 w3:=by rw [hw]; exact (Below.refl _ _).alloc (Nat.le_refl _) _
 have n0:w3.rowIs w2.heap.size 3 0 (fun _=>undef):=by rw [hw]; exact ⟨_,zaw rfl,rfl,fun i hi=>absurd hi (by omega)⟩
 have hn0:w.heap.size<=w2.heap.size:=hB.size
 rw [<-hw]
 clear hw
 obtain ⟨b_n0,hb⟩:∃ b,b=w2.heap.size:=⟨_,rfl⟩
 rw [<-hb] at n0 hn0 ⊢
 clear hb
 replace rf:=zaa rf kb
 replace rm:=zaa rm kb
 replace hB:=onS hB kb
 replace q0:=cellS kb q0
 replace q1:=cellS kb q1
 replace q2:=cellS kb q2
 clear kb
 refine bkq hK ⟨q0,q1,q2⟩ (h:=fun hHeld=>?_)
 clear hK K
 refine rdq 7 (h:=fun K hK=>?_)
 have hsrc:=HR.out.on hB
 refine zbo (by rfl) (.tmp 7) (.tmp 9) (by rfl) (b0:=b_n0) (base:=w.heap.size) (by rfl) n0 hn0 (A:=A) (c:=c) (n:=k) (f:=f) (by rfl) hsrc hk ?_
 intro v7 w4 hv7 kb hat7
 clear hat7 n0 hn0 hsrc
 replace rf:=zaa rf kb
 replace rm:=zaa rm kb
 replace hB:=onS hB kb
 replace q0:=cellS kb q0
 replace q1:=cellS kb q1
 replace q2:=cellS kb q2
 clear kb
 have hne7:=zar rm hv7 (by decide)
 obtain ⟨A7,c7,hsh⟩:=Own.shape hv7
 subst hsh
 refine bkq hK ⟨q0,q1,q2⟩ (h:=fun hHeld=>?_)
 clear hK K
 refine tkq 8 (h:=?_)
 refine rdq 9 (h:=fun K hK=>?_)
 have r0:=rm.frozen 0
 have s0:w4.cell? ⟨w.heap.size+1,0,none⟩=some _:=rm.cell (i:=0) (by omega)
 have r1:=rm.frozen 1
 have s1:w4.cell? ⟨w.heap.size+1,1,none⟩=some _:=rm.cell (i:=1) (by omega)
 have r2:=rm.frozen 2
 have s2:w4.cell? ⟨w.heap.size+1,2,none⟩=some _:=rm.cell (i:=2) (by omega)
 go_simp
 clear r0 s0 r1 s1 r2 s2
 generalize hw9:World.setCell _ _ _=w5
 obtain ⟨row9,hg9⟩:=zgs rm hw9.symm
 clear hw9
 replace hv7:=Own.kept hv7 hg9 hne7
 replace hB:=hB.grown hg9 hB.size (fun q e=>by injection e with e; omega)
 have p0:=hg9.cell q0 (by simp)
 have p1:=hg9.cell q1 (by simp)
 have p2:=hg9.cell q2 (by simp)
 clear q0 q1 q2 rf
 clear hg9
 clear rm
 have rm:=row9
 clear row9
 refine bkq hK ⟨p0,p1,p2⟩ (h:=fun hHeld=>?_)
 clear hK K
 refine wpAnyH_done (by kernel_rfl) ?_ _
 clear hHeld
 have e0:w5.cell? ⟨w.heap.size+1,0,none⟩=some (.int .i64 P):=rm.cell (i:=0) (by omega)
 have e1:w5.cell? ⟨w.heap.size+1,1,none⟩=some (.int .i64 M):=rm.cell (i:=1) (by omega)
 have e2:w5.cell? ⟨w.heap.size+1,2,none⟩=some (.slice A7 k c7):=rm.cell (i:=2) (by omega)
 go_wp2
 refine bodyPost_ret (v:=.agg #[.int .i64 P,.int .i64 M,.slice A7 k c7]) (by simp [results,Tryz.results82, go_sem,e0,e1,e2]) rfl ?_
 exact ⟨_,rfl,hv7,hB⟩
def MakePost (P M:Nat) (m:Nat->Nat) (k n' N:Nat) (V':Nat->Nat->Nat) (w:World) (e:Ending) (w':World):Prop :=
 ∃ v lv a p W,e=.returned (.agg #[.int .i64 (P:Nat),.int .i64 (M:Nat),v,.int .i64 (N:Nat),lv])/\Own w' w.heap.size 3 1 v k (fun j _=>.int .i64 (m j:Nat))/\MTab w' w.heap.size lv a N W/\Below w.heap.size w w' /\
  EchN (P ^ M) n' N N a p W/\RowOps (P ^ M) (addF P M) (mulF P M m) n' N V' W
theorem make_any (P M:Nat) (m:Nat->Nat) (A:Option Addr) (k c:Nat) (T:Option Addr) (n d N:Nat) (V:Nat->Nat->Nat) (w:World) (hf:FieldOk P M m) (hm:ModOk w P M A m) (hkM:M=1∨k=M) (hi:IntsR w w.heap.size A k (fun i=>(m i:Nat))) (hk:k<=8)
  (h:MRows w T n N V) (hV:∀ i,i<n->∀ j,j<N->V i j<P ^ M) (hN:0<N) (hN2:N<=1048576) (hn:n<=1048576) :
  Calls Tryz.prog 21 #[.agg #[.int .i64 (P:Nat),.int .i64 (M:Nat),.slice A k c],.slice T n d,.int .i64 (N:Nat)] w (MakePost P M m k n N V w):=by
 have HI:=hid hi
 clear hi
 have rf:=zad (w:=w) (a:=.int .i64 (P:Nat)) (b:=.int .i64 (M:Nat)) (c:=.slice A k c) (T := 24)
 have hB:Below w.heap.size w (w.alloc (.cells #[.int .i64 (P:Nat),.int .i64 (M:Nat),.slice A k c] 24)):=(Below.refl _ _).alloc (Nat.le_refl _) _
 have hsz:(w.alloc (.cells #[.int .i64 (P:Nat),.int .i64 (M:Nat),.slice A k c] 24)).heap.size=w.heap.size+1:=by simp
 obtain ⟨w0,hw0⟩:∃ W,W=w.alloc (.cells #[.int .i64 (P:Nat),.int .i64 (M:Nat),.slice A k c] 24):=⟨_,rfl⟩
 have rm:=zam (w:=w0) (a:=.int .i64 0) (b:=.int .i64 0) (c:=.slice none 0 0) (d:=.int .i64 0) (e:=.slice none 0 0) (T := 27)
 have kb:Below w0.heap.size w0 (w0.alloc (.cells #[.int .i64 0,.int .i64 0,.slice none 0 0,.int .i64 0,.slice none 0 0] 27)):=(Below.refl _ _).alloc (Nat.le_refl _) _
 obtain ⟨w1,hw1⟩:∃ W,W=w0.alloc (.cells #[.int .i64 0,.int .i64 0,.slice none 0 0,.int .i64 0,.slice none 0 0] 27):=⟨_,rfl⟩
 rw [<-hw0] at hB rf hsz
 rw [<-hw1] at rm kb
 rw [hsz] at rm
 replace rf:=zaa rf kb
 replace hB:=onS hB kb
 go_enter Tryz.func21, Tryz.ntmps21
 go_upto_region 1 with fail
 rw [<-hw0,<-hw1]
 clear hw0 hw1 kb hsz
 have q0:w1.cell? ⟨w.heap.size,0,none⟩=some (.int .i64 (P:Nat)):=rf.cell (i:=0) (by omega)
 have q1:w1.cell? ⟨w.heap.size,1,none⟩=some (.int .i64 (M:Nat)):=rf.cell (i:=1) (by omega)
 have q2:w1.cell? ⟨w.heap.size,2,none⟩=some (.slice A k c):=rf.cell (i:=2) (by omega)
 go_wp2_with fail
 refine (zdA P M A k c m T n d N N V w1 hf (zav hm hB) hkM (h.on hB) hV (Nat.le_refl _) hN hN2 hn).mono ?_
 rintro e w2 ⟨lv,pv,a,p,W,rfl,hM,_,kb,hE,hR⟩
 replace hM:=hM.mono hB.size
 replace hB:=onS hB kb
 replace rf:=zaa rf kb
 replace rm:=zaa rm kb
 obtain ⟨LA,lc,hlv⟩:=hM.shape
 subst hlv
 have HE:=hid hE
 have HR:=hid hR
 clear q0 q1 q2 kb hE hR h hV
 have q0:w2.cell? ⟨w.heap.size,0,none⟩=some (.int .i64 (P:Nat)):=rf.cell (i:=0) (by omega)
 have q1:w2.cell? ⟨w.heap.size,1,none⟩=some (.int .i64 (M:Nat)):=rf.cell (i:=1) (by omega)
 have q2:w2.cell? ⟨w.heap.size,2,none⟩=some (.slice A k c):=rf.cell (i:=2) (by omega)
 go_wp2_with fail
 refine (field12_any (P:Nat) (M:Nat) A k c (fun i=>(m i:Nat)) w2 (HI.out.on hB) (by omega)).mono ?_
 rintro e w3 ⟨v,rfl,hv,kb⟩
 replace hv:=hv.mono hB.size
 replace hB:=onS hB kb
 replace rm:=zaa rm kb
 replace hM:=hM.on kb
 clear q0 q1 q2 kb rf
 have hne:=zar rm hv (by decide)
 obtain ⟨VA,vc,hsh⟩:=hv.shape
 subst hsh
 have r0:=rm.frozen 0
 have r1:=rm.frozen 1
 have r2:=rm.frozen 2
 have r3:=rm.frozen 3
 have r4:=rm.frozen 4
 have s0:w3.cell? ⟨w.heap.size+1,0,none⟩=some _:=rm.cell (i:=0) (by omega)
 have s1:w3.cell? ⟨w.heap.size+1,1,none⟩=some _:=rm.cell (i:=1) (by omega)
 have s2:w3.cell? ⟨w.heap.size+1,2,none⟩=some _:=rm.cell (i:=2) (by omega)
 have s3:w3.cell? ⟨w.heap.size+1,3,none⟩=some _:=rm.cell (i:=3) (by omega)
 have s4:w3.cell? ⟨w.heap.size+1,4,none⟩=some _:=rm.cell (i:=4) (by omega)
 go_wp2
 clear r0 r1 r2 r3 r4 s0 s1 s2 s3 s4
 generalize hw9:World.setCell _ _ _=w4
 obtain ⟨row9,hg9⟩:=zcM rm hw9.symm
 have hv9:=Own.kept hv hg9 hne
 have hM9:=hM.kept hg9 rm (by decide) (by decide)
 have hB9:=hB.grown hg9 hB.size (fun q e=>by injection e with e; omega)
 clear hw9 hg9 hv hM hB rm
 have e0:w4.cell? ⟨w.heap.size+1,0,none⟩=some (.int .i64 (P:Nat)):=row9.cell (i:=0) (by omega)
 have e1:w4.cell? ⟨w.heap.size+1,1,none⟩=some (.int .i64 (M:Nat)):=row9.cell (i:=1) (by omega)
 have e2:w4.cell? ⟨w.heap.size+1,2,none⟩=some (.slice VA k vc):=row9.cell (i:=2) (by omega)
 have e3:w4.cell? ⟨w.heap.size+1,3,none⟩=some (.int .i64 (N:Nat)):=row9.cell (i:=3) (by omega)
 have e4:w4.cell? ⟨w.heap.size+1,4,none⟩=some (.slice LA a lc):=row9.cell (i:=4) (by omega)
 refine bodyPost_ret (v:=.agg #[.int .i64 (P:Nat),.int .i64 (M:Nat),.slice VA k vc,.int .i64 (N:Nat),.slice LA a lc]) (by simp [results,Tryz.results21, go_sem,e0,e1,e2,e3,e4]) rfl ?_
 exact ⟨_,_,a,p,W,rfl,hv9,hM9,hB9,HE.out,HR.out⟩
theorem FirstErr.zero_all:∀ {l:List (Prop × Int)} {v:Int},(∀ x ∈ l,x.1)->FirstErr l v->v=0
 | [],_,_,h=>h
 | (p,e) :: l,v,hp,h=>by
  rcases h with ⟨h1,_⟩ | ⟨_,h⟩
  ·exact absurd (hp (p,e) (by simp)) h1
  ·exact FirstErr.zero_all (fun x hx=>hp x (by simp [hx])) h
open Go
section
variable {q n k:Nat} {add mul:Nat->Nat->Nat} {V:Nat->Nat->Nat}
theorem EchN.spE_pv (hL:FieldLaws q add mul) {a:Nat} {p:Nat->Nat} (h:EchN q n k k a p V) {c:Nat->Nat} (hc:∀ i,i<a->c i<q) {s:Nat} (hs:s<a):spE add mul V c a (p s)=c s:=by
 have hle:=h.le
 have key:∀ t,t<=a->spE add mul V c t (p s)=if s<t then c s else 0:=by
  intro t
  induction t with
  | zero=>intro _; rfl
  | succ t ih =>
   intro ht
   show add (spE add mul V c t (p s)) (mul (c t) (V t (p s)))=_
   rw [ih (by omega)]
   by_cases e:t=s
   ·subst e
    rw [if_neg (by omega),if_pos (by omega),h.one t hs,hL.mulOne (hc t hs),hL.zeroAdd _ (hc t hs)]
   ·rw [h.zero s hs t (by omega) e,hL.mulZero (hc t (by omega))]
    by_cases e2:s<t
    ·rw [if_pos e2,if_pos (by omega),hL.addZero (hc s hs)]
    ·have:=hL.two
     rw [if_neg e2,if_neg (by omega),hL.addZero (by omega)]
 rw [key a (Nat.le_refl _),if_pos hs]
end
section
variable {P M g:Nat} {m:Nat->Nat} {w:World}
theorem gfSub_any (x y:Int) (h:GF w w.heap.size g P M m) :
  Calls Tryz.prog 107 #[.pointer (some ⟨g,0,none⟩),.int .i64 x,.int .i64 y] w fun e w'=>e=.returned (.int .i64 (addF P M (inV (P ^ M) x) (negF P M (inV (P ^ M) y)):Nat))/\Below w.heap.size w w':=by
 have hP0:0<P:=by have:=h.ok.1.1; omega
 go_enter Tryz.func107, Tryz.ntmps107
 go_wp2_with fail
 refine (zdH y h).mono ?_
 rintro e w1 ⟨rfl,hB⟩
 have h1:=h.on hB
 clear h
 have hn:Hid (inV (P ^ M) ((negF P M (inV (P ^ M) y):Nat):Int)=negF P M (inV (P ^ M) y)):=zaE (za7 hP0)
 obtain ⟨Y,hY⟩:∃ Y,Y=negF P M (inV (P ^ M) y):=⟨_,rfl⟩
 rw [<-hY] at hn
 rw [<-hY]
 have HY:=hid hY
 clear hY
 go_wp2_with fail
 refine (zdG x (Y:Int) h1).mono ?_
 rintro e w2 ⟨rfl,kb⟩
 rw [hn.out]
 replace hB:=onS hB kb
 clear kb h1 hn
 obtain ⟨Z,hZ⟩:∃ Z,Z=addF P M (inV (P ^ M) x) Y:=⟨_,rfl⟩
 rw [<-hZ]
 have HZ:=hid hZ
 clear hZ
 go_wp2
 go_ret
 exact ⟨by rw [HZ.out,HY.out]; rfl,hB⟩
end
def WordErrs (q N l:Nat) (u:Nat->Int):List (Prop × Int):=[(l=N,4),(AllIn q l u,2)]
theorem list12_any (P M:Nat) (A:Option Addr) (k c:Nat) (U:Option Addr) (l d N:Nat) (u:Nat->Int) (w:World) (hf:FldOk P M) (h:IntsR w w.heap.size U l u) (hn:l<=9223372036854775807) :
  Calls Tryz.prog 41 #[.agg #[.int .i64 (P:Nat),.int .i64 (M:Nat),.slice A k c],.slice U l d,.int .i64 (N:Nat)] w (ErrsPost (WordErrs (P ^ M) N l u) w):=by
 have HU:=hid h
 clear h
 have hB:Below w.heap.size w (w.alloc (.cells #[.int .i64 (P:Nat),.int .i64 (M:Nat),.slice A k c] 24)):=(Below.refl _ _).alloc (Nat.le_refl _) _
 have rf:=zad (w:=w) (a:=.int .i64 (P:Nat)) (b:=.int .i64 (M:Nat)) (c:=.slice A k c) (T := 24)
 obtain ⟨w0,hw0⟩:∃ W,W=w.alloc (.cells #[.int .i64 (P:Nat),.int .i64 (M:Nat),.slice A k c] 24):=⟨_,rfl⟩
 rw [<-hw0] at hB rf
 go_enter Tryz.func41, Tryz.ntmps41
 go_upto_region 1 with fail
 rw [<-hw0]
 clear hw0
 have q0:w0.cell? ⟨w.heap.size,0,none⟩=some (.int .i64 (P:Nat)):=rf.cell (i:=0) (by omega)
 have q1:w0.cell? ⟨w.heap.size,1,none⟩=some (.int .i64 (M:Nat)):=rf.cell (i:=1) (by omega)
 have q2:w0.cell? ⟨w.heap.size,2,none⟩=some (.slice A k c):=rf.cell (i:=2) (by omega)
 clear rf
 by_cases hl:l=N
 ·have HL:=hid hl
  have hl':((l:Int) != (N:Int))=false:=by simp [hl]
  clear hl
  go_wp2_with fail
  refine (zd6 P M A k c U l d u w0 hf (HU.out.on hB) hn).mono ?_
  rintro e w1 ⟨v,rfl,hv,kb⟩
  have HV:=hid hv
  replace hB:=onS hB kb
  clear hv kb q0 q1 q2
  go_wp2
  go_ret
  refine errsPost (.inr ⟨HL.out,?_⟩) hB
  rcases HV.out with ⟨h1,h2⟩ | ⟨h1,h2⟩
  ·exact .inr ⟨h2,h1⟩
  ·exact .inl ⟨h2,h1⟩
 ·have HL:=hid hl
  have hl':((l:Int) != (N:Int))=true:=by simp; omega
  clear hl
  go_wp2
  go_ret
  exact errsPost (.inl ⟨HL.out,rfl⟩) hB
section
variable {q n k:Nat} {add mul:Nat->Nat->Nat} {V:Nat->Nat->Nat} {neg:Nat->Nat}
theorem add_cancel (hL:FieldLaws q add mul) {x y z:Nat} (hx:x<q) (hy:y<q) (hz:z<q) (h1:add x z=0) (h2:add y z=0):x=y:=by
 rw [<-hL.zeroAdd x hx,<-h2,hL.addAssoc y z x hy hz hx,hL.addComm z x,h1,hL.addComm,hL.zeroAdd y hy]
theorem inSp_coef (hL:FieldLaws q add mul) {p:Nat->Nat} (hE:EchN q n k k n p V) {u:Nat->Nat} (hu:∀ j,j<k->u j<q):InSp q add mul n k V u↔∀ j,j<k->u j=spE add mul V (fun i=>u (p i)) n j:=by
 constructor
 ·rintro ⟨c,hc,hx⟩ j hj
  rw [hx j hj]
  refine zb3 n fun i hi=>⟨?_,rfl⟩
  rw [hx _ (hE.pvlt i hi),hE.spE_pv hL hc hi]
 ·intro h
  exact ⟨fun i=>u (p i),fun i hi=>hu _ (hE.pvlt i hi),h⟩
end
def twoT:Trel:=⟨2,fun _=>1,1,fun _=>2,fun _ _=>0,fun _ j=>(j:Nat),fun _ _=>0⟩
theorem twoT_proper:twoT.properE=0:=by decide +kernel
theorem twoT_fwd:twoT.fwd (fun _ _=>1) twoT.n 0=2:=by decide +kernel
theorem twoT_reads {w:World} {c d:Nat} {b1 b2 b3:Nat} (h1:w.cell? ⟨b1,0,none⟩=some (.int .i64 1)) (h2:w.cell? ⟨b1,1,none⟩=some (.int .i64 1))
  (h3:w.cell? ⟨b3,0,none⟩=some (.slice (some ⟨b2,0,none⟩) 2 c)) (hc:2<=c) (hc2:c<=maxLen)
  (h4:∀ j,j<2->w.cell? ⟨b2,j*3,none⟩=some (.int .i64 0)/\w.cell? ⟨b2,j*3+1,none⟩=some (.int .i64 (j:Nat))/\w.cell? ⟨b2,j*3+2,none⟩=some (.int .i64 0)) (_:d=1) :
  twoT.Reads w (some ⟨b1,0,none⟩) (some ⟨b3,0,none⟩):=by
 refine ⟨fun i hi=>⟨b1,0,rfl,World.block_lt_of_cell? _ _ h1,fun j hj=>?_⟩,fun i _=>⟨by show (-9223372036854775808:Int)<=1; omega,by show (1:Int)<=9223372036854775807; omega⟩,fun i hi=>?_,by show 2<=_; omega,by show 1<=_; omega,fun i _=>by show 2<=_; omega⟩
 ·obtain rfl:j=0:=by omega
  match i,hi with
  | 0,_=>exact h1
  | 1,_=>exact h2
 ·obtain rfl:i=0:=by have:i<1:=hi; omega
  refine ⟨b3,0,some ⟨b2,0,none⟩,c,rfl,World.block_lt_of_cell? _ _ h3,h3,hc,hc2,fun j hj=>⟨b2,0,rfl,World.block_lt_of_cell? _ _ (h4 0 (by omega)).1,fun q hq=>?_⟩,fun j hj=>⟨⟨by show (-9223372036854775808:Int)<=0; omega,by show (0:Int)<=9223372036854775807; omega⟩,⟨by show (-9223372036854775808:Int)<=(j:Nat); omega,by have:j<2:=hj; show ((j:Nat):Int)<=9223372036854775807; omega⟩,⟨by show (-9223372036854775808:Int)<=0; omega,by show (0:Int)<=9223372036854775807; omega⟩⟩⟩
  obtain ⟨k0,k1,k2⟩:=h4 j hj
  rw [Nat.zero_add]
  match q,hq with
  | 0,_=>exact k0
  | 1,_=>exact k1
  | 2,_=>exact k2
section
variable {w:World} {c1 c2 c3:Array Value} {t1 t2 t3:TypeId} {i:Nat} {v:Value}
theorem three_one (h:c1[i]?=some v):(((w.alloc (.cells c1 t1)).alloc (.cells c2 t2)).alloc (.cells c3 t3)).cell? ⟨w.heap.size,i,none⟩=some v:=by
 rw [World.cell?_alloc_lt _ _ _ (by simp; omega),World.cell?_alloc_lt _ _ _ (by simp),World.cell?_alloc_at _ _ _ _ rfl]
 exact h
theorem three_two (h:c2[i]?=some v):(((w.alloc (.cells c1 t1)).alloc (.cells c2 t2)).alloc (.cells c3 t3)).cell? ⟨w.heap.size+1,i,none⟩=some v:=by
 rw [World.cell?_alloc_lt _ _ _ (by simp),World.cell?_alloc_at _ _ _ _ (by simp)]
 exact h
theorem three_three (h:c3[i]?=some v):(((w.alloc (.cells c1 t1)).alloc (.cells c2 t2)).alloc (.cells c3 t3)).cell? ⟨w.heap.size+1+1,i,none⟩=some v:=by
 rw [World.cell?_alloc_at _ _ _ _ (by simp)]
 exact h
end
theorem alive47_any (w:World):Calls Tryz.prog 40 #[] w fun e w'=>e=.returned (.bool true)/\Below w.heap.size w w':=by
 go_enter Tryz.func40, Tryz.ntmps40
 go_wp2_with fail
 refine (zhS twoT (some ⟨w.heap.size,0,none⟩) (some ⟨w.heap.size+1+1,0,none⟩) 2 1 _ ?_).mono ?_
 ·exact twoT_reads (d:=1) (b2:=w.heap.size+1) (c:=2) (three_one rfl) (three_one rfl) (three_three rfl) (by omega) (by unfold maxLen; omega) (fun j hj=>by
   match j,hj with
   | 0,_=>exact ⟨three_two rfl,three_two rfl,three_two rfl⟩
   | 1,_=>exact ⟨three_two rfl,three_two rfl,three_two rfl⟩) rfl
 rintro e w1 (⟨h0,_⟩ | ⟨_,A,c,rfl,h1,h2,h3,hb⟩)
 ·exact absurd twoT_proper h0
 have hW:Below w.heap.size w w1:=onS ((((Below.refl _ _).alloc (Nat.le_refl _) _).alloc (by simp) _).alloc (by simp; omega) _) hb
 rw [twoT_fwd] at h1 h3 ⊢
 clear hb
 have hd:dl 2=1:=zbK (by omega) (by omega)
 have kb2:Below w1.heap.size w1 (w1.alloc (Obj.cells #[Value.int .u32 2] 110)):=(Below.refl _ _).alloc (Nat.le_refl _) _
 have key:=refSame_any A (some ⟨w1.heap.size,0,none⟩) c 1 2 (w1.alloc (Obj.cells #[Value.int .u32 2] 110)) (h3.on kb2) (zbW (w:=w1) 110 (x:=2) (by omega) (by omega)) (by omega)
 rw [hd] at key ⊢
 have HK:=hid key
 have hW2:=onS hW kb2
 clear hd h1 h2 h3 key kb2
 go_wp2_with fail
 refine HK.out.mono ?_
 rintro e w2 ⟨rfl,kb⟩
 have hW3:=onS hW2 kb
 clear kb hW2 HK
 go_wp2
 go_ret
 exact ⟨rfl,hW3⟩
theorem zeZ (A B:Option Addr) (n c d:Nat) (f:Nat->Int) (w:World) (ha:IntsR w w.heap.size A n f) (hb:IntsR w w.heap.size B n f) (hn:n<=1048576) :
  Calls Tryz.prog 114 #[.slice A n c,.slice B n d] w fun e w'=>e=.returned (.int .i64 0)/\Below w.heap.size w w':=by
 have HA:=hid ha
 have HB:=hid hb
 clear ha hb
 go_enter Tryz.func114, Tryz.ntmps114
 go_wp2
 go_loopg [5] n (fun g iv wx=>∃ k:Nat,iv=.int .i64 (k:Nat)/\k<=n/\n<=k+g/\Below w.heap.size w wx)
 case atStart=>exact ⟨0,rfl,by omega,by omega,Below.refl _ _⟩
 case round =>
  obtain ⟨k,rfl,hk,hkg,hW⟩:=hrel
  have hk0:(0:Int)<=(k:Int):=by omega
  by_cases hlt:k<n
  ·have hlt':(k:Int)<(n:Int):=by omega
   have hd:decide ((k:Int)<(n:Int))=true:=by simp; omega
   obtain ⟨ab,ao,rfl,hab,x0⟩:=(HA.out.on hW).at hlt
   obtain ⟨bb,bo,rfl,hbb,y0⟩:=(HB.out.on hW).at hlt
   obtain ⟨x,hx⟩:∃ x,x=f k:=⟨_,rfl⟩
   rw [<-hx] at x0 y0
   clear hx
   have h1:¬ x<x:=by omega
   have h2:¬ x > x:=by omega
   go_wp2
   go_quiet (fail)
   go_wp2
   go_quiet (fail)
   go_wp2
   go_roundg (gk - 1)
   case measure=>omega
   case rel=>exact ⟨k+1,by go_num,by omega,by omega,zac hW _⟩
  ·have hlt':¬ (k:Int)<(n:Int):=by omega
   have hd:decide ((k:Int)<(n:Int))=false:=by simp; omega
   have hnn:¬ (n:Int)<(n:Int):=by omega
   obtain rfl:k=n:=by omega
   go_wp2
   go_ret
   exact ⟨rfl,hW⟩
def updI (x:Nat->Nat->Int) (v k:Nat) (y:Int):Nat->Nat->Int:=fun u j=>if u=v/\j=k then y else x u j
theorem zil (x:Nat->Nat->Int) (v k:Nat) (y:Int):updI x v k y v k=y:=if_pos ⟨rfl,rfl⟩
theorem zcY {x:Nat->Nat->Int} {v k u j:Nat} {y:Int} (h:¬ (u=v/\j=k)):updI x v k y u j=x u j:=if_neg h
def IntTab (w:World) (g base m:Nat) (F:Nat->Value) (n:Nat->Nat) (x:Nat->Nat->Int):Prop :=
 TabOwn w g base 22 3 1 m F n (fun v i _=>.int .i64 (x v i))
section
variable {w w':World} {g base m:Nat} {F:Nat->Value} {n n':Nat->Nat} {x x':Nat->Nat->Int}
theorem IntTab.on (h:IntTab w g base m F n x) (hb:Below w.heap.size w w'):IntTab w' g base m F n x:=⟨zaa h.row hb,fun v hv=>(h.own v hv).on hb,h.apart⟩
theorem IntTab.congr (h:IntTab w g base m F n x) (e1:∀ v,v<m->n v=n' v) (e2:∀ v,v<m->∀ k,k<n v->x v k=x' v k):IntTab w g base m F n' x' :=
 ⟨h.row,fun v hv=>by
  rw [<-e1 v hv]
  exact (h.own v hv).congr fun i hi j _=>by
   show Value.int .i64 (x v i)=.int .i64 (x' v i)
   rw [e2 v hv i hi],h.apart⟩
theorem IntTab.at (h:IntTab w g base m F n x) {v k:Nat} (hv:v<m) (hk:k<n v):∃ b o d,F v=.slice (some ⟨b,o,none⟩) (n v) d/\base<=b/\b<w.heap.size/\w.cell? ⟨b,o+k,none⟩=some (.int .i64 (x v k))/\w.frozen? ⟨b,o+k,none⟩=false:=by
 have h1:=h.own v hv
 obtain ⟨b,o,d,e,hb,hl,_,_,hc⟩:=h1.form (by omega)
 have hc0:=hc k hk 0 (by omega)
 rw [Nat.mul_one,Nat.add_zero] at hc0
 refine ⟨b,o,d,e,hb,hl,hc0,?_⟩
 rw [e] at h1
 exact h1.frozen (o+k)
theorem IntTab.set (h:IntTab w g base m F n x) (hgb:g<base) {v k b o d:Nat} {y:Int} (hv:v<m) (hk:k<n v) (hF:F v=.slice (some ⟨b,o,none⟩) (n v) d) :
  IntTab (w.setCell ⟨b,o+k,none⟩ (.int .i64 y)) g base m F n (updI x v k y):=by
 have hob:(F v).ownBlock=some b:=by rw [hF]; rfl
 have hbb:=(h.own v hv).lt b hob
 refine ⟨h.row.setOther (by simp; omega) _,fun u hu=>?_,h.apart⟩
 by_cases e:u=v
 ·subst e
  have k1:=h.own u hu
  rw [hF] at k1 ⊢
  have ks:=k1.set (a:=k) (b:=0) hk (by omega) (.int .i64 y)
  rw [Nat.mul_one,Nat.add_zero] at ks
  exact ks.congr fun i _ j hj=>by
   obtain rfl:j=0:=by omega
   show (if i=k/\0=0 then _ else _)=Value.int .i64 (updI x u k y u i)
   unfold updI
   by_cases ei:i=k
   ·rw [if_pos ⟨ei,rfl⟩,if_pos ⟨rfl,ei⟩]
   ·rw [if_neg fun hh=>ei hh.1,if_neg fun hh=>ei hh.2]
 ·have k1:=h.own u hu
  have hne:(F u).ownBlock≠some b:=fun hh=>by
   rcases h.apart u v hu hv e with h0 | h0
   ·rw [h0] at hh; cases hh
   ·rw [hob] at h0; exact h0 hh
  exact (k1.setCell (a:=⟨b,o+k,none⟩) hne _).congr fun i _ j _=>by
   show Value.int .i64 (x u i)=.int .i64 (updI x v k y u i)
   rw [zcY fun hh=>e hh.1]
theorem IntTab.rows (h:IntTab w g base m F n x) (hx:∀ v,v<m->∀ k,k<n v -> -9223372036854775808<=x v k/\x v k<=9223372036854775807):IntRows w (some ⟨g,0,none⟩) m n x:=fun i hi=>by
 have h1:=h.own i hi
 obtain ⟨A,c,e⟩:=h1.shape
 have hc:=h.row.cell hi
 rw [e] at h1 hc
 exact ⟨g,0,A,c,rfl,h.row.lt,by rw [Nat.zero_add]; exact hc,h1.capL.1,h1.capL.2,h1.rd rfl,fun j hj=>hx i hi j hj⟩
end
theorem zbq {w:World} {g base m:Nat} {x:Nat->Nat->Int} (h:w.rowIs g 22 m (fun _=>.slice none 0 0)):IntTab w g base m (fun _=>.slice none 0 0) (fun _=>0) x :=
 ⟨h,fun _ _=>Own.nil _ _ _ _ _,fun _ _ _ _ _=>.inl rfl⟩
def PricedP (M:Nat) (ln:Nat->Nat) (C:Nat->Nat->Int):Prop:=∀ i,i<M->∀ a,a<ln i->0<=C i a/\C i a<=2147483648
instance (M:Nat) (ln:Nat->Nat) (C:Nat->Nat->Int):Decidable (PricedP M ln C):=by unfold PricedP; exact inferInstance
def Trel.fitB (T:Trel) (ln:Nat->Nat):Prop:=∀ i,i<T.n->∀ j,j<T.el i->T.lb i j<(ln i:Nat)
instance (T:Trel) (ln:Nat->Nat):Decidable (T.fitB ln):=by unfold Trel.fitB; exact inferInstance
theorem clean11_any (P M:Nat) (A:Option Addr) (k c:Nat) (U:Option Addr) (n d:Nat) (u:Nat->Int) (w:World) (hf:FldOk P M) (h:IntsR w w.heap.size U n u) (hn:n<=1048576) (hu:∀ j,j<n->0<=u j/\u j<((P ^ M:Nat):Int)) :
  Calls Tryz.prog 111 #[.agg #[.int .i64 (P:Nat),.int .i64 (M:Nat),.slice A k c],.slice U n d] w (RowPost n (fun j=>.int .i64 (u j)) w):=by
 have HU:=hid h
 have HQ:=hid hu
 have HORD:=hid (zbS hf)
 clear h hu
 have hB:Below w.heap.size w (w.alloc (.cells #[.int .i64 (P:Nat),.int .i64 (M:Nat),.slice A k c] 24)):=(Below.refl _ _).alloc (Nat.le_refl _) _
 have rf:=zad (w:=w) (a:=.int .i64 (P:Nat)) (b:=.int .i64 (M:Nat)) (c:=.slice A k c) (T := 24)
 obtain ⟨w0,hw0⟩:∃ W,W=w.alloc (.cells #[.int .i64 (P:Nat),.int .i64 (M:Nat),.slice A k c] 24):=⟨_,rfl⟩
 rw [<-hw0] at hB rf
 have hmk:=fun W=>zaf (P:=Tryz.prog) 22 3 _ 8 Tryz.underlying22 Tryz.infoInt rfl (n:Int) (by omega) (by omega) (by omega) W
 simp only [Int.toNat_natCast] at hmk
 go_enter Tryz.func111, Tryz.ntmps111
 go_upto_region 1 with fail
 rw [<-hw0]
 clear hw0
 have q0:w0.cell? ⟨w.heap.size,0,none⟩=some (.int .i64 (P:Nat)):=rf.cell (i:=0) (by omega)
 have q1:w0.cell? ⟨w.heap.size,1,none⟩=some (.int .i64 (M:Nat)):=rf.cell (i:=1) (by omega)
 have q2:w0.cell? ⟨w.heap.size,2,none⟩=some (.slice A k c):=rf.cell (i:=2) (by omega)
 clear rf
 go_wp2_with fail
 refine (zbB (P:Int) (M:Int) A k c w0).mono ?_
 rintro e w1 ⟨rfl,kb⟩
 have HB:=hid (onS hB kb)
 clear kb hB q0 q1 q2
 rw [HORD.out]
 clear HORD
 obtain ⟨q,hq⟩:∃ q,q=P ^ M:=⟨_,rfl⟩
 rw [<-hq] at HQ ⊢
 clear hq
 go_upto_region 3 with fail
 have rz:World.rowIs (World.alloc w1 (Obj.cells (madeCells #[Value.int .i64 0] n) 3)) w1.heap.size 3 n (fun _=>.int .i64 0):=World.rowIs_made _ (.int .i64 0) n 3
 have kb:Below w1.heap.size w1 (World.alloc w1 (Obj.cells (madeCells #[Value.int .i64 0] n) 3)):=(Below.refl _ _).alloc (Nat.le_refl _) _
 obtain ⟨w2,hw2⟩:∃ W,W=World.alloc w1 (Obj.cells (madeCells #[Value.int .i64 0] n) 3):=⟨_,rfl⟩
 rw [<-hw2] at rz kb ⊢
 obtain ⟨go,hgo⟩:∃ g,g=w1.heap.size:=⟨_,rfl⟩
 have hgoB:w.heap.size<=go:=by rw [hgo]; exact HB.out.size
 rw [<-hgo] at rz ⊢
 replace HB:=hid (onS HB.out kb)
 clear kb hw2 hgo hmk
 go_upto_region 4 with fail
 go_loopg [7] n (fun gg iv wx=>∃ i:Nat,iv=.int .i64 (i:Nat)/\i<=n/\n<=i+gg/\wx.rowIs go 3 n (fun t=>.int .i64 (if t<i then u t else 0))/\Below w.heap.size w wx)
 case atStart=>exact ⟨0,rfl,by omega,by omega,rz.congr fun t _=>by rw [if_neg (by omega)],HB.out⟩
 case round =>
  clear rz HB
  obtain ⟨i,rfl,hi,hig,hrow,hBx⟩:=hrel
  have hi0:(0:Int)<=(i:Int):=by omega
  have HROW:=hid hrow
  have HB:=hid hBx
  obtain ⟨w3,hw3⟩:∃ X,X=wr:=⟨_,rfl⟩
  subst hw3
  clear hrow hBx
  by_cases hin:i<n
  ·have hin':(i:Int)<(n:Int):=by omega
   obtain ⟨b,o,hUe,hb,x0⟩:=(HU.out.on HB.out).at hin
   subst hUe
   obtain ⟨v,hv⟩:∃ x,x=u i:=⟨_,rfl⟩
   have hvq:=HQ.out i hin
   rw [<-hv] at x0 hvq
   have hge:decide (v ≥ 0)=true:=by simp; exact hvq.1
   have hlt:decide (v<(q:Int))=true:=by simp; exact hvq.2
   have hge':v ≥ 0:=hvq.1
   have hlt':=hvq.2
   have hne:b≠go:=by
    have:=(HU.out).at hin
    obtain ⟨b2,o2,h2,hb2,_⟩:=this
    injection h2 with h2
    injection h2 with h2 _
    omega
   have u0:=HROW.out.cell (i:=i) hin
   have u1:=HROW.out.frozen i
   have hrow2:=HROW.out.set i (.int .i64 v)
   have hB2:=HB.out.setCell (p:=⟨go,i,none⟩) hgoB (.int .i64 v)
   obtain ⟨w4,hw4⟩:∃ W,W=w3.setCell ⟨go,i,none⟩ (.int .i64 v):=⟨_,rfl⟩
   rw [<-hw4] at hrow2 hB2
   have HROW2:Hid (w4.rowIs go 3 n (fun t=>.int .i64 (if t<i+1 then u t else 0))):=hid (hrow2.congr fun t _=>by
    by_cases et:t=i
    ·rw [if_pos et,if_pos (by omega),hv,et]
    ·have h1:(t<i)↔(t<i+1):=by omega
     rw [if_neg et]
     simp only [h1])
   have HB2:=hid hB2
   have HW4:=hid hw4
   clear hrow2 hB2 hw4 hv hvq
   go_wp2
   rw [<-HW4.out]
   go_roundg (gk - 1)
   case measure=>omega
   case rel=>exact ⟨i+1,by go_num,by omega,by omega,HROW2.out,HB2.out⟩
  ·have hin':¬ (i:Int)<(n:Int):=by omega
   obtain rfl:i=n:=by omega
   have HROW2:Hid (w3.rowIs go 3 i (fun t=>.int .i64 (u t))):=hid (HROW.out.congr fun t ht=>by rw [if_pos ht])
   go_wp2
   go_ret
   exact ⟨go,rfl,hgoB,HROW2.out,HB.out⟩
def supL (u:Nat->Int) (n:Nat):List Int:=((List.range n).filter fun j=>u j != 0).map fun (j:Nat)=>(j:Int)
theorem supL_succ (u:Nat->Int) (n:Nat):supL u (n+1)=supL u n ++ if u n=0 then [] else [(n:Int)]:=by
 unfold supL
 rw [List.range_succ,List.filter_append,List.map_append]
 by_cases h:u n=0
 ·simp [h]
 ·simp [h]
theorem supL_len (u:Nat->Int) (n:Nat):(supL u n).length=disN u (fun _=>0) n:=by
 induction n with
 | zero=>rfl
 | succ n ih =>
  rw [supL_succ,List.length_append,ih]
  show _=disN u (fun _=>0) n+if u n=0 then 0 else 1
  split <;> rfl
theorem support11_any (P M:Nat) (A:Option Addr) (k c:Nat) (U:Option Addr) (n d:Nat) (u:Nat->Int) (w:World) (hf:FldOk P M) (h:IntsR w w.heap.size U n u) (hn:n<=1048576) (hu:∀ j,j<n->0<=u j/\u j<((P ^ M:Nat):Int)) :
  Calls Tryz.prog 42 #[.agg #[.int .i64 (P:Nat),.int .i64 (M:Nat),.slice A k c],.slice U n d] w fun e w'=>∃ v,e=.returned v/\OwnL w' w.heap.size v (supL u n)/\Below w.heap.size w w':=by
 have HU:=hid h
 have HQ:=hid hu
 clear h hu
 have hB:Below w.heap.size w (w.alloc (.cells #[.int .i64 (P:Nat),.int .i64 (M:Nat),.slice A k c] 24)):=(Below.refl _ _).alloc (Nat.le_refl _) _
 have rf:=zad (w:=w) (a:=.int .i64 (P:Nat)) (b:=.int .i64 (M:Nat)) (c:=.slice A k c) (T := 24)
 obtain ⟨w0,hw0⟩:∃ W,W=w.alloc (.cells #[.int .i64 (P:Nat),.int .i64 (M:Nat),.slice A k c] 24):=⟨_,rfl⟩
 rw [<-hw0] at hB rf
 go_enter Tryz.func42, Tryz.ntmps42
 go_upto_region 1 with fail
 rw [<-hw0]
 clear hw0
 have q0:w0.cell? ⟨w.heap.size,0,none⟩=some (.int .i64 (P:Nat)):=rf.cell (i:=0) (by omega)
 have q1:w0.cell? ⟨w.heap.size,1,none⟩=some (.int .i64 (M:Nat)):=rf.cell (i:=1) (by omega)
 have q2:w0.cell? ⟨w.heap.size,2,none⟩=some (.slice A k c):=rf.cell (i:=2) (by omega)
 clear rf
 go_wp2_with fail
 refine (clean11_any P M A k c U n d u w0 hf (HU.out.on hB) hn HQ.out).mono ?_
 rintro e w1 ⟨g,rfl,hg,hrow,kb⟩
 have HR:Hid (IntsR w1 w1.heap.size (some ⟨g,0,none⟩) n u):=hid (zbk hrow)
 have HB:=hid (onS hB kb)
 clear kb hB q0 q1 q2 hg hrow
 go_upto_region 3 with fail
 have kb:=(Below.refl w1.heap.size w1).alloc (Nat.le_refl _) (Obj.cells #[] 3)
 have HO:Hid (OwnL (w1.alloc (Obj.cells #[] 3)) w1.heap.size (.slice (some ⟨w1.heap.size,0,none⟩) 0 0) (supL u 0)):=hid (Own.new (Nat.le_refl _) (Nat.le_refl _) (by unfold maxLen; omega) (by simp) fun k hk=>absurd hk (by omega))
 obtain ⟨w2,hw2⟩:∃ W,W=w1.alloc (Obj.cells #[] 3):=⟨_,rfl⟩
 rw [<-hw2] at HO kb ⊢
 obtain ⟨v0,hv0⟩:∃ v:Value,v=.slice (some ⟨w1.heap.size,0,none⟩) 0 0:=⟨_,rfl⟩
 rw [<-hv0] at HO ⊢
 have K2:=hid kb
 clear kb hw2 hv0
 go_upto_region 4 with fail
 go_loopg [6,7] n (fun gg ov iv wx=>∃ i:Nat,iv=.int .i64 (i:Nat)/\i<=n/\n<=i+gg/\Hid (OwnL wx w1.heap.size ov (supL u i))/\Below w1.heap.size w1 wx)
 case atStart=>exact ⟨0,rfl,by omega,by omega,HO,K2.out⟩
 case round =>
  clear HO K2
  obtain ⟨i,rfl,hi,hig,HO,hBx⟩:=hrel
  have hi0:(0:Int)<=(i:Int):=by omega
  have K2:=hid hBx
  obtain ⟨w3,hw3⟩:∃ X,X=wr:=⟨_,rfl⟩
  subst hw3
  clear hBx
  by_cases hin:i<n
  ·have hin':(i:Int)<(n:Int):=by omega
   obtain ⟨b,o,hUe,hb,x0⟩:=(HR.out.on K2.out).at hin
   injection hUe with hUe
   injection hUe with h1 h2
   subst h1 h2
   rw [Nat.zero_add] at x0
   obtain ⟨v,hv⟩:∃ x,x=u i:=⟨_,rfl⟩
   rw [<-hv] at x0
   by_cases hz:v=0
   ·have hne:(v != 0)=false:=by simp [hz]
    have HO2:Hid (OwnL w3 w1.heap.size u6 (supL u (i+1))):=by rw [supL_succ,if_pos (by rw [<-hv]; exact hz),List.append_nil]; exact HO
    clear hv hz
    go_wp2
    go_roundg (gk - 1)
    case measure=>omega
    case rel=>exact ⟨i+1,by go_num,by omega,by omega,HO2,K2.out⟩
   ·have hne:(v != 0)=true:=by simp [hz]
    have HE:Hid (supL u (i+1)=supL u i ++ [(i:Int)]):=by show _=_; rw [supL_succ,if_neg (by rw [<-hv]; exact hz)]
    clear hv hz
    have kb2:=(Below.refl w3.heap.size w3).alloc (Nat.le_refl _) (Obj.cells #[Value.int .i64 (i:Int)] 3)
    have HO8:=hid (HO.out.on kb2)
    have HB8:=hid (onS K2.out kb2)
    have HC8:Hid ((w3.alloc (Obj.cells #[Value.int .i64 (i:Int)] 3)).cell? ((⟨w3.heap.size,0,none⟩:Addr).add 0)=some (.int .i64 (i:Int))):=tbox2
    have HZ8:=hid HB8.out.size
    have HIL:Hid ((supL u i).length<=1048576):=by show _<=_; rw [supL_len]; have:=zif u (fun _=>0) i; omega
    clear kb2
    go_wp2_with (first | (at_builtin; (refine wpList_append_lint rfl (.tmp 23) (.tmp 25) rfl HO8.out rfl (ad:=⟨w3.heap.size,0,none⟩) (c:=1) rfl HC8.out HZ8.out HIL.out ?_); intro v9 w9 o1 o2 o3))
    have HM9:Hid (OwnL w9 w1.heap.size v9 (supL u (i+1))):=by rw [HE.out]; exact hid o1
    have HBB:=hid (HB8.out.grown o2 HZ8.out (fun q e=>(HO8.out.lt q e).1))
    clear o1 o2 o3
    go_wp2
    go_roundg (gk - 1)
    case measure=>omega
    case rel=>exact ⟨i+1,by go_num,by omega,by omega,HM9,HBB.out⟩
  ·have hin':¬ (i:Int)<(n:Int):=by omega
   obtain rfl:i=n:=by omega
   go_wp2
   go_ret
   exact ⟨_,rfl,Own.mono HO.out HB.out.size,onS HB.out K2.out⟩
theorem IntTab.fresh {w w':World} {g base m:Nat} {F:Nat->Value} {n:Nat->Nat} {x:Nat->Nat->Int} (h:IntTab w g base m F n x) (hgb:g<base) (hbw:base<=w.heap.size) (kb:Below w.heap.size w w') {v:Nat} (hv:v<m) {v':Value} {k':Nat} {y:Nat->Int} (hown:Own w' w.heap.size 3 1 v' k' (fun i _=>.int .i64 (y i))) :
  IntTab (w'.setCell ⟨g,v,none⟩ v') g base m (fun u=>if u=v then v' else F u) (fun u=>if u=v then k' else n u) (fun u=>if u=v then y else x u):=by
 have h1:=h.on kb
 refine ⟨(h1.row.set v v').congr fun u _=>by split <;> rfl,fun u hu=>?_,fun a b ha hb hab=>?_⟩
 ·by_cases e:u=v
  ·subst e
   simp only [if_true]
   exact (hown.mono hbw).setCell (fun e=>by have h5:w.heap.size<=g:=(hown.lt _ e).1; omega) _
  ·simp only [if_neg e]
   exact (h1.own u hu).setCell (fun e=>by have h5:base<=g:=((h1.own u hu).lt _ e).1; omega) _
 ·by_cases ea:a=v
  ·have eb:¬ b=v:=fun e=>hab (by rw [ea,e])
   simp only [if_pos ea,if_neg eb]
   cases hfa:v'.ownBlock with
   | none=>exact .inl rfl
   | some k =>
    right
    intro e2
    have h5:=(hown.lt k hfa).1
    have h6:=((h.own b hb).lt k e2.symm).2
    omega
  ·simp only [if_neg ea]
   by_cases eb:b=v
   ·simp only [if_pos eb]
    cases hfa:(F a).ownBlock with
    | none=>exact .inl rfl
    | some k =>
     right
     intro e2
     have h5:=(hown.lt k e2.symm).1
     have h6:=((h.own a ha).lt k hfa).2
     omega
   ·simp only [if_neg eb]; exact h.apart a b ha hb hab
def fE (u:Nat->Nat):Nat->Int
 | 0 => -1
 | n+1=>if u n=0 then fE u n else if fE u n<0 then (n:Int) else fE u n
def lE (u:Nat->Nat):Nat->Int
 | 0 => -1
 | n+1=>if u n=0 then lE u n else (n:Int)
section
variable {u u':Nat->Nat}
theorem fE_in:∀ n,-1<=fE u n/\fE u n<(n:Int)
 | 0=>by show (-1:Int) <= -1/\(-1:Int)<0; omega
 | n+1=>by
  have h:=fE_in n
  show -1<=(if u n=0 then fE u n else if fE u n<0 then (n:Int) else fE u n)/\(if u n=0 then fE u n else if fE u n<0 then (n:Int) else fE u n)<((n+1:Nat):Int)
  split
  ·omega
  ·split <;> omega
theorem lE_in:∀ n,-1<=lE u n/\lE u n<(n:Int)
 | 0=>by show (-1:Int) <= -1/\(-1:Int)<0; omega
 | n+1=>by
  have h:=lE_in n
  show -1<=(if u n=0 then lE u n else (n:Int))/\(if u n=0 then lE u n else (n:Int))<((n+1:Nat):Int)
  split <;> omega
theorem lE_ge:∀ n j,j<n->u j≠0->(j:Int)<=lE u n
 | 0,_,h,_=>absurd h (by omega)
 | n + 1, j, h, hu => by
  show (j:Int)<=if u n=0 then lE u n else (n:Int)
  split
  ·rename_i h0
   have:j≠n:=fun e=>hu (by rw [e]; exact h0)
   exact lE_ge n j (by omega) hu
  ·omega
theorem lE_ne:∀ n t:Nat,lE u n=(t:Int)->t<n/\u t≠0
 | 0,t,h=>by
  have h:(-1:Int)=t:=h
  omega
 | n + 1, t, h => by
  have h:(if u n=0 then lE u n else (n:Int))=t:=h
  by_cases h0:u n=0
  ·rw [if_pos h0] at h
   have:=lE_ne n t h
   exact ⟨by omega,this.2⟩
  ·rw [if_neg h0] at h
   obtain rfl:n=t:=by omega
   exact ⟨by omega,h0⟩
theorem lE_lt_of:∀ n t:Nat,(∀ j,t<=j->j<n->u j=0)->lE u n<(t:Int)
 | 0,t,_=>by show (-1:Int)<t; omega
 | n + 1, t, h => by
  show (if u n=0 then lE u n else (n:Int))<t
  by_cases h0:u n=0
  ·rw [if_pos h0]
   exact lE_lt_of n t fun j h1 h2=>h j h1 (by omega)
  ·rw [if_neg h0]
   by_cases e:t<=n
   ·exact absurd (h n e (by omega)) h0
   ·omega
theorem lE_above {n:Nat} {j:Nat} (hj:j<n) (h:lE u n<(j:Int)):u j=0:=by
 by_cases e:u j=0
 ·exact e
 ·have:=lE_ge n j hj e
  omega
theorem fE_eq:∀ n p,p<n->u p≠0->(∀ j,j<p->u j=0)->fE u n=(p:Int)
 | 0,_,h,_,_=>absurd h (by omega)
 | n + 1, p, h, hp, h0 => by
  show (if u n=0 then fE u n else if fE u n<0 then (n:Int) else fE u n)=p
  have hz:∀ m,(∀ j,j<m->u j=0)->fE u m<0:=by
   intro m
   induction m with
   | zero=>intro _; show (-1:Int)<0; omega
   | succ m ih =>
    intro h
    show (if u m=0 then fE u m else _)<0
    rw [if_pos (h m (by omega))]
    exact ih fun j hj=>h j (by omega)
  by_cases e:p=n
  ·subst e
   rw [if_neg hp,if_pos (hz p h0)]
  ·have ih:=fE_eq n p (by omega) hp h0
   rw [ih]
   split
   ·rfl
   ·rw [if_neg (by omega)]
end
structure SpanF (q n N:Nat) (pv:Nat->Nat) (R:Nat->Nat->Nat):Prop where
 lt:∀ i,i<n->∀ j,j<N->R i j<q
 inc:∀ s t,s<t->t<n->pv s<pv t
 pvlt:∀ s,s<n->pv s<N
 one:∀ s,s<n->R s (pv s)=1
 low:∀ s,s<n->∀ j,j<pv s->R s j=0
def mesL (R:Nat->Nat->Nat) (N:Nat):Nat->Nat
 | 0=>0
 | n+1=>mesL R N n+(lE (R n) N+1).toNat
theorem mesL_le {R:Nat->Nat->Nat} {N:Nat}:∀ n,mesL R N n<=n*N
 | 0=>by show 0<=_; omega
 | n+1=>by
  have h1:=mesL_le (R:=R) (N:=N) n
  have h2:=lE_in (u:=R n) N
  show mesL R N n+(lE (R n) N+1).toNat<=(n+1)*N
  rw [Nat.add_mul,Nat.one_mul]
  omega
theorem mesL_off {R R':Nat->Nat->Nat} {N i:Nat} (h:∀ u,u≠i->R' u=R u):∀ n,n<=i->mesL R' N n=mesL R N n
 | 0,_=>rfl
 | n+1,hn=>by
  show mesL R' N n+(lE (R' n) N+1).toNat=mesL R N n+(lE (R n) N+1).toNat
  rw [mesL_off h n (by omega),h n (by omega)]
theorem mesL_lt {R R':Nat->Nat->Nat} {N i:Nat} (h:∀ u,u≠i->R' u=R u) (hl:lE (R' i) N<lE (R i) N):∀ n,i<n->mesL R' N n<mesL R N n
 | 0,hi=>absurd hi (by omega)
 | n + 1, hi => by
  show mesL R' N n+(lE (R' n) N+1).toNat<mesL R N n+(lE (R n) N+1).toNat
  have h1:=lE_in (u:=R' n) N
  have h2:=lE_in (u:=R n) N
  by_cases e:i=n
  ·subst e
   rw [mesL_off h i (Nat.le_refl _)]
   omega
  ·have ih:=mesL_lt h hl n (by omega)
   rw [h n (by omega)]
   omega
section
variable {q n N:Nat} {add mul:Nat->Nat->Nat} {neg:Nat->Nat} {pv:Nat->Nat} {R:Nat->Nat->Nat}
theorem EchN.spanF {V:Nat->Nat->Nat} (h:EchN q n N N n pv V):SpanF q n N pv V:=⟨h.lt,h.inc,h.pvlt,h.one,h.lead⟩
theorem SpanF.pos (h:SpanF q n N pv R) {i:Nat} (hi:i<n):(pv i:Int)<=lE (R i) N:=lE_ge N _ (h.pvlt i hi) (by rw [h.one i hi]; omega)
theorem SpanF.first (h:SpanF q n N pv R) {i:Nat} (hi:i<n):fE (R i) N=(pv i:Int):=fE_eq N _ (h.pvlt i hi) (by rw [h.one i hi]; omega) (h.low i hi)
theorem neg_mulN (hL:FieldLaws q add mul) (hneg:∀ x,x<q->neg x<q/\add x (neg x)=0) {a b:Nat} (ha:a<q) (hb:b<q):neg (mul a b)=mul (neg a) b:=by
 have h1:=hneg (mul a b) (hL.mulLt _ _)
 have h2:=hneg a ha
 refine add_cancel hL h1.1 (hL.mulLt _ _) (hL.mulLt a b) ?_ ?_
 ·rw [hL.addComm]; exact h1.2
 ·rw [hL.mulComm (neg a) b h2.1 hb,hL.mulComm a b ha hb,<-hL.distrib b _ _ hb h2.1 ha,hL.addComm (neg a) a,h2.2,hL.mulZero hb]
theorem SpanF.step (hL:FieldLaws q add mul) (hneg:∀ x,x<q->neg x<q/\add x (neg x)=0) (h:SpanF q n N pv R) {i j t a:Nat} (hij:i<j) (hj:j<n) (h1:lE (R i) N=(t:Int)) (h2:lE (R j) N=(t:Int)) (ha:a<q) (hat:mul a (R j t)=R i t)
  {R':Nat->Nat->Nat} (e1:∀ k,k<N->R' i k=add (R i k) (neg (mul a (R j k)))) (e2:∀ u,u≠i->R' u=R u) :
  SpanF q n N pv R'/\SameSp q add mul N n n R R'/\lE (R' i) N<(t:Int):=by
 have hin:i<n:=by omega
 have hR:=h.lt
 have hn0:neg 0=0:=by
  have:=hneg 0 (by have:=hL.two; omega)
  exact (hL.zeroAdd _ this.1).symm.trans this.2
 have hlt:∀ u,u<n->∀ k,k<N->R' u k<q:=fun u hu k hk=>by
  by_cases e:u=i
  ·rw [e,e1 k hk]; exact hL.addLt _ _
  ·rw [e2 u e]; exact hR u hu k hk
 have hlow:∀ k,k<N->R j k=0->R' i k=R i k:=fun k hk hz=>by
  rw [e1 k hk,hz,hL.mulZero ha,hn0,hL.addZero (hR i hin k hk)]
 have hp:pv i<pv j:=h.inc i j hij hj
 refine ⟨⟨hlt,h.inc,h.pvlt,fun s hs=>?_,fun s hs k hk=>?_⟩,?_,?_⟩
 ·by_cases e:s=i
  ·subst e
   rw [hlow _ (h.pvlt s hs) (h.low j hj _ hp)]
   exact h.one s hs
  ·rw [e2 s e]; exact h.one s hs
 ·by_cases e:s=i
  ·subst e
   have:=h.pvlt s hs
   rw [hlow k (by omega) (h.low j hj k (by omega))]
   exact h.low s hs k hk
  ·rw [e2 s e]; exact h.low s hs k hk
 ·have ho:RowOps q add mul n N R R':=.eq (.add (.refl (V:=R)) hin hj (by omega) (hneg a ha).1) fun u hu k hk=>by
   by_cases e:u=i
   ·subst e
    rw [if_pos rfl,e1 k hk,neg_mulN hL hneg ha (hR j hj k hk)]
   ·rw [if_neg e,e2 u e]
  exact (RowOps.sp hL hR ho).1
 ·refine lE_lt_of N t fun k hk hkN=>?_
  by_cases e:k=t
  ·subst e
   rw [e1 k hkN,hat]
   exact (hneg _ (hR i hin k hkN)).2
  ·rw [e1 k hkN,lE_above (u:=R i) hkN (by omega),lE_above (u:=R j) hkN (by omega),hL.mulZero ha,hn0,hL.addZero (by have:=hL.two; omega)]
end
theorem gfDiv_any {w:World} {g P M:Nat} {m:Nat->Nat} (x y:Nat) (h:GF w w.heap.size g P M m) (hx:x<P ^ M) (hy:y<P ^ M) (hy0:y≠0) :
  Calls Tryz.prog 106 #[.pointer (some ⟨g,0,none⟩),.int .i64 (x:Nat),.int .i64 (y:Nat)] w fun e w'=>Below w.heap.size w w'/\∃ a:Nat,e=.returned (.tuple #[.int .i64 (a:Nat),.int .i64 0])/\a<P ^ M/\mulF P M m a y=x:=by
 have HG:=hid h
 have hL:=fieldLaws h.ok
 have HL:=hid hL
 have hix:=zaE hx
 have hiy:=zaE hy
 have HIX:=hid hix
 have HIY:=hid hiy
 clear h hL hix hiy
 go_enter Tryz.func106, Tryz.ntmps106
 go_wp2_with fail
 refine (zfl (y:Int) HG.out).mono ?_
 rintro e w1 ⟨kb,hc⟩
 have HB:=hid kb
 clear kb
 rw [HIY.out] at hc
 rcases hc with ⟨h0,_⟩ | ⟨_,v,rfl,hv,_,hyv⟩
 ·exact absurd h0 hy0
 have hiv:=zaE hv
 go_wp2_with fail
 refine (zbG (x:Int) (v:Int) (HG.out.on HB.out)).mono ?_
 rintro e w2 ⟨rfl,kb⟩
 rw [HIX.out,hiv]
 replace HB:=hid (onS HB.out kb)
 obtain ⟨a,ha⟩:∃ a,a=mulF P M m x v:=⟨_,rfl⟩
 rw [<-ha]
 have HA:Hid (a<P ^ M/\mulF P M m a y=x):=hid (by
  have hL:=HL.out
  rw [ha]
  refine ⟨hL.mulLt _ _,?_⟩
  rw [hL.mulAssoc x v y hx hv hy,hL.mulComm v y hv hy,hyv,hL.mulOne hx])
 clear ha hyv hv hiv kb
 go_wp2
 go_ret2
 exact ⟨HB.out,a,rfl,HA.out⟩
theorem ends_any (A:Option Addr) (n c:Nat) (u:Nat->Nat) (w:World) (h:IntsR w w.heap.size A n (fun j=>((u j:Nat):Int))) (hn:n<=1048576) :
  Calls Tryz.prog 105 #[.slice A n c] w fun e w'=>e=.returned (.tuple #[.int .i64 (fE u n),.int .i64 (lE u n)])/\Below w.heap.size w w':=by
 have HA:=hid h
 clear h
 go_enter Tryz.func105, Tryz.ntmps105
 go_upto_region 3 with fail
 go_loopg [4,5,10] n (fun gg fv lv iv wx=>∃ k:Nat,iv=.int .i64 (k:Nat)/\fv=.int .i64 (fE u k)/\lv=.int .i64 (lE u k)/\k<=n/\n<=k+gg/\Below w.heap.size w wx)
 case atStart=>exact ⟨0,rfl,rfl,rfl,by omega,by omega,Below.refl _ _⟩
 case round =>
  obtain ⟨k,rfl,rfl,rfl,hk,hkg,hBx⟩:=hrel
  have hk0:(0:Int)<=(k:Int):=by omega
  have HB:=hid hBx
  obtain ⟨w3,hw3⟩:∃ X,X=wr:=⟨_,rfl⟩
  subst hw3
  clear hBx
  obtain ⟨F,hF⟩:∃ F,F=fE u k:=⟨_,rfl⟩
  obtain ⟨L,hL⟩:∃ L,L=lE u k:=⟨_,rfl⟩
  rw [<-hF,<-hL]
  by_cases hlt:k<n
  ·have hlt':(k:Int)<(n:Int):=by omega
   obtain ⟨b,o,hAe,hb,e0⟩:=(HA.out.on HB.out).at hlt
   subst hAe
   obtain ⟨x,hx⟩:∃ x,x=u k:=⟨_,rfl⟩
   rw [<-hx] at e0
   have hf1:fE u (k+1)=if x=0 then F else if F<0 then (k:Int) else F:=by rw [hx,hF]; rfl
   have hl1:lE u (k+1)=if x=0 then L else (k:Int):=by rw [hx,hL]; rfl
   clear hx hF hL
   by_cases hx0:x=0
   ·have hz:((x:Int) == 0)=true:=by simp [hx0]
    rw [if_pos hx0] at hf1 hl1
    have H1:=hid hf1
    have H2:=hid hl1
    clear hf1 hl1 hx0
    go_wp2
    go_roundg (gk - 1)
    case measure=>omega
    case rel=>exact ⟨k+1,by go_num,by rw [H1.out],by rw [H2.out],by omega,by omega,HB.out⟩
   ·have hz:((x:Int) == 0)=false:=by simp [hx0]
    rw [if_neg hx0] at hf1 hl1
    by_cases hneg:F<0
    ·rw [if_pos hneg] at hf1
     have H1:=hid hf1
     have H2:=hid hl1
     clear hf1 hl1 hx0
     go_wp2
     go_roundg (gk - 1)
     case measure=>omega
     case rel=>exact ⟨k+1,by go_num,by rw [H1.out],by rw [H2.out],by omega,by omega,HB.out⟩
    ·rw [if_neg hneg] at hf1
     have H1:=hid hf1
     have H2:=hid hl1
     clear hf1 hl1 hx0
     go_wp2
     go_roundg (gk - 1)
     case measure=>omega
     case rel=>exact ⟨k+1,by go_num,by rw [H1.out],by rw [H2.out],by omega,by omega,HB.out⟩
  ·have hlt':¬ (k:Int)<(n:Int):=by omega
   obtain rfl:k=n:=by omega
   have H1:=hid hF
   have H2:=hid hL
   clear hF hL
   go_wp2
   go_ret2
   exact ⟨by rw [H1.out,H2.out]; rfl,HB.out⟩
def SpansPost (P M : Int) (k : Nat) (f : Nat → Int) (N : Int) (n : Nat) (ln : Nat → Nat) (V : Nat → Nat → Int) (w : World) (e : Ending) (w' : World) : Prop :=
  Below w.heap.size w w'/\∃ u,FirstErr (CodeErrs P M k f N n ln V) u /\
    ((u≠0/\e=.returned (.tuple #[.slice none 0 0,.int .i64 u])) ∨
     (u=0/\∃ P' M' N':Nat,P=P'/\M=M'/\N=N'/\∃ g F pv R,e=.returned (.tuple #[.slice (some ⟨g,0,none⟩) n n,.int .i64 0])/\w.heap.size<=g/\IntTab w' g (g+1) n F (fun _=>N') (fun i j=>((R i j:Nat):Int)) /\
       SpanF (P' ^ M') n N' pv R/\SameSp (P' ^ M') (addF P' M') (mulF P' M' fun i=>(f i).toNat) N' n n (natT V) R/\∀ i j,i<j->j<n->lE (R i) N'≠lE (R j) N'))
theorem spans_any (P M:Int) (A:Option Addr) (k c:Nat) (f:Nat->Int) (N:Int) (TC:Option Addr) (n d:Nat) (ln:Nat->Nat) (V:Nat->Nat->Int) (w:World) (hr:IntsR w w.heap.size A k f) (h:IntRows w TC n ln V) :
  Calls Tryz.prog 39 #[.agg #[.int .i64 P,.int .i64 M,.slice A k c,.int .i64 N,.slice TC n d]] w (SpansPost P M k f N n ln V w):=by
 have HI:=hid hr
 have HT:=hid h
 clear hr h
 have rf:=zam (w:=w) (a:=.int .i64 P) (b:=.int .i64 M) (c:=.slice A k c) (d:=.int .i64 N) (e:=.slice TC n d) (T := 27)
 have hB:Below w.heap.size w (w.alloc (.cells #[.int .i64 P,.int .i64 M,.slice A k c,.int .i64 N,.slice TC n d] 27)):=(Below.refl _ _).alloc (Nat.le_refl _) _
 obtain ⟨w1,hw1⟩:∃ W,W=w.alloc (.cells #[.int .i64 P,.int .i64 M,.slice A k c,.int .i64 N,.slice TC n d] 27):=⟨_,rfl⟩
 rw [<-hw1] at hB rf
 go_enter Tryz.func39, Tryz.ntmps39
 go_upto_region 1 with fail
 rw [<-hw1]
 clear hw1
 obtain ⟨b0,hb0⟩:∃ b,b=w.heap.size:=⟨_,rfl⟩
 rw [<-hb0] at rf
 rw [<-hb0]
 clear hb0
 have HBOX:Hid (∀ X,Below w1.heap.size w1 X->(X.cell? ⟨b0,0,none⟩=some (.int .i64 P)/\X.cell? ⟨b0,1,none⟩=some (.int .i64 M)/\X.cell? ⟨b0,2,none⟩=some (.slice A k c)/\X.cell? ⟨b0,3,none⟩=some (.int .i64 N)/\X.cell? ⟨b0,4,none⟩=some (.slice TC n d))):=hid fun X hx =>
  ⟨(zaa rf hx).cell (i:=0) (by omega),(zaa rf hx).cell (i:=1) (by omega),(zaa rf hx).cell (i:=2) (by omega),(zaa rf hx).cell (i:=3) (by omega),(zaa rf hx).cell (i:=4) (by omega)⟩
 have HB:=hid hB
 clear hB rf
 obtain ⟨q0,q1,q2,q3,q4⟩:=HBOX.out _ (Below.refl _ _)
 go_wp2_with fail
 refine (zgS P M A k c f N TC n d ln V w1 (HI.out.on HB.out) (HT.out.on HB.out)).mono ?_
 rintro e w2 ⟨u,rfl,hu,kb⟩
 have HU:=hid hu
 have KB:=hid kb
 clear kb hu q0 q1 q2 q3 q4
 by_cases hu0:u=0
 rotate_left
 ·have hub:(u != 0)=true:=by simpa using hu0
  have HU0:=hid hu0
  clear hu0
  go_wp2
  go_ret2
  exact ⟨onS HB.out KB.out,u,HU.out,.inl ⟨HU0.out,rfl⟩⟩
 subst hu0
 have hub:((0:Int) != 0)=false:=by simp
 obtain ⟨P',M',N',rfl,rfl,rfl,hC⟩:=zbP HI.out HT.out HU.out
 have HC:=hid hC
 have hN64:=hC.ln2
 have hnN:=hC.n_le
 clear hC
 obtain ⟨q0,q1,q2,q3,q4⟩:=HBOX.out _ KB.out
 go_wp2_with fail
 refine (zdJ (P':Int) (M':Int) A k c f w2 (HI.out.on (onS HB.out KB.out))).mono ?_
 rintro e w3 ⟨kb,hcase⟩
 rcases hcase with ⟨hbad,_⟩ | ⟨_,gf,P2,M2,hP2,hM2,rfl,_,hG⟩
 ·refine absurd ?_ hbad
  rcases HU.out with ⟨_,h9⟩ | ⟨h1,_⟩
  ·cases h9
  ·exact h1
 obtain rfl:P'=P2:=by omega
 obtain rfl:M'=M2:=by omega
 have HG:=hid hG.gf
 have HB3:=hid (onS HB.out (onS KB.out kb))
 replace KB:=hid (onS KB.out kb)
 clear kb q0 q1 q2 q3 q4 hP2 hM2 hG hub
 obtain ⟨q0,q1,q2,q3,q4⟩:=HBOX.out _ KB.out
 have hmk:=fun W=>zaf (P:=Tryz.prog) 25 22 _ 24 Tryz.underlying25 Tryz.infoInts rfl (n:Int) (by omega) (by omega) (by omega) W
 simp only [Int.toNat_natCast] at hmk
 go_upto_region 6 with fail
 clear q0 q1 q2 q3 q4
 have rz:World.rowIs (World.alloc w3 (Obj.cells (madeCells #[Value.slice none 0 0] n) 22)) w3.heap.size 22 n (fun _=>.slice none 0 0):=World.rowIs_made _ (.slice none 0 0) n 22
 have kb:Below w3.heap.size w3 (World.alloc w3 (Obj.cells (madeCells #[Value.slice none 0 0] n) 22)):=(Below.refl _ _).alloc (Nat.le_refl _) _
 have hs6:(World.alloc w3 (Obj.cells (madeCells #[Value.slice none 0 0] n) 22)).heap.size=w3.heap.size+1:=by simp
 obtain ⟨w4,hw6⟩:∃ W,W=World.alloc w3 (Obj.cells (madeCells #[Value.slice none 0 0] n) 22):=⟨_,rfl⟩
 rw [<-hw6] at rz kb hs6 ⊢
 have K7:=hid kb
 have hb0w:w.heap.size<=w3.heap.size:=HB3.out.size
 obtain ⟨lt,hlt⟩:∃ x,x=w3.heap.size:=⟨_,rfl⟩
 rw [<-hlt] at rz hs6 hb0w ⊢
 have HLT5:Hid (lt=w3.heap.size):=hid hlt
 have HTB:Hid (IntTab w4 lt (lt+1) n (fun _=>.slice none 0 0) (fun v=>if v<0 then N' else 0) (fun i j=>((natT V i j:Nat):Int))):=hid ((zbq (x:=fun i j=>((natT V i j:Nat):Int)) rz).congr (fun v _=>by rw [if_neg (by omega)]) fun v _ k _=>rfl)
 have hbase7:lt+1<=w4.heap.size:=by omega
 clear rz kb hs6 hw6 hmk hlt
 obtain ⟨q0,q1,q2,q3,q4⟩:=HBOX.out _ (onS KB.out K7.out)
 go_upto_region 7 with fail
 clear q0 q1 q2 q3 q4
 go_loopg [38] n (fun gg iv wx=>∃ (i:Nat) (F:Nat->Value),iv=.int .i64 (i:Nat)/\i<=n/\n<=i+gg/\Hid (IntTab wx lt (lt+1) n F (fun v=>if v<i then N' else 0) (fun i j=>((natT V i j:Nat):Int)))/\lt+1<=wx.heap.size/\Below w3.heap.size w3 wx)
 case atStart=>exact ⟨0,_,rfl,by omega,by omega,HTB,hbase7,K7.out⟩
 case round =>
  clear HTB K7 hbase7
  obtain ⟨i,F,rfl,hi,hig,HTB,hbase,hBx⟩:=hrel
  have hi0:(0:Int)<=(i:Int):=by omega
  have K7:=hid hBx
  obtain ⟨w8,hw8⟩:∃ X,X=wr:=⟨_,rfl⟩
  subst hw8
  clear hBx
  by_cases hin:i<n
  ·have hin':(i:Int)<(n:Int):=by omega
   obtain ⟨pb,po,RA,rc,hTe,_,x0,hc1,hc2,hrow,hrng⟩:=HC.out.rows i hin
   subst hTe
   replace x0:=cellS (onS HB3.out K7.out) x0
   have HROW:=hid hrow
   clear hrow hrng
   go_wp2_with fail
   clear x0
   refine (zbx RA N' rc (fun j=>((natT V i j:Nat):Int)) w8 (HROW.out.on (onS HB3.out K7.out)) hc1 (by omega)).mono ?_
   rintro e w9 ⟨SA,sc,rfl,hO,kb⟩
   have hn:=HTB.out.fresh (by omega) hbase kb hin (y:=fun j=>((natT V i j:Nat):Int)) hO
   have r0:=(HTB.out.on kb).row.cell hin
   have z0:=(HTB.out.on kb).row.frozen i
   have kb2:=(onS K7.out kb).setCell (p:=⟨lt,i,none⟩) (by have:=HLT5.out; show _<=lt; omega) (.slice SA N' sc)
   have hsz:lt+1<=(w9.setCell ⟨lt,i,none⟩ (.slice SA N' sc)).heap.size:=by rw [World.size_setCell]; exact Nat.le_trans hbase kb.size
   obtain ⟨w10,hw10⟩:∃ X,X=w9.setCell ⟨lt,i,none⟩ (.slice SA N' sc):=⟨_,rfl⟩
   rw [<-hw10] at hn kb2 hsz
   have HN:=hid (hn.congr (n':=fun v=>if v<i+1 then N' else 0) (x':=fun i j=>((natT V i j:Nat):Int)) (fun v hv=>by
    by_cases e:v=i
    ·rw [if_pos e,if_pos (by omega)]
    ·have h1:(v<i)↔(v<i+1):=by omega
     simp only [if_neg e,h1]) fun v hv k hk=>by
    by_cases e:v=i
    ·rw [if_pos e,e]
    ·rw [if_neg e])
   have K9:=hid kb2
   have HW10:=hid hw10
   clear hn kb kb2 hO hw10
   go_upto_region 10 with fail
   rw [<-HW10.out]
   clear r0 z0 HW10
   go_wp2
   go_roundg (gk - 1)
   case measure=>omega
   case rel=>exact ⟨i+1,_,by go_num,by omega,by omega,HN,hsz,K9.out⟩
  ·have hin':¬ (i:Int)<(n:Int):=by omega
   obtain rfl:i=n:=by omega
   have HTA:Hid (IntTab w8 lt (lt+1) i F (fun _=>N') (fun u j=>((natT V u j:Nat):Int))):=hid (HTB.out.congr (fun v hv=>if_pos hv) fun v _ k _=>rfl)
   clear HTB hin hi hig hi0
   obtain ⟨n,hn⟩:∃ n,n=i:=⟨_,rfl⟩
   subst hn
   obtain ⟨pv,hE⟩:=HC.out.rref
   have HSF:=hid hE.spanF
   have hL:=fieldLaws HC.out.fld
   have hneg:∀ x,x<P' ^ M'->negF P' M' x<P' ^ M'/\addF P' M' x (negF P' M' x)=0:=fun x _=>⟨za7 (by have:=HC.out.fld.1.1; omega),zaR (by have:=HC.out.fld.1.1; omega)⟩
   have HL:=hid hL
   have HNG:=hid hneg
   have HSP:Hid (SameSp (P' ^ M') (addF P' M') (mulF P' M' fun i=>(f i).toNat) N' n n (natT V) (natT V)):=hid fun _=>Iff.rfl
   clear hE hL hneg
   go_upto_region 12 with fail
   clear hin'
   go_loopg [10] (n*N'+1) (fun gg cv wx=>∃ (ch:Bool) (R:Nat->Nat->Nat),cv=.bool ch/\Hid ((ch=true/\mesL R N' n<gg)∨(ch=false/\∀ i j,i<j->j<n->lE (R i) N'≠lE (R j) N'))/\Hid (SpanF (P' ^ M') n N' pv R)/\Hid (SameSp (P' ^ M') (addF P' M') (mulF P' M' fun i=>(f i).toNat) N' n n (natT V) R)/\Hid (IntTab wx lt (lt+1) n F (fun _=>N') (fun u j=>((R u j:Nat):Int)))/\lt+1<=wx.heap.size/\Below w3.heap.size w3 wx)
   case atStart=>exact ⟨true,natT V,rfl,.inl ⟨rfl,by have:=mesL_le (R:=natT V) (N:=N') n; omega⟩,HSF,HSP,HTA,hbase,K7.out⟩
   case round =>
    clear HSF HSP HTA K7 hbase
    obtain ⟨ch,R,rfl,HCH,HSF,HSP,HTB,hbase,hBx⟩:=hrel
    have K7:=hid hBx
    obtain ⟨w9,hw9⟩:∃ X,X=wr:=⟨_,rfl⟩
    subst hw9
    clear hBx
    cases ch with
    | false =>
     have HD:Hid (∀ i j,i<j->j<n->lE (R i) N'≠lE (R j) N'):=hid (HCH.out.elim (fun h=>(nomatch h.1)) fun h=>h.2)
     go_wp2
     go_ret2
     exact ⟨onS HB3.out K7.out,0,HU.out,.inr ⟨rfl,P',M',N',rfl,rfl,rfl,lt,F,pv,R,rfl,hb0w,HTB.out,HSF.out,HSP.out,HD.out⟩⟩
    | true =>
     have hm0:mesL R N' n<gk:=HCH.out.elim (fun h=>h.2) fun h=>(nomatch h.1)
     obtain ⟨m0,hm0d⟩:∃ m,m=mesL R N' n:=⟨_,rfl⟩
     rw [<-hm0d] at hm0
     have HM0:Hid (mesL R N' n<=m0):=hid (by omega)
     clear HCH hm0d
     obtain ⟨gO,hgO⟩:∃ x,x=gk:=⟨_,rfl⟩
     subst hgO
     go_upto_region 15 with fail
     go_loopg [10,52] n (fun gg cv jv wx=>∃ (ch:Bool) (j:Nat) (R:Nat->Nat->Nat),cv=.bool ch/\jv=.int .i64 (j:Nat)/\j<=n/\n<=j+gg/\Hid ((ch=true/\mesL R N' n<m0)∨(ch=false/\mesL R N' n<=m0/\∀ i j',i<j'->j'<j->lE (R i) N'≠lE (R j') N'))/\Hid (SpanF (P' ^ M') n N' pv R)/\Hid (SameSp (P' ^ M') (addF P' M') (mulF P' M' fun i=>(f i).toNat) N' n n (natT V) R)/\Hid (IntTab wx lt (lt+1) n F (fun _=>N') (fun u j=>((R u j:Nat):Int)))/\lt+1<=wx.heap.size/\Below w3.heap.size w3 wx)
     case atStart=>exact ⟨false,0,R,rfl,rfl,by omega,by omega,.inr ⟨rfl,HM0.out,fun _ _ _ h=>absurd h (by omega)⟩,HSF,HSP,HTB,hbase,K7.out⟩
     case round =>
      clear HSF HSP HTB K7 hbase HM0
      obtain ⟨ch,j,R,rfl,rfl,hj,hjg,HCH,HSF,HSP,HTB,hbase,hBx⟩:=hrel
      have hj0:(0:Int)<=(j:Int):=by omega
      have K7:=hid hBx
      obtain ⟨w10,hw10⟩:∃ X,X=wr:=⟨_,rfl⟩
      subst hw10
      clear hBx
      by_cases hjn:j<n
      ·have hjn':(j:Int)<(n:Int):=by omega
       have hpos:=HSF.out.pos hjn
       obtain ⟨rb,ro,rd,hF,_,_,_,_⟩:=HTB.out.at (v:=j) hjn (k:=pv j) (HSF.out.pvlt j hjn)
       have c0:=HTB.out.row.cell hjn
       rw [hF] at c0
       have hown:=HTB.out.own j hjn
       rw [hF] at hown
       have HRW:Hid (IntsR w10 w10.heap.size (some ⟨rb,ro,none⟩) N' (fun k=>((R j k:Nat):Int))):=hid (hown.rd rfl)
       clear hown
       go_wp2_with fail
       clear c0
       refine (ends_any (some ⟨rb,ro,none⟩) N' rd (R j) w10 HRW.out (by omega)).mono ?_
       rintro e w11 ⟨rfl,kb⟩
       obtain ⟨t,ht⟩:∃ t:Nat,lE (R j) N'=(t:Nat):=⟨(lE (R j) N').toNat,by omega⟩
       have htN:t<N':=(lE_ne N' t ht).1
       have hfj:=HSF.out.first hjn
       rw [ht,hfj]
       have HTT:=hid ht
       have HTB2:=hid (HTB.out.on kb)
       replace K7:=hid (onS K7.out kb)
       have hbase2:lt+1<=w11.heap.size:=Nat.le_trans hbase kb.size
       have HFJ:=hid hF
       clear kb HTB HRW ht hfj hF hpos hbase
       obtain ⟨gP,hgP⟩:∃ x,x=gk:=⟨_,rfl⟩
       subst hgP
       go_upto_region 19 with fail
       have HCH2:Hid ((ch=true/\mesL R N' n<m0)∨(ch=false/\mesL R N' n<=m0/\(∀ i j',i<j'->j'<j->lE (R i) N'≠lE (R j') N')/\∀ i,i<0->lE (R i) N'≠(t:Int))):=hid (by
        rcases HCH.out with h | ⟨h1,h2,h3⟩
        ·exact .inl h
        ·exact .inr ⟨h1,h2,h3,fun _ h=>absurd h (by omega)⟩)
       clear HCH
       go_loopg [10,64] j (fun gg cv iv wx=>∃ (ch:Bool) (i:Nat) (R:Nat->Nat->Nat),cv=.bool ch/\iv=.int .i64 (i:Nat)/\i<=j/\j<=i+gg/\Hid ((ch=true/\mesL R N' n<m0)∨(ch=false/\mesL R N' n<=m0/\(∀ i j',i<j'->j'<j->lE (R i) N'≠lE (R j') N')/\∀ i',i'<i->lE (R i') N'≠(t:Int)))/\Hid (lE (R j) N'=(t:Int))/\Hid (SpanF (P' ^ M') n N' pv R)/\Hid (SameSp (P' ^ M') (addF P' M') (mulF P' M' fun i=>(f i).toNat) N' n n (natT V) R)/\Hid (IntTab wx lt (lt+1) n F (fun _=>N') (fun u j=>((R u j:Nat):Int)))/\lt+1<=wx.heap.size/\Below w3.heap.size w3 wx)
       case atStart=>exact ⟨ch,0,R,rfl,rfl,by omega,by omega,HCH2,HTT,HSF,HSP,HTB2,hbase2,K7.out⟩
       case round =>
        clear HSF HSP HTB2 K7 hbase2 HCH2 HTT
        obtain ⟨ch,i,R,rfl,rfl,hi,hig,HCH,HTT,HSF,HSP,HTB,hbase,hBx⟩:=hrel
        have hi0:(0:Int)<=(i:Int):=by omega
        have K7:=hid hBx
        obtain ⟨w12,hw12⟩:∃ X,X=wr:=⟨_,rfl⟩
        subst hw12
        clear hBx
        by_cases hij:i<j
        ·have hij':(i:Int)<(j:Int):=by omega
         have hin:i<n:=by omega
         have hin':(i:Int)<(n:Int):=by omega
         obtain ⟨ib,io,id,hFi,hiblt,_,_,_⟩:=HTB.out.at (v:=i) hin (k:=pv i) (HSF.out.pvlt i hin)
         have c0:=HTB.out.row.cell hin
         rw [hFi] at c0
         have hown:=HTB.out.own i hin
         rw [hFi] at hown
         have HRW:Hid (IntsR w12 w12.heap.size (some ⟨ib,io,none⟩) N' (fun k=>((R i k:Nat):Int))):=hid (hown.rd rfl)
         clear hown
         go_wp2_with fail
         clear c0
         refine (ends_any (some ⟨ib,io,none⟩) N' id (R i) w12 HRW.out (by omega)).mono ?_
         rintro e w13 ⟨rfl,kb⟩
         have hfi:=HSF.out.first hin
         rw [hfi]
         have hpos:=HSF.out.pos hin
         obtain ⟨li,hli⟩:∃ l,l=lE (R i) N':=⟨_,rfl⟩
         rw [<-hli]
         have HTB2:=hid (HTB.out.on kb)
         replace K7:=hid (onS K7.out kb)
         have hbase2:lt+1<=w13.heap.size:=Nat.le_trans hbase kb.size
         have HFI:=hid hFi
         clear kb HTB HRW hfi hFi hpos hbase
         by_cases hlt':li=(t:Int)
         rotate_left
         ·have hne:(li != (t:Int))=true:=by simpa using hlt'
          have HCH2:Hid ((ch=true/\mesL R N' n<m0)∨(ch=false/\mesL R N' n<=m0/\(∀ i j',i<j'->j'<j->lE (R i) N'≠lE (R j') N')/\∀ i',i'<i+1->lE (R i') N'≠(t:Int))):=hid (by
           rcases HCH.out with h | ⟨h1,h2,h3,h4⟩
           ·exact .inl h
           ·exact .inr ⟨h1,h2,h3,fun i' h=>by
             by_cases e:i'=i
             ·rw [e,<-hli]; exact hlt'
             ·exact h4 i' (by omega)⟩)
          clear hli hlt' HCH
          go_wp2
          go_roundg (gk - 1)
          case measure=>omega
          case rel=>exact ⟨ch,i+1,R,rfl,by go_num,by omega,by omega,HCH2,HTT,HSF,HSP,HTB2,hbase2,K7.out⟩
         ·have hne:(li != (t:Int))=false:=by simpa using hlt'
          have HLI:Hid (lE (R i) N'=(t:Int)):=hid (hli.symm.trans hlt')
          subst hlt'
          have hmx:Hid (mesL R N' n<=m0):=hid (by
           rcases HCH.out with ⟨_,h⟩ | ⟨_,h,_⟩
           ·omega
           ·exact h)
          clear hli HCH
          have x0:=(HTB2.out.row).cell hin
          rw [HFI.out] at x0
          have y0:=(HTB2.out.row).cell hjn
          rw [HFJ.out] at y0
          have hoi:=HTB2.out.own i hin
          rw [HFI.out] at hoi
          have hoj:=HTB2.out.own j hjn
          rw [HFJ.out] at hoj
          have x1:=(show IntsR w13 w13.heap.size (some ⟨ib,io,none⟩) N' (fun k=>((R i k:Nat):Int)) from hoi.rd rfl).here htN
          have y1:=(show IntsR w13 w13.heap.size (some ⟨rb,ro,none⟩) N' (fun k=>((R j k:Nat):Int)) from hoj.rd rfl).here htN
          clear hoi hoj
          obtain ⟨xv,hxv⟩:∃ x,x=R i t:=⟨_,rfl⟩
          obtain ⟨yv,hyv⟩:∃ x,x=R j t:=⟨_,rfl⟩
          have hxq:xv<P' ^ M':=by rw [hxv]; exact HSF.out.lt i hin t htN
          have hyq:yv<P' ^ M':=by rw [hyv]; exact HSF.out.lt j hjn t htN
          have hy0:yv≠0:=by rw [hyv]; exact (lE_ne N' t HTT.out).2
          rw [<-hxv] at x1
          rw [<-hyv] at y1
          have HXV:=hid hxv
          have HYV:=hid hyv
          clear hxv hyv
          have ht0:(0:Int)<=(t:Int):=by omega
          have htN':(t:Int)<(N':Int):=by omega
          go_upto_region 23 with fail
          refine wp_region_held_drew (S:=fun X=>X.cell? ⟨lt,i,none⟩=some (.slice (some ⟨ib,io,none⟩) N' id)/\X.cell? ⟨lt,j,none⟩=some (.slice (some ⟨rb,ro,none⟩) N' rd)/\X.cell? ⟨ib,io+t,none⟩=some (.int .i64 (xv:Nat))/\X.cell? ⟨rb,ro+t,none⟩=some (.int .i64 (yv:Nat))) (by kernel_rfl) ⟨cellS (Below.refl _ _).drew x0,cellS (Below.refl _ _).drew y0,cellS (Below.refl _ _).drew x1,cellS (Below.refl _ _).drew y1⟩ (fun hHeld=>?_)
          obtain ⟨w14,hw⟩:∃ W,W=World.drew w13:=⟨_,rfl⟩
          have kb:Below w13.heap.size w13 w14:=by rw [hw]; exact (Below.refl _ _).drew
          rw [<-hw] at hHeld ⊢
          clear hw
          have HX:Hid (∀ X,Below w14.heap.size w14 X->X.cell? ⟨lt,i,none⟩=some (.slice (some ⟨ib,io,none⟩) N' id)/\X.cell? ⟨lt,j,none⟩=some (.slice (some ⟨rb,ro,none⟩) N' rd)/\X.cell? ⟨ib,io+t,none⟩=some (.int .i64 (xv:Nat))/\X.cell? ⟨rb,ro+t,none⟩=some (.int .i64 (yv:Nat))):=hid fun X hx=>⟨cellS hx (cellS kb x0),cellS hx (cellS kb y0),cellS hx (cellS kb x1),cellS hx (cellS kb y1)⟩
          have HTB3:=hid (HTB2.out.on kb)
          replace K7:=hid (onS K7.out kb)
          have hbase3:lt+1<=w14.heap.size:=Nat.le_trans hbase2 kb.size
          clear kb x0 y0 x1 y1 HTB2 hbase2
          refine tkq 0 (h:=tkq 1 (h:=tkq 2 (h:=tkq 3 (h:=tkq 4 (h:=tkq 5 (h:=tkq 6 (h:=tkq 7 (h:=tkq 8 (h:=tkq 9 (h:=tkq 10 (h:=tkq 11 (h:=tkq 12 (h:=tkq 13 (h:=tkq 14 (h:=?_)))))))))))))))
          clear hHeld
          refine rdq 15 (h:=fun K hK=>?_)
          go_simp
          go_wp2_with fail
          refine (gfDiv_any xv yv (HG.out.at K7.out K7.out.size) hxq hyq hy0).mono ?_
          rintro e w15 ⟨kb,av,rfl,haq,hav⟩
          refine bkq hK (HX.out _ kb) (h:=fun hHeld=>?_)
          clear hK K
          refine tkq 16 (h:=tkq 17 (h:=tkq 18 (h:=tkq 19 (h:=tkq 20 (h:=?_)))))
          refine wpAnyH_done (by kernel_rfl) ?_ _
          clear hHeld
          replace HTB3:=hid (HTB3.out.on kb)
          have x0:=(HX.out _ kb).1
          replace K7:=hid (onS K7.out kb)
          replace hbase3:=Nat.le_trans hbase3 kb.size
          have HAV:Hid (mulF P' M' (fun i=>(f i).toNat) av (R j t)=R i t):=hid (by rw [<-HXV.out,<-HYV.out]; exact hav)
          clear HX kb hav HXV HYV hxq hyq hy0 ht0 htN' hne
          obtain ⟨gQ,hgQ⟩:∃ x,x=gk:=⟨_,rfl⟩
          subst hgQ
          have hHI:Hid (i<n):=hid hin
          have hHJ:Hid (j<n):=hid hjn
          obtain ⟨R1,hR1⟩:∃ R1:Nat->Nat->Nat,R1=fun u kk=>if u=i then addF P' M' (R i kk) (negF P' M' (mulF P' M' (fun i=>(f i).toNat) av (R j kk))) else R u kk:=⟨_,rfl⟩
          have HR1I:Hid (∀ kk,R1 i kk=addF P' M' (R i kk) (negF P' M' (mulF P' M' (fun i=>(f i).toNat) av (R j kk)))):=hid fun kk=>by rw [hR1]; exact if_pos rfl
          have HR1N:Hid (∀ u,u≠i->R1 u=R u):=hid fun u hu=>by rw [hR1]; funext kk; exact if_neg hu
          clear hR1
          have HT4:Hid (IntTab w15 lt (lt+1) n F (fun _=>N') (fun u kk=>(((if u=i/\kk<0 then R1 i kk else R u kk):Nat):Int))):=hid (HTB3.out.congr (fun _ _=>rfl) fun v _ kk _=>by rw [if_neg (fun h=>absurd h.2 (by omega))])
          go_upto_region 25 with fail
          clear x0 HTB3
          go_loopg [102] N' (fun gg kv wx=>∃ kk:Nat,kv=.int .i64 (kk:Nat)/\kk<=N'/\N'<=kk+gg/\Hid (IntTab wx lt (lt+1) n F (fun _=>N') (fun u x=>(((if u=i/\x<kk then R1 i x else R u x):Nat):Int)))/\lt+1<=wx.heap.size/\Below w3.heap.size w3 wx)
          case atStart=>exact ⟨0,rfl,by omega,by omega,HT4,hbase3,K7.out⟩
          case round =>
           clear HT4 K7 hbase3
           obtain ⟨kk,rfl,hk,hkg,HTB,hbase,hBx⟩:=hrel
           have hk0:(0:Int)<=(kk:Int):=by omega
           have K7:=hid hBx
           obtain ⟨w16,hw16⟩:∃ X,X=wr:=⟨_,rfl⟩
           subst hw16
           clear hBx
           by_cases hkN:kk<N'
           ·have hkN':(kk:Int)<(N':Int):=by omega
            have x0:=HTB.out.row.cell hHI.out
            rw [HFI.out] at x0
            have y0:=HTB.out.row.cell hHJ.out
            rw [HFJ.out] at y0
            have hoi:=HTB.out.own i hHI.out
            rw [HFI.out] at hoi
            have hoj:=HTB.out.own j hHJ.out
            rw [HFJ.out] at hoj
            have x1:=(show IntsR w16 w16.heap.size (some ⟨ib,io,none⟩) N' (fun x=>(((if i=i/\x<kk then R1 i x else R i x):Nat):Int)) from hoi.rd rfl).here hkN
            have y1:=(show IntsR w16 w16.heap.size (some ⟨rb,ro,none⟩) N' (fun x=>(((if j=i/\x<kk then R1 i x else R j x):Nat):Int)) from hoj.rd rfl).here hkN
            rw [if_neg (fun h=>absurd h.2 (by omega))] at x1
            rw [if_neg (fun h=>absurd h.1 (by omega))] at y1
            have hibb:lt+1<=ib:=(hoi.lt ib rfl).1
            have HZF:Hid (∀ X,Below w16.heap.size w16 X->X.frozen? ⟨ib,io+kk,none⟩=false):=hid fun X hx=>(hoi.on hx).frozen _
            have hne:ib≠rb:=fun e=>by
             rcases HTB.out.apart i j hHI.out hHJ.out (by omega) with h1 | h1
             ·rw [HFI.out] at h1; cases h1
             ·rw [HFI.out,HFJ.out,e] at h1; exact h1 rfl
            have HNE:Hid (lt≠ib/\rb≠ib):=hid ⟨by omega,fun e=>hne e.symm⟩
            have HIBG:Hid (w3.heap.size<=ib):=hid (by have:=HLT5.out; omega)
            clear hoi hoj hne hibb
            obtain ⟨xv,hxv⟩:∃ x,x=R i kk:=⟨_,rfl⟩
            obtain ⟨yv,hyv⟩:∃ x,x=R j kk:=⟨_,rfl⟩
            have hxq:xv<P' ^ M':=by rw [hxv]; exact HSF.out.lt i hHI.out kk hkN
            have hyq:yv<P' ^ M':=by rw [hyv]; exact HSF.out.lt j hHJ.out kk hkN
            have hzv:=HR1I.out kk
            rw [<-hxv] at x1 hzv
            rw [<-hyv] at y1 hzv
            obtain ⟨mv,hmv⟩:∃ x,x=mulF P' M' (fun i=>(f i).toNat) av yv:=⟨_,rfl⟩
            have hmq:mv<P' ^ M':=by rw [hmv]; exact HL.out.mulLt _ _
            rw [<-hmv] at hzv
            obtain ⟨zv,hzvd⟩:∃ x,x=addF P' M' xv (negF P' M' mv):=⟨_,rfl⟩
            rw [<-hzvd] at hzv
            have HIX:=hid (zaE hxq)
            have HIY:=hid (zaE hyq)
            have HIA:=hid (zaE haq)
            have HIM:=hid (zaE hmq)
            have HMV:=hid hmv
            have HZV:=hid hzvd
            have HZ1:=hid hzv
            clear hxv hyv hmv hzvd hzv hxq hyq hmq
            have HSS:Hid (∀ X,Below w16.heap.size w16 X->(X.cell? ⟨lt,i,none⟩=some (.slice (some ⟨ib,io,none⟩) N' id)/\X.cell? ⟨lt,j,none⟩=some (.slice (some ⟨rb,ro,none⟩) N' rd)/\X.cell? ⟨rb,ro+kk,none⟩=some (.int .i64 (yv:Nat)))):=hid fun X hx=>⟨cellS hx x0,cellS hx y0,cellS hx y1⟩
            have HX1:Hid (∀ X,Below w16.heap.size w16 X->X.cell? ⟨ib,io+kk,none⟩=some (.int .i64 (xv:Nat))):=hid fun X hx=>cellS hx x1
            clear x0 y0 x1 y1
            go_upto_region 27 with fail
            refine wp_region_held_drew (S:=fun X=>X.cell? ⟨lt,i,none⟩=some (.slice (some ⟨ib,io,none⟩) N' id)/\X.cell? ⟨lt,j,none⟩=some (.slice (some ⟨rb,ro,none⟩) N' rd)/\X.cell? ⟨rb,ro+kk,none⟩=some (.int .i64 (yv:Nat))) (by kernel_rfl) (HSS.out _ (Below.refl _ _).drew) (fun hHeld=>?_)
            obtain ⟨w17,hw⟩:∃ W,W=World.drew w16:=⟨_,rfl⟩
            have kb:Below w16.heap.size w16 w17:=by rw [hw]; exact (Below.refl _ _).drew
            rw [<-hw] at hHeld ⊢
            clear hw
            have K8:=hid kb
            clear kb
            refine tkq 0 (h:=tkq 1 (h:=tkq 2 (h:=tkq 3 (h:=tkq 4 (h:=tkq 5 (h:=tkq 6 (h:=tkq 7 (h:=tkq 8 (h:=tkq 9 (h:=tkq 10 (h:=tkq 11 (h:=tkq 13 (h:=tkq 14 (h:=tkq 15 (h:=tkq 16 (h:=tkq 17 (h:=tkq 18 (h:=tkq 19 (h:=tkq 20 (h:=tkq 21 (h:=?_)))))))))))))))))))))
            clear hHeld
            refine rdq2 12 22 (h:=fun K hK=>?_) (h2:=fun K hK=>?_)
            focus
             have u0:=HX1.out _ K8.out
             go_simp
             clear u0
             refine bkq hK (HSS.out _ K8.out) (h:=fun hHeld=>?_)
             clear hK K hHeld
             refine rdq 22 (h:=fun K hK=>?_)
             go_simp
             go_wp2_with fail
             refine (zbG (av:Int) (yv:Int) (HG.out.at (onS K7.out K8.out) (onS K7.out K8.out).size)).mono ?_
             rintro e w18 ⟨rfl,kb⟩
             rw [HIA.out,HIY.out,<-HMV.out]
             have K9:=hid (onS K8.out kb)
             clear kb
             refine bkq hK (HSS.out _ K9.out) (h:=fun hHeld=>?_)
             clear hK K hHeld K8
            rotate_left
            focus
             go_simp
             go_wp2_with fail
             refine (zbG (av:Int) (yv:Int) (HG.out.at (onS K7.out K8.out) (onS K7.out K8.out).size)).mono ?_
             rintro e w18 ⟨rfl,kb⟩
             rw [HIA.out,HIY.out,<-HMV.out]
             have K9:=hid (onS K8.out kb)
             clear kb
             refine bkq hK (HSS.out _ K9.out) (h:=fun hHeld=>?_)
             clear hK K hHeld
             refine rdq 12 (h:=fun K hK=>?_)
             have u0:=HX1.out _ K9.out
             go_simp
             clear u0
             refine bkq hK (HSS.out _ K9.out) (h:=fun hHeld=>?_)
             clear hK K hHeld K8
            all_goals
             refine rdq 23 (h:=fun K hK=>?_)
             go_simp
             go_wp2_with fail
             refine (gfSub_any (xv:Int) (mv:Int) (HG.out.at (onS K7.out K9.out) (onS K7.out K9.out).size)).mono ?_
             rintro e w19 ⟨rfl,kb⟩
             rw [HIX.out,HIM.out,<-HZV.out]
             have K10:=hid (onS K9.out kb)
             clear kb K9
             refine bkq hK (HSS.out _ K10.out) (h:=fun hHeld=>?_)
             clear hK K
             refine tkq 24 (h:=?_)
             clear hHeld
             refine rdq 25 (h:=fun K hK=>?_)
             have u0:=HX1.out _ K10.out
             have zf:=HZF.out _ K10.out
             go_simp
             clear u0 zf
             have hn:=((HTB.out.on K10.out).set (v:=i) (k:=kk) (by omega) hHI.out hkN HFI.out (y:=((zv:Nat):Int))).congr (x':=fun u x=>(((if u=i/\x<kk+1 then R1 i x else R u x):Nat):Int)) (fun _ _=>rfl) fun v _ x _=>by
              by_cases e1:v=i/\x=kk
              ·rw [e1.1,e1.2,zil,if_pos ⟨rfl,by omega⟩,HZ1.out]
              ·rw [zcY e1]
               have h1:(v=i/\x<kk)↔(v=i/\x<kk+1):=by omega
               simp only [h1]
             have kb:=(onS K7.out K10.out).setCell (p:=⟨ib,io+kk,none⟩) HIBG.out (.int .i64 (zv:Nat))
             obtain ⟨a1,a2,a3⟩:=HSS.out _ K10.out
             obtain ⟨n1,n2⟩:=HNE.out
             replace a1:=zab (p:=⟨ib,io+kk,none⟩) (u:=.int .i64 (zv:Nat)) a1 n1
             replace a2:=zab (p:=⟨ib,io+kk,none⟩) (u:=.int .i64 (zv:Nat)) a2 n1
             replace a3:=zab (p:=⟨ib,io+kk,none⟩) (u:=.int .i64 (zv:Nat)) a3 n2
             obtain ⟨w20,hw⟩:∃ W,W=w19.setCell ⟨ib,io+kk,none⟩ (.int .i64 (zv:Nat)):=⟨_,rfl⟩
             rw [<-hw] at hn kb a1 a2 a3 ⊢
             have hbase20:lt+1<=w20.heap.size:=by rw [hw]; exact Nat.le_trans hbase (by rw [World.size_setCell]; exact K10.out.size)
             have HN:=hid hn
             have K14:=hid kb
             clear hn kb hw n1 n2
             refine bkq hK ⟨a1,a2,a3⟩ (h:=fun hHeld=>?_)
             clear hK K a1 a2 a3
             refine wpAnyH_done (by kernel_rfl) ?_ _
             clear hHeld
             go_wp2
             go_roundg (gk - 1)
             case measure=>omega
             case rel=>exact ⟨kk+1,by go_num,by omega,by omega,HN,hbase20,K14.out⟩
           ·have hkN':¬ (kk:Int)<(N':Int):=by omega
            obtain rfl:kk=N':=by omega
            obtain ⟨s1,s2,s3⟩:=HSF.out.step HL.out HNG.out hij hHJ.out HLI.out HTT.out haq HAV.out (fun kk _=>HR1I.out kk) HR1N.out
            have HSF1:=hid s1
            have HSP1:Hid (SameSp (P' ^ M') (addF P' M') (mulF P' M' fun i=>(f i).toNat) kk n n (natT V) R1):=hid fun x=>(HSP.out x).trans (s2 x)
            have HMS:Hid (mesL R1 kk n<m0):=hid (Nat.lt_of_lt_of_le (mesL_lt HR1N.out (by rw [HLI.out]; exact s3) n hHI.out) hmx.out)
            have HTT1:Hid (lE (R1 j) kk=(t:Int)):=hid (by rw [HR1N.out j (by omega)]; exact HTT.out)
            have HT5:Hid (IntTab w16 lt (lt+1) n F (fun _=>kk) (fun u x=>((R1 u x:Nat):Int))):=hid (HTB.out.congr (fun _ _=>rfl) fun v _ x hx=>by
             by_cases e:v=i
             ·rw [e,if_pos ⟨rfl,hx⟩]
             ·rw [if_neg (fun h=>e h.1),HR1N.out v e])
            clear s1 s2 s3
            go_wp2
            go_roundg (gQ - 1)
            case measure=>omega
            case rel=>exact ⟨true,i+1,R1,rfl,by go_num,by omega,by omega,.inl ⟨rfl,HMS.out⟩,HTT1,HSF1,HSP1,HT5,hbase,K7.out⟩
        ·have hij':¬ (i:Int)<(j:Int):=by omega
         obtain rfl:i=j:=by omega
         have HCH2:Hid ((ch=true/\mesL R N' n<m0)∨(ch=false/\mesL R N' n<=m0/\∀ i1 j',i1<j'->j'<i+1->lE (R i1) N'≠lE (R j') N')):=hid (by
          rcases HCH.out with h | ⟨h1,h2,h3,h4⟩
          ·exact .inl h
          ·exact .inr ⟨h1,h2,fun i1 j' h5 h6=>by
            by_cases e:j'=i
            ·rw [e,HTT.out]; exact h4 i1 (by omega)
            ·exact h3 i1 j' h5 (by omega)⟩)
         go_wp2
         go_roundg (gP - 1)
         case measure=>omega
         case rel=>exact ⟨ch,i+1,R,rfl,by go_num,by omega,by omega,HCH2,HSF,HSP,HTB,hbase,K7.out⟩
      ·have hjn':¬ (j:Int)<(n:Int):=by omega
       obtain rfl:j=n:=by omega
       have HCH2:Hid ((ch=true/\mesL R N' j<gO - 1)∨(ch=false/\∀ i j',i<j'->j'<j->lE (R i) N'≠lE (R j') N')):=hid (by
        rcases HCH.out with ⟨h,h2⟩ | ⟨h1,h2,h3⟩
        ·exact .inl ⟨h,by omega⟩
        ·exact .inr ⟨h1,h3⟩)
       go_wp2
       go_roundg (gO - 1)
       case measure=>omega
       case rel=>exact ⟨ch,R,rfl,HCH2,HSF,HSP,HTB,hbase,K7.out⟩
end Go.Proofs.YtioagplajkoohaaGreat