/- Merged texts of a claim: Chk12, Null, CodeE, Dual12, Dot04, NatA, NatB, AppCells, WtsAll, Word12, WordsAll, NatC, RatA, RatB, Rat13, RatC, PolyA, PAddAll, PMulAll, RefEval, PolyC, PatAll, UndAll, DualPl, Syn12, Tab55, RefRight, Nats, GfDot, GfChk, GfNew, DTab. -/
import Derived.Test.YtgekjfpapmlndaaGreatTM1
import Derived.Test.YtgekjfpapmlndaaGreatTM2
import Derived.Test.YtgekjfpapmlndaaGreatTM3
import Derived.Test.YtgekjfpapmlndaaGreatTM4
import Derived.Test.YtgekjfpapmlndaaGreatTM5
import Derived.Deep.QuietTactic
import Derived.BigQuiet
import Derived.Deep.CutBlock
import Derived.Deep.DeepCutAuto
import Derived.Deep.LoopGhost
import Derived.StillTailTactics
import Derived.Deep.RegionHeld3
namespace Go.Proofs.YtgekjfpapmlndaaGreat
set_option maxRecDepth 100000
set_option maxHeartbeats 32000000
open KB KE KF
open Go.RowKit
def CanonPost (q:Nat) (add mul:Nat->Nat->Nat) (n k cols:Nat) (V:Nat->Nat->Nat) (w:World) (e:Ending) (w':World):Prop :=
 ∃ lv pv a p W,e=.returned (.tuple #[lv,pv])/\MTab w' w.heap.size lv a k W/\Own w' w.heap.size 3 1 pv a (fun j _=>.int .i64 (p j:Nat))/\Below w.heap.size w w' /\
  EchN q n k cols a p W/\RowOps q add mul n k V W
theorem EchN.full {q n k c a cols:Nat} {pv:Nat->Nat} {W:Nat->Nat->Nat} (h:EchN q n k c a pv W) (hc:c<=cols) (h2:c=cols∨a=n):EchN q n k cols a pv W:=by
 rcases h2 with h2 | h2
 ·rw [<-h2]; exact h
 ·exact ⟨h.le,h.lt,h.inc,fun s hs=>Nat.lt_of_lt_of_le (h.pvlt s hs) hc,h.one,h.zero,h.lead,fun i h1 h3=>by omega⟩
theorem MTab.take {w:World} {base n k b o c a:Nat} {W:Nat->Nat->Nat} (h:MTab w base (.slice (some ⟨b,o,none⟩) n c) n k W) (ha:a<=n):MTab w base (.slice (some ⟨b,o,none⟩) a c) a k W:=by
 obtain ⟨R,h1,h2⟩:=h
 refine ⟨R,?_,fun i hi=>h2 i (by omega)⟩
 rcases h1 with ⟨h1,_⟩ | ⟨g,o',cap,cur,h1,h3,h4,h5,h6,h7,h8⟩
 ·cases h1
 ·injection h1 with e1 e2 e3
  injection e1 with e1
  injection e1 with e1 e4
  subst e1 e4 e3
  exact .inr ⟨_,_,_,cur,rfl,h3,h4,by omega,h6,h7,fun i hi=>h8 i (by omega)⟩
theorem MTab.form {w:World} {base n k:Nat} {v:Value} {W:Nat->Nat->Nat} (h:MTab w base v n k W):(v=.slice none 0 0/\n=0)∨∃ b o c,v=.slice (some ⟨b,o,none⟩) n c/\n<=c/\c<=maxLen:=by
 obtain ⟨R,h1,_⟩:=h
 rcases h1 with h1 | ⟨g,o',cap,cur,h1,h3,h4,h5,h6,h7,h8⟩
 ·exact .inl h1
 ·exact .inr ⟨g,o',cap,h1,h5,h6⟩
theorem zeS (P M:Nat) (A:Option Addr) (k c:Nat) (m:Nat->Nat) (T:Option Addr) (n d kc cols:Nat) (V:Nat->Nat->Nat) (w:World) (hf:FieldOk P M m) (hm:ModOk w P M A m) (hkM:M=1∨k=M)
  (h:MRows w T n kc V) (hV:∀ i,i<n->∀ j,j<kc->V i j<P ^ M) (hcK:cols<=kc) (hK:0<kc) (hK2:kc<=1048576) (hn:n<=1048576) :
  Calls Tryz.prog 136 #[.agg #[.int .i64 (P:Nat),.int .i64 (M:Nat),.slice A k c],.slice T n d,.int .i64 (cols:Nat)] w (CanonPost (P ^ M) (addF P M) (mulF P M m) n kc cols V w):=by
 have hB:Below w.heap.size w (w.alloc (.cells #[.int .i64 (P:Nat),.int .i64 (M:Nat),.slice A k c] 24)):=(Below.refl _ _).alloc (Nat.le_refl _) _
 have rf:=zaf (w:=w) (a:=.int .i64 (P:Nat)) (b:=.int .i64 (M:Nat)) (c:=.slice A k c) (T := 24)
 obtain ⟨w0,hw0⟩:∃ W,W=w.alloc (.cells #[.int .i64 (P:Nat),.int .i64 (M:Nat),.slice A k c] 24):=⟨_,rfl⟩
 rw [<-hw0] at hB rf
 go_enter Tryz.func136, Tryz.ntmps136
 go_upto_region 1 with fail
 rw [<-hw0];clear hw0
 have q0:=qc0 rf
 have q1:=qc1 rf
 have q2:=qc2 rf
 have hr0:MRows w0 T n kc V:=h.on hB
 have hm0:=zaz hm hB
 clear h
 go_wp2_with fail
 refine (zil P M A k c m T n d kc cols V w0 hf hm0 hkM hr0 hV hcK hK hK2 hn).mono ?_
 rintro e w1 ⟨lv,pv,a,c0,p,W,rfl,hM,hP,kb,hc,hca,hE,hR⟩
 have hBs:w.heap.size<=w0.heap.size:=hB.size
 replace hM:=(hM.mono hBs).tab;replace hP:=hP.mono hBs;replace hB:=onS hB kb
 have HE:=hid (hE.full hc hca)
 have HR:=hid hR
 have han:=hE.le
 clear kb q0 q1 q2 hr0 hm0 hE hR hc hca hV rf hBs
 obtain ⟨PA,pc,hpv⟩:=hP.shape
 subst hpv
 rcases hM.form with ⟨hlv,hn0⟩ | ⟨b,o,lc,hlv,hlc,hlm⟩
 ·subst hlv hn0
  obtain rfl:a=0:=by omega
  go_wp2
  go_ret2
  exact ⟨_,_,0,p,W,rfl,hM,hP,hB,HE.out,HR.out⟩
 ·subst hlv
  have ha0:(0:Int)<=(a:Int):=by omega
  have hal:(a:Int)<=(lc:Int):=by omega
  unfold maxLen at hlm
  have HM:=hid (hM.take han)
  have HP:=hid hP
  clear hM hP
  go_wp2
  go_ret2
  exact ⟨_,_,a,p,W,rfl,HM.out,HP.out,hB,HE.out,HR.out⟩
def FirstErr:List (Prop × Int)->Int->Prop
 | [],v=>v=0
 | (p,e) :: r,v=>(¬ p/\v=e)∨(p/\FirstErr r v)
theorem FirstErr.unique:∀ {l:List (Prop × Int)} {v u:Int},FirstErr l v->FirstErr l u->v=u
 | [],_,_,h1,h2=>h1.trans h2.symm
 | (_, _) :: r, _, _, h1, h2 => by
  rcases h1 with ⟨a,h1⟩ | ⟨a,h1⟩
  ·rcases h2 with ⟨_,h2⟩ | ⟨b,_⟩
   ·exact h1.trans h2.symm
   ·exact absurd b a
  ·rcases h2 with ⟨b,_⟩ | ⟨_,h2⟩
   ·exact absurd a b
   ·exact FirstErr.unique (l:=r) h1 h2
def ErrsPost (l:List (Prop × Int)) (w:World) (e:Ending) (w':World):Prop:=∃ v:Int,e=.returned (.int .i64 v)/\FirstErr l v/\Below w.heap.size w w'
theorem errsPost {l:List (Prop × Int)} {w w':World} {v:Int} (h:FirstErr l v) (hB:Below w.heap.size w w'):ErrsPost l w (.returned (.int .i64 v)) w':=⟨v,rfl,h,hB⟩
def ShapeM (cols:Int) (n:Nat) (ln:Nat->Nat):Prop:=0<=cols/\cols<=256/\n<=256/\∀ i,i<n->(ln i:Int)=cols
def ElemsM (q n:Nat) (ln:Nat->Nat) (V:Nat->Nat->Int):Prop:=∀ i,i<n->AllIn q (ln i) (V i)
def matCell (a b:Value) (i:Nat):Value:=if i=0 then a else b
theorem KC.qc0 {w:World} {g:Nat} {T:TypeId} {a b:Value} (h:w.rowIs g T 2 (matCell a b)) : w.cell? ⟨g,0,none⟩=some a:=h.cell (i:=0) (by decide)
theorem KC.qc1 {w:World} {g:Nat} {T:TypeId} {a b:Value} (h:w.rowIs g T 2 (matCell a b)) : w.cell? ⟨g,1,none⟩=some b:=h.cell (i:=1) (by decide)
open KC
theorem zaB {w:World} {a b:Value} {T:TypeId}:(w.alloc (.cells #[a,b] T)).rowIs w.heap.size T 2 (matCell a b) :=
 ⟨#[a,b],zax rfl,rfl,fun i hi=>by
  rcases (show i=0∨i=1 by omega) with rfl | rfl <;> rfl⟩
theorem zfh (P M:Int) (A:Option Addr) (k c:Nat) (f:Nat->Int) (cols:Int) (T:Option Addr) (n d:Nat) (ln:Nat->Nat) (V:Nat->Nat->Int) (w:World) (hr:IntsR w w.heap.size A k f) (h:IntRows w T n ln V) :
  Calls Tryz.prog 135 #[.agg #[.int .i64 P,.int .i64 M,.slice A k c],.agg #[.int .i64 cols,.slice T n d]] w (ErrsPost [(GoodF P M k f,1),(ShapeM cols n ln,3),(ElemsM (P.toNat ^ M.toNat) n ln V,2)] w):=by
 have HT:=hid h
 clear h
 have rf:=zaf (w:=w) (a:=.int .i64 P) (b:=.int .i64 M) (c:=.slice A k c) (T := 24)
 have hB:Below w.heap.size w (w.alloc (.cells #[.int .i64 P,.int .i64 M,.slice A k c] 24)):=(Below.refl _ _).alloc (Nat.le_refl _) _
 have hsz:(w.alloc (.cells #[.int .i64 P,.int .i64 M,.slice A k c] 24)).heap.size=w.heap.size+1:=by simp
 obtain ⟨w0,hw0⟩:∃ W,W=w.alloc (.cells #[.int .i64 P,.int .i64 M,.slice A k c] 24):=⟨_,rfl⟩
 have rm:=zaB (w:=w0) (a:=.int .i64 cols) (b:=.slice T n d) (T := 106)
 have kb:Below w0.heap.size w0 (w0.alloc (.cells #[.int .i64 cols,.slice T n d] 106)):=(Below.refl _ _).alloc (Nat.le_refl _) _
 obtain ⟨w1,hw1⟩:∃ W,W=w0.alloc (.cells #[.int .i64 cols,.slice T n d] 106):=⟨_,rfl⟩
 rw [<-hw0] at hB rf hsz;rw [<-hw1] at rm kb;rw [hsz] at rm;replace rf:=zab rf kb;replace hB:=onS hB kb
 go_enter Tryz.func135, Tryz.ntmps135
 go_upto_region 1 with fail
 rw [<-hw0,<-hw1];clear hw0 hw1 kb hsz
 have q0:=qc0 rf
 have q1:=qc1 rf
 have q2:=qc2 rf
 go_wp2_with fail
 have hr1:=hr.on hB
 refine (zcY P M A k c f w1 hr1).mono ?_
 rintro e w2 ⟨v,rfl,hv,kb⟩
 replace rf:=zab rf kb;replace rm:=zab rm kb;replace hB:=onS hB kb;clear kb q0 q1 q2 hr1
 rcases hv with ⟨rfl,hg⟩ | ⟨rfl,hg⟩
 ·have HG := hid hg
  obtain ⟨P',M',rfl,rfl,hf,_⟩:=hg
  have HF:=hid hf
  clear hf
  have m0:=qc0 rm
  have m1:=qc1 rm
  by_cases hc0:cols<0
  ·have hno:Hid (FirstErr [(GoodF (P':Int) (M':Int) k f,1),(ShapeM cols n ln,3),(ElemsM ((P':Int).toNat ^ (M':Int).toNat) n ln V,2)] 3):=.inr ⟨HG.out,.inl ⟨fun h=>by have:=h.1; omega,rfl⟩⟩
   go_wp2
   go_ret
   exact errsPost hno.out hB
  ·by_cases hc1:cols > 256
   ·have hno:Hid (FirstErr [(GoodF (P':Int) (M':Int) k f,1),(ShapeM cols n ln,3),(ElemsM ((P':Int).toNat ^ (M':Int).toNat) n ln V,2)] 3):=.inr ⟨HG.out,.inl ⟨fun h=>by have:=h.2.1; omega,rfl⟩⟩
    go_wp2
    go_ret
    exact errsPost hno.out hB
   ·by_cases hn1:n > 256
    ·have hno:Hid (FirstErr [(GoodF (P':Int) (M':Int) k f,1),(ShapeM cols n ln,3),(ElemsM ((P':Int).toNat ^ (M':Int).toNat) n ln V,2)] 3):=.inr ⟨HG.out,.inl ⟨fun h=>by have:=h.2.2.1; omega,rfl⟩⟩
     have hn1':(n:Int) > 256:=by omega
     go_wp2
     go_ret
     exact errsPost hno.out hB
    ·have hn1':¬ (n:Int) > 256:=by omega
     go_wp2
     go_loopg [6] n (fun gg iv wx=>∃ i:Nat,iv=.int .i64 (i:Nat)/\i<=n/\n<=i+gg/\Hid (∀ t,t<i->(ln t:Int)=cols)/\wx.rowIs w.heap.size 24 3 (fldCell (.int .i64 (P':Nat)) (.int .i64 (M':Nat)) (.slice A k c))/\wx.rowIs (w.heap.size+1) 106 2 (matCell (.int .i64 cols) (.slice T n d))/\Below w.heap.size w wx)
     case atStart=>exact ⟨0,rfl,by omega,by omega,fun t ht=>absurd ht (by omega),rf,rm,hB⟩
     case round =>
      clear rf rm hB m0 m1
      obtain ⟨i,rfl,hi,hig,HQ,rf,rm,hB⟩:=hrel
      have hi0:(0:Int)<=(i:Int):=by omega
      have m0:=qc0 rm
      have m1:=qc1 rm
      by_cases hlt:i<n
      ·have hlt':(i:Int)<(n:Int):=by omega
       obtain ⟨b,o,RA,rc,hT,hb,x0,_,_,hrow,_⟩:=HT.out i hlt
       subst hT
       replace x0:=(hB.cell (p:=⟨b,o+i,none⟩) hb).trans x0
       obtain ⟨li,hli⟩:∃ x,x=ln i:=⟨_,rfl⟩
       rw [<-hli] at x0
       have HLI:=hid hli
       clear hrow hli
       by_cases he:(li:Int)=cols
       ·have he':((li:Int) != cols)=false:=by simpa using he
        have HE:=hid he
        clear he
        go_wp2
        go_quiet (fail)
        go_wp2
        go_roundg (gk - 1)
        case measure=>omega
        case rel =>
         refine ⟨i+1,by go_num,by omega,by omega,fun t ht=>?_,zba rf _,zba rm _,zae hB _⟩
         by_cases e:t=i
         ·subst e; rw [<-HLI.out]; exact HE.out
         ·exact HQ.out t (by omega)
       ·have he':((li:Int) != cols)=true:=by simpa using he
        have hno:Hid (FirstErr [(GoodF (P':Int) (M':Int) k f,1),(ShapeM cols n ln,3),(ElemsM ((P':Int).toNat ^ (M':Int).toNat) n ln V,2)] 3):=.inr ⟨HG.out,.inl ⟨fun h=>he (by rw [HLI.out]; exact h.2.2.2 i hlt),rfl⟩⟩
        clear he
        go_wp2
        go_quiet (fail)
        go_wp2
        go_ret
        exact errsPost hno.out (zae hB _)
      ·have hlt':¬ (i:Int)<(n:Int):=by omega
       obtain rfl:i=n:=by omega
       have HSH:Hid (ShapeM cols i ln):=⟨by omega,by omega,by omega,HQ.out⟩
       obtain ⟨gO,hgO⟩:∃ g,g=gk:=⟨_,rfl⟩
       clear hgO
       go_wp2
       go_loopg [5,7] i (fun gg ev jv wx=>∃ j:Nat,ev=.int .i64 0/\jv=.int .i64 (j:Nat)/\j<=i/\i<=j+gg/\Hid (∀ t,t<j->AllIn (P' ^ M') (ln t) (V t))/\wx.rowIs w.heap.size 24 3 (fldCell (.int .i64 (P':Nat)) (.int .i64 (M':Nat)) (.slice A k c))/\wx.rowIs (w.heap.size+1) 106 2 (matCell (.int .i64 cols) (.slice T i d))/\Below w.heap.size w wx)
       case atStart=>exact ⟨0,rfl,rfl,by omega,by omega,fun t ht=>absurd ht (by omega),rf,rm,hB⟩
       case round =>
        clear rf rm hB m0 m1
        obtain ⟨j,rfl,rfl,hj,hjg,HQ2,rf,rm,hB⟩:=hrel
        have hj0:(0:Int)<=(j:Int):=by omega
        have m0:=qc0 rm
        have m1:=qc1 rm
        by_cases hjt:j<i
        ·have hjt':(j:Int)<(i:Int):=by omega
         obtain ⟨b,o,RA,rc,hT,hb,x0,hg1,hg2,hrow,_⟩:=HT.out j hjt
         subst hT
         replace x0:=(hB.cell (p:=⟨b,o+j,none⟩) hb).trans x0
         have hll:ln j<=9223372036854775807:=by unfold maxLen at hg2; omega
         clear hg1 hg2
         have hr3:=hrow.on hB
         obtain ⟨lj,hlj⟩:∃ x,x=ln j:=⟨_,rfl⟩
         rw [<-hlj] at x0 hll hr3
         have HLJ:=hid hlj
         clear hrow hlj
         have q0:=qc0 rf
         have q1:=qc1 rf
         have q2:=qc2 rf
         obtain ⟨w1,hw1⟩:∃ X,X=wr:=⟨_,rfl⟩
         rw [<-hw1] at hB rf rm x0 q0 q1 q2 m0 m1 hr3 ⊢;clear hw1
         go_wp2
         refine wp_region_held_drew (S:=fun w'=>w'.cell? ⟨w.heap.size,0,none⟩=some (.int .i64 (P':Nat))/\w'.cell? ⟨w.heap.size,1,none⟩=some (.int .i64 (M':Nat))/\w'.cell? ⟨w.heap.size,2,none⟩=some (.slice A k c)/\w'.cell? ⟨w.heap.size+1,1,none⟩=some (.slice (some ⟨b,o,none⟩) i d)/\w'.cell? ⟨b,o+j,none⟩=some (.slice RA lj rc)) (by kernel_rfl) ⟨cellS (Below.refl _ _).drew q0,cellS (Below.refl _ _).drew q1,cellS (Below.refl _ _).drew q2,cellS (Below.refl _ _).drew m1,cellS (Below.refl _ _).drew x0⟩ (fun hHeld=>?_)
         obtain ⟨w2,hw⟩:∃ W,W=World.drew w1:=⟨_,rfl⟩
         have kb:Below w1.heap.size w1 w2:=by rw [hw]; exact (Below.refl _ _).drew
         rw [<-hw] at hHeld ⊢;clear hw;replace rf:=zab rf kb;replace rm:=zab rm kb;replace hB:=onS hB kb;replace x0:=cellS kb x0;replace q0:=cellS kb q0;replace q1:=cellS kb q1;replace q2:=cellS kb q2;replace m0:=cellS kb m0;replace m1:=cellS kb m1;replace hr3:=hr3.on kb;clear kb
         refine tkq 0 (h:=tkq 1 (h:=tkq 2 (h:=tkq 3 (h:=tkq 4 (h:=tkq 5 (h:=?_))))))
         refine rdq 6 (h:=fun K hK=>?_)
         go_simp
         go_wp2_with fail
         refine (zdR P' M' A k c RA lj rc (V j) w2 HF.out hr3 hll).mono ?_
         rintro e w3 ⟨v,rfl,hv,kb⟩
         replace rf:=zab rf kb;replace rm:=zab rm kb;replace hB:=onS hB kb;replace x0:=cellS kb x0;replace q0:=cellS kb q0;replace q1:=cellS kb q1;replace q2:=cellS kb q2;replace m0:=cellS kb m0;replace m1:=cellS kb m1;replace hr3:=hr3.on kb;clear kb
         have HV:=hid hv
         clear hv
         refine bkq hK ⟨q0,q1,q2,m1,x0⟩ (h:=fun hHeld=>?_)
         clear hK K
         refine tkq 7 (h:=?_)
         refine wpAnyH_done (by kernel_rfl) ?_ _
         clear hHeld;clear q0 q1 q2 m0 m1 x0 hr3
         rcases HV.out with ⟨rfl,hv⟩ | ⟨rfl,hv⟩
         ·have HV9:=hid hv
          clear hv HV
          go_wp2
          go_roundg (gk - 1)
          case measure=>omega
          case rel =>
           refine ⟨j+1,rfl,by go_num,by omega,by omega,fun t ht=>?_,rf,rm,hB⟩
           by_cases e:t=j
           ·subst e; rw [<-HLJ.out]; exact HV9.out
           ·exact HQ2.out t (by omega)
         ·have hno:Hid (FirstErr [(GoodF (P':Int) (M':Int) k f,1),(ShapeM cols i ln,3),(ElemsM ((P':Int).toNat ^ (M':Int).toNat) i ln V,2)] 2):=.inr ⟨HG.out,.inr ⟨HSH.out,.inl ⟨fun h=>hv (by rw [HLJ.out]; simpa using h j hjt),rfl⟩⟩⟩
          clear hv HV
          go_wp2
          go_ret
          exact errsPost hno.out hB
        ·have hjt':¬ (j:Int)<(i:Int):=by omega
         obtain rfl:j=i:=by omega
         have hno:Hid (FirstErr [(GoodF (P':Int) (M':Int) k f,1),(ShapeM cols j ln,3),(ElemsM ((P':Int).toNat ^ (M':Int).toNat) j ln V,2)] 0):=.inr ⟨HG.out,.inr ⟨HSH.out,.inr ⟨by rw [Int.toNat_natCast,Int.toNat_natCast]; exact HQ2.out,rfl⟩⟩⟩
         go_wp2
         go_ret
         exact errsPost hno.out hB
 ·have hno:Hid (FirstErr [(GoodF P M k f,1),(ShapeM cols n ln,3),(ElemsM (P.toNat ^ M.toNat) n ln V,2)] 1):=.inl ⟨hg,rfl⟩
  clear hg
  go_wp2
  go_ret
  exact errsPost hno.out hB
theorem FirstErr.app:∀ {l r:List (Prop × Int)} {v u:Int},(∀ x ∈ l,x.2≠0)->FirstErr l v->(v≠0->u=v)->(v=0->FirstErr r u)->FirstErr (l ++ r) u
 | [],_,_,_,_,h,_,h2=>h2 h
 | (p, e) :: l, r, v, u, hne, h, h1, h2 => by
  rcases h with ⟨hp,e1⟩ | ⟨hp,h⟩
  ·have h0:e≠0:=hne (p,e) (by simp)
   exact .inl ⟨hp,by rw [h1 (by rw [e1]; exact h0),e1]⟩
  ·exact .inr ⟨hp,FirstErr.app (fun x hx=>hne x (by simp [hx])) h h1 h2⟩
def natT (V:Nat->Nat->Int) (i j:Nat):Nat:=(V i j).toNat
theorem zcE {w:World} {T:Option Addr} {n cols q:Nat} {ln:Nat->Nat} {V:Nat->Nat->Int} (h:IntRows w T n ln V) (hs:ShapeM (cols:Int) n ln) (he:ElemsM q n ln V):MRows w T n cols (natT V)/\∀ i,i<n->∀ j,j<cols->natT V i j<q:=by
 have hlc:∀ i,i<n->ln i=cols:=fun i hi=>by have:=hs.2.2.2 i hi; omega
 refine ⟨fun i hi=>?_,fun i hi j hj=>?_⟩
 ·obtain ⟨b,off,A,c,e,h1,h2,h3,h4,h5,h6⟩:=h i hi
  rw [hlc i hi] at h2 h3 h5 h6
  have hv:∀ j,j<cols->V i j=((natT V i j:Nat):Int):=fun j hj=>by
   have:=he i hi j (by rw [hlc i hi]; exact hj)
   unfold natT
   omega
  exact ⟨b,off,A,c,e,h1,h2,h3,h4,h5.congr hv,fun j hj=>by show _<=((natT V i j:Nat):Int)/\((natT V i j:Nat):Int)<=_; rw [<-hv j hj]; exact h6 j hj⟩
 ·have:=he i hi j (by rw [hlc i hi]; exact hj)
  unfold natT
  omega
theorem MTab.rd {w:World} {base n k c q:Nat} {A:Option Addr} {W:Nat->Nat->Nat} (h:MTab w base (.slice A n c) n k W) (hq:q<=256) (hW:∀ i,i<n->∀ j,j<k->W i j<q):MRows w A n k W:=fun i hi=>by
 obtain ⟨b,o,RA,rc,e,h1,h2,h3,h4,h5⟩:=h.row hi
 have hfc:k<=rc/\rc<=maxLen:=by
  rcases h5 with ⟨e1,e2⟩ | ⟨g,o',cap,cur,e1,_,_,e3,e4,_⟩
  ·injection e1 with _ e3 e4
   subst e3 e4
   exact ⟨Nat.le_refl _,by unfold maxLen; omega⟩
  ·injection e1 with _ _ e5
   subst e5
   exact ⟨e3,e4⟩
 exact ⟨b,o,RA,rc,e,h2,h3,hfc.1,hfc.2,h5.rd rfl,fun j hj=>by have:=hW i hi j hj; show _<=((W i j:Nat):Int)/\((W i j:Nat):Int)<=_; omega⟩
def SpaceErrs (P M:Int) (k:Nat) (f:Nat->Int) (cols n:Nat) (ln:Nat->Nat) (V:Nat->Nat->Int):List (Prop × Int) :=
 [(GoodF P M k f,1),(ShapeM cols n ln,3),(ElemsM (P.toNat ^ M.toNat) n ln V,2),(RrefN (P.toNat ^ M.toNat) n cols (natT V),5)]
theorem zfi (P M:Int) (A:Option Addr) (k c:Nat) (f:Nat->Int) (cols:Nat) (T:Option Addr) (n d:Nat) (ln:Nat->Nat) (V:Nat->Nat->Int) (w:World) (hr:IntsR w w.heap.size A k f) (h:IntRows w T n ln V) (hc1:1<=cols) :
  Calls Tryz.prog 70 #[.agg #[.int .i64 P,.int .i64 M,.slice A k c],.agg #[.int .i64 (cols:Nat),.slice T n d]] w (ErrsPost (SpaceErrs P M k f cols n ln V) w):=by
 have HT:=hid h
 have HR:=hid hr
 clear h hr
 have rf:=zaf (w:=w) (a:=.int .i64 P) (b:=.int .i64 M) (c:=.slice A k c) (T := 24)
 have hB:Below w.heap.size w (w.alloc (.cells #[.int .i64 P,.int .i64 M,.slice A k c] 24)):=(Below.refl _ _).alloc (Nat.le_refl _) _
 have hsz:(w.alloc (.cells #[.int .i64 P,.int .i64 M,.slice A k c] 24)).heap.size=w.heap.size+1:=by simp
 obtain ⟨w0,hw0⟩:∃ W,W=w.alloc (.cells #[.int .i64 P,.int .i64 M,.slice A k c] 24):=⟨_,rfl⟩
 have rm:=zaB (w:=w0) (a:=.int .i64 (cols:Nat)) (b:=.slice T n d) (T := 106)
 have kb:Below w0.heap.size w0 (w0.alloc (.cells #[.int .i64 (cols:Nat),.slice T n d] 106)):=(Below.refl _ _).alloc (Nat.le_refl _) _
 obtain ⟨w1,hw1⟩:∃ W,W=w0.alloc (.cells #[.int .i64 (cols:Nat),.slice T n d] 106):=⟨_,rfl⟩
 rw [<-hw0] at hB rf hsz;rw [<-hw1] at rm kb;rw [hsz] at rm;replace rf:=zab rf kb;replace hB:=onS hB kb
 go_enter Tryz.func70, Tryz.ntmps70
 go_upto_region 1 with fail
 rw [<-hw0,<-hw1];clear hw0 hw1 kb hsz
 have q0:=qc0 rf
 have q1:=qc1 rf
 have q2:=qc2 rf
 have m0:=qc0 rm
 have m1:=qc1 rm
 go_wp2_with fail
 refine (zfh P M A k c f cols T n d ln V w1 (HR.out.on hB) (HT.out.on hB)).mono ?_
 rintro e w2 ⟨v,rfl,hv,kb⟩
 replace rf:=zab rf kb;replace rm:=zab rm kb;replace hB:=onS hB kb;clear kb q0 q1 q2 m0 m1
 by_cases hv0:v=0
 ·subst hv0
  have HVV:=hid hv
  rcases hv with ⟨_,h9⟩ | ⟨hg,⟨_,h9⟩ | ⟨hsh,⟨_,h9⟩ | ⟨hel,_⟩⟩⟩
  ·cases h9
  ·cases h9
  ·cases h9
  ·have hgf:=hg
   obtain ⟨P',M',rfl,rfl,hf,_⟩:=hg
   obtain ⟨hfo,hkM⟩:=hgf.field
   rw [Int.toNat_natCast,Int.toNat_natCast] at hel
   obtain ⟨hmr,hlt⟩:=zcE HT.out hsh hel
   have hn256:=hsh.2.2.1
   have hc256:=hsh.2.1
   have HMR:=hid (hmr.on hB)
   have HMD:=hid (hgf.mod HR.out)
   have HLT:=hid hlt
   have HSH:=hid hsh
   have HFO:=hid hfo
   clear hmr hlt hel hgf hsh hf
   have q0:=qc0 rf
   have q1:=qc1 rf
   have q2:=qc2 rf
   have m0:=qc0 rm
   have m1:=qc1 rm
   go_wp2_with fail
   refine (zeS P' M' A k c _ T n d cols cols (natT V) w2 HFO.out (zaz HMD.out hB) hkM HMR.out HLT.out (Nat.le_refl _) (by omega) (by omega) (by omega)).mono ?_
   rintro e w3 ⟨lv,pv,a,p,W,rfl,hM,hP,kb,hE,hRo⟩
   obtain ⟨LA,lc,hlv⟩:=hM.shape
   subst hlv
   obtain ⟨PA,pc,hpv⟩:=hP.shape
   subst hpv
   have han:=hE.le
   have HMW:=hid (hM.rd (q:=P' ^ M') HFO.out.1.2.2.2 fun i hi=>hE.lt i (by omega))
   have HMV:=hid (HMR.out.on kb)
   have HCA:=hid (zdS (fieldLaws HFO.out) HLT.out hE hRo)
   replace rf:=zab rf kb;replace rm:=zab rm kb;replace hB:=onS hB kb;clear kb q0 q1 q2 m0 m1 hM hP hE hRo
   have m1:=qc1 rm
   go_wp2_with fail
   refine (zef LA T a n lc d _ _ _ _ w3 HMW.out HMV.out (by omega) (by omega)).mono ?_
   rintro e w4 ⟨b,rfl,hb,kb⟩
   replace hB:=onS hB kb
   have HBB:Hid (b=true↔RrefN (P' ^ M') n cols (natT V)):=by
    refine hb.trans (Iff.trans ?_ HCA.out.symm)
    constructor
    ·intro h
     refine ⟨h.1,fun i hi j hj=>?_⟩
     have:=(h.2 i hi).2 j hj
     simp only at this
     omega
    ·intro h
     refine ⟨h.1,fun i hi=>⟨rfl,fun j hj=>?_⟩⟩
     show ((W i j:Nat):Int)=((natT V i j:Nat):Int)
     rw [h.2 i hi j hj]
   have HP9:Hid (∀ u:Int,FirstErr [(RrefN (P' ^ M') n cols (natT V),5)] u->FirstErr (SpaceErrs (P':Int) (M':Int) k f cols n ln V) u):=fun u hu=>by
    refine FirstErr.app (l:=[(GoodF (P':Int) (M':Int) k f,1),(ShapeM cols n ln,3),(ElemsM ((P':Int).toNat ^ (M':Int).toNat) n ln V,2)]) (by simp) HVV.out (fun h=>absurd rfl h) fun _=>?_
    rw [Int.toNat_natCast,Int.toNat_natCast]
    exact hu
   clear kb m1 rf rm hb HCA HMW HMV HVV
   cases b
   ·go_wp2
    go_ret
    exact errsPost (HP9.out _ (.inl ⟨fun h=>(by have:=HBB.out.2 h; cases this),rfl⟩)) hB
   ·go_wp2
    go_ret
    exact errsPost (HP9.out _ (.inr ⟨HBB.out.1 (by first | rfl | trivial),rfl⟩)) hB
 ·have hvn:(v != 0)=true:=by simpa using hv0
  have HVV:=hid (FirstErr.app (r:=[(RrefN (P.toNat ^ M.toNat) n cols (natT V),5)]) (u:=v) (by simp) hv (fun _=>rfl) (fun h=>absurd h hv0))
  clear hv hv0
  go_wp2
  go_ret
  exact errsPost HVV.out hB
def CodeErrs (P M:Int) (k:Nat) (f:Nat->Int) (N:Int) (n:Nat) (ln:Nat->Nat) (V:Nat->Nat->Int):List (Prop × Int) :=
 [(GoodF P M k f,1),(1<=N/\N<=64,4),(ShapeM N n ln,3),(ElemsM (P.toNat ^ M.toNat) n ln V,2),(RrefN (P.toNat ^ M.toNat) n N.toNat (natT V),5)]
def codCell (a b c d e:Value) (i:Nat):Value:=if i=0 then a else if i=1 then b else if i=2 then c else if i=3 then d else e
theorem KA.qc0 {w:World} {g:Nat} {T:TypeId} {a b c d e:Value} (h:w.rowIs g T 5 (codCell a b c d e)) : w.cell? ⟨g,0,none⟩=some a:=h.cell (i:=0) (by decide)
theorem KA.qc1 {w:World} {g:Nat} {T:TypeId} {a b c d e:Value} (h:w.rowIs g T 5 (codCell a b c d e)) : w.cell? ⟨g,1,none⟩=some b:=h.cell (i:=1) (by decide)
theorem KA.qc2 {w:World} {g:Nat} {T:TypeId} {a b c d e:Value} (h:w.rowIs g T 5 (codCell a b c d e)) : w.cell? ⟨g,2,none⟩=some c:=h.cell (i:=2) (by decide)
theorem KA.qc3 {w:World} {g:Nat} {T:TypeId} {a b c d e:Value} (h:w.rowIs g T 5 (codCell a b c d e)) : w.cell? ⟨g,3,none⟩=some d:=h.cell (i:=3) (by decide)
theorem KA.qc4 {w:World} {g:Nat} {T:TypeId} {a b c d e:Value} (h:w.rowIs g T 5 (codCell a b c d e)) : w.cell? ⟨g,4,none⟩=some e:=h.cell (i:=4) (by decide)
open KA
theorem zai {w:World} {a b c d e:Value} {T:TypeId}:(w.alloc (.cells #[a,b,c,d,e] T)).rowIs w.heap.size T 5 (codCell a b c d e) :=
 ⟨#[a,b,c,d,e],zax rfl,rfl,fun i hi=>by
  rcases (show i=0∨i=1∨i=2∨i=3∨i=4 by omega) with rfl | rfl | rfl | rfl | rfl <;> rfl⟩
theorem zbz (P M:Int) (A:Option Addr) (k c:Nat) (f:Nat->Int) (N:Int) (T:Option Addr) (n d:Nat) (ln:Nat->Nat) (V:Nat->Nat->Int) (w:World) (hr:IntsR w w.heap.size A k f) (h:IntRows w T n ln V) :
  Calls Tryz.prog 26 #[.agg #[.int .i64 P,.int .i64 M,.slice A k c,.int .i64 N,.slice T n d]] w (ErrsPost (CodeErrs P M k f N n ln V) w):=by
 have HT:=hid h
 have HR:=hid hr
 clear h hr
 have rf:=zai (w:=w) (a:=.int .i64 P) (b:=.int .i64 M) (c:=.slice A k c) (d:=.int .i64 N) (e:=.slice T n d) (T := 27)
 have hB:Below w.heap.size w (w.alloc (.cells #[.int .i64 P,.int .i64 M,.slice A k c,.int .i64 N,.slice T n d] 27)):=(Below.refl _ _).alloc (Nat.le_refl _) _
 obtain ⟨w1,hw1⟩:∃ W,W=w.alloc (.cells #[.int .i64 P,.int .i64 M,.slice A k c,.int .i64 N,.slice T n d] 27):=⟨_,rfl⟩
 rw [<-hw1] at hB rf
 go_enter Tryz.func26, Tryz.ntmps26
 go_upto_region 1 with fail
 rw [<-hw1];clear hw1
 have q0:=qc0 rf
 have q1:=qc1 rf
 have q2:=qc2 rf
 go_wp2_with fail
 refine (zcY P M A k c f w1 (HR.out.on hB)).mono ?_
 rintro e w2 ⟨v,rfl,hv,kb⟩
 replace rf:=zab rf kb;replace hB:=onS hB kb;clear kb q0 q1 q2
 rcases hv with ⟨rfl,hg⟩ | ⟨rfl,hg⟩
 ·have HG:=hid hg
  clear hg
  have q3:=qc3 rf
  by_cases hN1:N<1
  ·have hno:Hid (FirstErr (CodeErrs P M k f N n ln V) 4):=.inr ⟨HG.out,.inl ⟨fun h=>by have:=h.1; omega,rfl⟩⟩
   go_wp2
   go_ret
   exact errsPost hno.out hB
  ·by_cases hN2:N > 64
   ·have hno:Hid (FirstErr (CodeErrs P M k f N n ln V) 4):=.inr ⟨HG.out,.inl ⟨fun h=>by have:=h.2; omega,rfl⟩⟩
    go_wp2
    go_ret
    exact errsPost hno.out hB
   ·obtain ⟨cols,rfl⟩:∃ m:Nat,N=m:=⟨N.toNat,by omega⟩
    have q0:=qc0 rf
    have q1:=qc1 rf
    have q2:=qc2 rf
    have q4:=qc4 rf
    go_wp2_with fail
    refine (zfi P M A k c f cols T n d ln V w2 (HR.out.on hB) (HT.out.on hB) (by omega)).mono ?_
    rintro e w3 ⟨v,rfl,hv,kb⟩
    replace hB:=onS hB kb
    have HVV:Hid (FirstErr (CodeErrs P M k f cols n ln V) v):=by
     rcases hv with ⟨h1,_⟩ | ⟨_,h1⟩
     ·exact absurd HG.out h1
     ·exact .inr ⟨HG.out,.inr ⟨⟨by omega,by omega⟩,h1⟩⟩
    clear kb q0 q1 q2 q3 q4 rf hv
    go_wp2
    go_ret
    exact errsPost HVV.out hB
 ·have hno:Hid (FirstErr (CodeErrs P M k f N n ln V) 1):=.inl ⟨hg,rfl⟩
  clear hg
  go_wp2
  go_ret
  exact errsPost hno.out hB
section
variable {w:World}
theorem zbf {ops:Array Oper} {o:Oper} {a:Act} {K:Act->World->Prop} {Q:Exit->Act->World->Prop} {E:Prop} (hgd:o.guard=none) (sl x:Operand)
  (ho:o.op=.call { callee:=.builtin .append,args:=#[sl,x],argTypes:=#[22, 22] })
  {b0 base:Nat} (hv:a.eval sl=.slice (some ⟨b0,0,none⟩) 0 0) (hr0:w.rowIs b0 3 0 (fun _=>undef)) (hbase:base<=b0) {A:Option Addr} {c n:Nat} {f:Nat->Int} (hx:a.eval x=.slice A n c)
  (hsrc:IntsR w w.heap.size A n f) (hlen:n<=1048576)
  (K':∀ v' w',Own w' base 3 1 v' n (fun j _=>.int .i64 (f j))->Below w.heap.size w w'->(v'.ownBlock=some b0∨v'.ownBlock=some w.heap.size)->K (a.put o.dst v') w') :
  if Region.wanted o (yielded ops a.tmps)=true then Oper.wp Tryz.prog o a w K Q else E:=by
 have hw:Region.wanted o (yielded ops a.tmps)=true:=by simp [Region.wanted,hgd]
 rw [if_pos hw]
 obtain ⟨i0,qi0,qz0,qz1,qz2⟩:=info_parts Tryz.infoInt
 have hl0:b0<w.heap.size:=hr0.lt
 have hb0:w.heap[b0]?=some (.cells #[] 3 (0,0)):=by
  obtain ⟨cs,h1,h2,_⟩:=hr0
  rw [h1,Array.eq_empty_of_size_eq_zero h2]
 by_cases h0:n=0
 ·have hrun:=zaI (P:=Tryz.prog) w 22 o.type 3 i0 Tryz.underlying22 qi0 b0 0 A c
  rw [h0] at hx
  unfold Oper.wp execOp
  simp only [ho,resolve,invoke,builtin,Sem.run_bind,Sem.run_pure,Result.andThen_ok,List.map_toArray,List.map_cons,List.map_nil,hv,hx,hrun]
  refine K' _ _ ?_ (Below.refl _ _) (.inl rfl)
  rw [h0]
  exact .inr ⟨b0,0,0,#[],rfl,hbase,hb0,Nat.le_refl _,by unfold maxLen; omega,by simp,fun i hi=>absurd hi (by omega)⟩
 ·obtain ⟨cap,cur,hrun,h2,h3,h4,h5⟩:=zaX (P:=Tryz.prog) w 22 o.type 3 i0 _ 1 8 Tryz.underlying22 qi0 qz0 qz1 qz2 rfl (by omega) (some ⟨b0,0,none⟩) A n c (fun j _=>.int .i64 (f j)) hsrc (by omega) (fun _ _ _ _=>rfl) (by unfold maxLen; omega) (by omega)
  unfold Oper.wp execOp
  simp only [ho,resolve,invoke,builtin,Sem.run_bind,Sem.run_pure,Result.andThen_ok,List.map_toArray,List.map_cons,List.map_nil,hv,hx,hrun]
  refine K' _ _ ?_ (((Below.refl _ _).alloc (Nat.le_refl _) _).drew) (.inr rfl)
  exact (Own.new (w:=w) (base:=base) (e := 3) (by omega) h2 h3 h4 h5).drew
end
theorem zaC {a w:World} {b:Nat} (h:a.grownBy w (some b)) (i:Nat) (v:Value):a.grownBy (w.setCell ⟨b,i,none⟩ v) (some b):=by
 have k:=zcl w b i v
 exact ⟨k.os.trans h.os,k.tape.trans h.tape,k.output.trans h.output,Nat.le_trans h.size k.size,fun q hq hne=>(k.block q (Nat.lt_of_lt_of_le hq h.size) hne).trans (h.block q hq hne)⟩
theorem za5 {w:World} {base g m n s:Nat} {t e:TypeId} {F:Nat->Value} {v:Value} {f:Nat->Nat->Value} (hr:w.rowIs g t m F) (h:Own w base e s v n f) (hne:t≠e):v.ownBlock=none∨v.ownBlock≠some g:=by
 rcases h with ⟨rfl,_⟩ | ⟨b,o,cap,cur,rfl,_,hg,_⟩
 ·exact .inl rfl
 ·refine .inr fun e1=>?_
  obtain ⟨cs,h1,_⟩:=hr
  simp [Value.ownBlock] at e1
  subst e1
  rw [hg] at h1
  injection h1 with h1
  injection h1 with _ h1
  exact hne h1.symm
def ExpPost (q k most:Nat) (w:World) (e:Ending) (w':World):Prop :=
 ((q ^ k<=most/\e=.returned (.tuple #[.int .i64 (q ^ k:Nat),.int .i64 0]))∨(most<q ^ k/\e=.returned (.tuple #[.int .i64 0,.int .i64 8])))/\w'=w
theorem zin {q i k most o:Nat} (hq:2<=q) (ho:o=q ^ i) (h:most / q<o) (hi:i<k):most<q ^ k:=by
 have h1:most<o*q:=by
  have:=(Nat.div_lt_iff_lt_mul (show 0<q by omega)).1 h
  exact this
 have h2:o*q=q ^ (i+1):=by rw [ho,Nat.pow_succ]
 have h3:q ^ (i+1)<=q ^ k:=Nat.pow_le_pow_right (by omega) (by omega)
 omega
theorem zhf (q k most:Nat) (w:World) (hq:2<=q) (hq2:q<=256) (hk:k<=1048576) (hm:1<=most) (hm2:most<=1048576) :
  Calls Tryz.prog 127 #[.int .i64 (q:Nat),.int .i64 (k:Nat),.int .i64 (most:Nat)] w (ExpPost q k most w):=by
 have g1:¬ (q:Int)<0:=by omega
 have g2:¬ (k:Int)<0:=by omega
 have g3:¬ (most:Int)<0:=by omega
 have g4:((q:Int) == 0)=false:=by simp; omega
 have g5:(q:Int) > 1:=by omega
 have g6:((q:Int) == -1)=false:=by simp
 have g7:(1:Int)<(q:Int):=by omega
 obtain ⟨z,hz⟩:∃ z,z=most / q:=⟨_,rfl⟩
 have hd:(most:Int) / (q:Int)=(z:Int):=by rw [hz]; norm_cast
 have hzm:z<=most:=by rw [hz]; exact Nat.div_le_self _ _
 have HZ:=hid hz
 clear hz
 go_enter Tryz.func127, Tryz.ntmps127
 go_wp2
 go_loopg [8,9] k (fun gg ov iv wx=>∃ i o:Nat,ov=.int .i64 (o:Nat)/\iv=.int .i64 (i:Nat)/\i<=k/\k<=i+gg/\Hid (o=q ^ i)/\o<=most/\wx=w)
 case atStart=>exact ⟨0,1,rfl,rfl,by omega,by omega,rfl,hm,rfl⟩
 case round =>
  obtain ⟨i,o,rfl,rfl,hi,hig,HO,hom,hwx⟩:=hrel
  subst hwx
  have hi0:(0:Int)<=(i:Int):=by omega
  by_cases hlt:i<k
  ·have hlt':(i:Int)<(k:Int):=by omega
   by_cases hb:z<o
   ·have hb':(o:Int) > (z:Int):=by omega
    have HF:=hid (zin hq HO.out (by rw [<-HZ.out]; exact hb) hlt)
    clear hb
    go_wp2
    go_ret2
    exact ⟨.inr ⟨HF.out,rfl⟩,rfl⟩
   ·have hb':¬ (o:Int) > (z:Int):=by omega
    obtain ⟨y,hy⟩:∃ y,y=o*q:=⟨_,rfl⟩
    have hoq:y<=most:=by rw [hy]; exact Nat.le_trans (Nat.mul_le_mul_right q (Nat.not_lt.1 hb)) (by rw [HZ.out]; exact Nat.div_mul_le_self most q)
    have hc:(o:Int)*(q:Int)=(y:Int):=by rw [hy]; simp
    have HOQ:Hid (y=q ^ (i+1)):=by show _=_; rw [hy,HO.out,Nat.pow_succ]
    clear hb hy
    go_wp2
    go_roundg (gk - 1)
    case measure=>omega
    case rel=>exact ⟨i+1,y,by go_num,by go_num,by omega,by omega,HOQ,hoq,rfl⟩
  ·have hlt':¬ (i:Int)<(k:Int):=by omega
   obtain rfl:i=k:=by omega
   have hom':¬ (o:Int) > (most:Int):=by omega
   go_wp2
   go_ret2
   exact ⟨.inl ⟨by rw [<-HO.out]; exact hom,by rw [<-HO.out]; rfl⟩,rfl⟩
structure CodeR (w:World) (P M:Nat) (m:Nat->Nat) (A:Option Addr) (k N:Nat) (T:Option Addr) (n:Nat) (V:Nat->Nat->Nat):Prop where
 fld:FieldOk P M m
 ints:IntsR w w.heap.size A k (fun i=>(m i:Nat))
 kM:M=1/\k=0∨2<=M/\k=M/\∀ i,i<M->m i<P
 ln1:1<=N
 ln2:N<=64
 rows:MRows w T n N V
 lt:∀ i,i<n->∀ j,j<N->V i j<P ^ M
 rref:RrefN (P ^ M) n N V
theorem EchN.pv_ge {q n k c a:Nat} {pv:Nat->Nat} {W:Nat->Nat->Nat} (h:EchN q n k c a pv W):∀ s,s<a->s<=pv s
 | 0,_=>Nat.zero_le _
 | s+1,hs=>by
  have h1:=EchN.pv_ge h s (by omega)
  have h2:=h.inc s (s+1) (by omega) hs
  omega
theorem EchN.le_c {q n k c a:Nat} {pv:Nat->Nat} {W:Nat->Nat->Nat} (h:EchN q n k c a pv W):a<=c:=by
 rcases Nat.eq_zero_or_pos a with h0 | h0
 ·omega
 ·have h1:=h.pv_ge (a - 1) (by omega)
  have h2:=h.pvlt (a - 1) (by omega)
  omega
section
variable {w w':World} {P M k N n:Nat} {m:Nat->Nat} {A T:Option Addr} {V:Nat->Nat->Nat}
theorem CodeR.on (h:CodeR w P M m A k N T n V) (hb:Below w.heap.size w w'):CodeR w' P M m A k N T n V :=
 ⟨h.fld,h.ints.on hb,h.kM,h.ln1,h.ln2,h.rows.on hb,h.lt,h.rref⟩
theorem CodeR.mod (h:CodeR w P M m A k N T n V):ModOk w P M A m:=by
 rcases h.kM with ⟨h1,_⟩ | ⟨_,h2,h3⟩
 ·exact .inl h1
 ·subst h2; exact .inr ⟨h.ints,h3⟩
theorem CodeR.km (h:CodeR w P M m A k N T n V):M=1∨k=M:=by
 rcases h.kM with ⟨h1,_⟩ | ⟨_,h2,_⟩
 ·exact .inl h1
 ·exact .inr h2
theorem CodeR.n_le (h:CodeR w P M m A k N T n V):n<=N:=by
 obtain ⟨p,hp⟩:=h.rref
 exact hp.le_c
theorem zb5 {P M:Int} {k:Nat} {f:Nat->Int} {N:Int} {ln:Nat->Nat} {V:Nat->Nat->Int} (hr:IntsR w w.heap.size A k f) (h:IntRows w T n ln V) (hc:FirstErr (CodeErrs P M k f N n ln V) 0) :
  ∃ P' M' N':Nat,P=P'/\M=M'/\N=N'/\CodeR w P' M' (fun i=>(f i).toNat) A k N' T n (natT V):=by
 rcases hc with ⟨_,h9⟩ | ⟨hg,⟨_,h9⟩ | ⟨hN,⟨_,h9⟩ | ⟨hs,⟨_,h9⟩ | ⟨he,⟨_,h9⟩ | ⟨hR,_⟩⟩⟩⟩⟩
 ·cases h9
 ·cases h9
 ·cases h9
 ·cases h9
 ·cases h9
 ·have hg2:=hg
  obtain ⟨P',M',rfl,rfl,h3,h4,h5⟩:=hg
  obtain ⟨N',rfl⟩:∃ N':Nat,N=N':=⟨N.toNat,by omega⟩
  rw [Int.toNat_natCast,Int.toNat_natCast] at he hR;rw [Int.toNat_natCast] at hR
  obtain ⟨g1,g2⟩:=zcE h hs he
  refine ⟨P',M',N',rfl,rfl,rfl,hg2.field.1,?_,?_,by omega,by omega,g1,g2,hR⟩
  ·rcases h5 with ⟨e1,e2⟩ | ⟨e1,rfl,e3,e4⟩
   ·subst e2
    exact fun i hi=>absurd hi (by omega)
   ·exact hr.congr fun i hi=>by have:=e3 i hi; show f i=((f i).toNat:Int); omega
  ·rcases h5 with ⟨e1,e2⟩ | ⟨e1,e2,e3,e4⟩
   ·exact .inl ⟨e1,e2⟩
   ·exact .inr ⟨e1,e2,fun i hi=>by have:=e3 i hi; show (f i).toNat<P'; omega⟩
end
theorem MTab.kept {w w':World} {base n k g mm:Nat} {v:Value} {W:Nat->Nat->Nat} {t:TypeId} {F:Nat->Value} (h:MTab w base v n k W) (hg:w.grownBy w' (some g)) (hr:w.rowIs g t mm F) (h1:t ≠ 22) (h2:t ≠ 3):MTab w' base v n k W:=by
 obtain ⟨R,a,b⟩:=h
 exact ⟨R,a.kept hg (za5 hr a h1),fun i hi=>(b i hi).kept hg (za5 hr (b i hi) h2)⟩
theorem zio {V:Nat->Nat->Nat}:natT (fun i j=>(V i j:Int))=V:=by
 funext i j
 simp [natT]
theorem CodeR.errs {w:World} {P M k N n:Nat} {m:Nat->Nat} {A T:Option Addr} {V:Nat->Nat->Nat} (h:CodeR w P M m A k N T n V):FirstErr (CodeErrs (P:Int) (M:Int) k (fun i=>(m i:Int)) (N:Int) n (fun _=>N) (fun i j=>(V i j:Int))) 0:=by
 have hn:=h.n_le
 have h1:=h.ln1
 have h2:=h.ln2
 refine .inr ⟨?_,.inr ⟨⟨by omega,by omega⟩,.inr ⟨⟨by omega,by omega,by omega,fun i _=>rfl⟩,.inr ⟨?_,.inr ⟨?_,rfl⟩⟩⟩⟩⟩
 ·obtain ⟨h3,h4,h5,h6⟩:=h.fld
  refine ⟨P,M,rfl,rfl,h3,h4,?_⟩
  rcases h.kM with ⟨e1,e2⟩ | ⟨e1,e2,e3⟩
  ·exact .inl ⟨e1,e2⟩
  ·refine .inr ⟨e1,e2,fun i hi=>⟨Int.natCast_nonneg _,by have:=e3 i hi; show ((m i:Nat):Int)<(P:Int); omega⟩,?_⟩
   simp only [Int.toNat_natCast]
   exact h6
 ·rw [Int.toNat_natCast,Int.toNat_natCast]
  intro i hi j hj
  have:=h.lt i hi j hj
  exact ⟨Int.natCast_nonneg _,by show ((V i j:Nat):Int)<((P ^ M:Nat):Int); omega⟩
 ·rw [Int.toNat_natCast,Int.toNat_natCast,Int.toNat_natCast,zio]
  exact h.rref
def SizePost (P M:Int) (k:Nat) (f:Nat->Int) (N:Int) (n:Nat) (ln:Nat->Nat) (V:Nat->Nat->Int) (w:World) (e:Ending) (w':World):Prop :=
 ∃ v u:Int,e=.returned (.tuple #[.int .i64 v,.int .i64 u])/\FirstErr (CodeErrs P M k f N n ln V ++ [((P.toNat ^ M.toNat) ^ n<=65536,8)]) u/\(u=0->v=(((P.toNat ^ M.toNat) ^ n:Nat):Int))/\(u≠0->v=0)/\Below w.heap.size w w'
theorem zf7 (P M:Int) (A:Option Addr) (k c:Nat) (f:Nat->Int) (N:Int) (T:Option Addr) (n d:Nat) (ln:Nat->Nat) (V:Nat->Nat->Int) (w:World) (hr:IntsR w w.heap.size A k f) (h:IntRows w T n ln V) :
  Calls Tryz.prog 65 #[.agg #[.int .i64 P,.int .i64 M,.slice A k c,.int .i64 N,.slice T n d]] w (SizePost P M k f N n ln V w):=by
 have HT:=hid h
 have HR:=hid hr
 clear h hr
 have rf:=zai (w:=w) (a:=.int .i64 P) (b:=.int .i64 M) (c:=.slice A k c) (d:=.int .i64 N) (e:=.slice T n d) (T := 27)
 have hB:Below w.heap.size w (w.alloc (.cells #[.int .i64 P,.int .i64 M,.slice A k c,.int .i64 N,.slice T n d] 27)):=(Below.refl _ _).alloc (Nat.le_refl _) _
 obtain ⟨w1,hw1⟩:∃ W,W=w.alloc (.cells #[.int .i64 P,.int .i64 M,.slice A k c,.int .i64 N,.slice T n d] 27):=⟨_,rfl⟩
 rw [<-hw1] at hB rf
 go_enter Tryz.func65, Tryz.ntmps65
 go_upto_region 1 with fail
 rw [<-hw1];clear hw1
 have q0:=qc0 rf
 have q1:=qc1 rf
 have q2:=qc2 rf
 have q3:=qc3 rf
 have q4:=qc4 rf
 go_wp2_with fail
 refine (zbz P M A k c f N T n d ln V w1 (HR.out.on hB) (HT.out.on hB)).mono ?_
 rintro e w2 ⟨v,rfl,hv,kb⟩
 replace rf:=zab rf kb;replace hB:=onS hB kb;clear kb q0 q1 q2 q3 q4
 by_cases hv0:v=0
 ·subst hv0
  have HVV:=hid hv
  obtain ⟨P',M',N',rfl,rfl,rfl,hC⟩:=zb5 HR.out HT.out hv
  have hfo:=hC.fld.1
  have hn64:=hC.n_le
  have hN64:=hC.ln2
  have hq2:=(fieldLaws hC.fld).two
  have hq256:=hfo.2.2.2
  have HORD:=hid (zbI hfo)
  clear hC hv
  have q0:=qc0 rf
  have q1:=qc1 rf
  have q2:=qc2 rf
  have q4:=qc4 rf
  go_wp2
  refine wp_region_held_drew (S:=fun w'=>w'.cell? ⟨w.heap.size,0,none⟩=some (.int .i64 (P':Nat))/\w'.cell? ⟨w.heap.size,1,none⟩=some (.int .i64 (M':Nat))/\w'.cell? ⟨w.heap.size,2,none⟩=some (.slice A k c)/\w'.cell? ⟨w.heap.size,4,none⟩=some (.slice T n d)) (by kernel_rfl) ⟨cellS (Below.refl _ _).drew (q0),cellS (Below.refl _ _).drew (q1),cellS (Below.refl _ _).drew (q2),cellS (Below.refl _ _).drew (q4)⟩ (fun hHeld=>?_)
  obtain ⟨w3,hw⟩:∃ W,W=World.drew w2:=⟨_,rfl⟩
  have kb:Below w2.heap.size w2 w3:=by rw [hw]; exact (Below.refl _ _).drew
  rw [<-hw] at hHeld ⊢;clear hw;replace hB:=onS hB kb;replace q0:=cellS kb q0;replace q1:=cellS kb q1;replace q2:=cellS kb q2;replace q4:=cellS kb q4;clear kb
  refine tkq 0 (h:=tkq 1 (h:=tkq 3 (h:=tkq 4 (h:=tkq 5 (h:=?_)))))
  refine rdq 2 (h:=fun K hK=>?_)
  go_simp
  go_wp2_with fail
  refine (zbv (P':Int) (M':Int) A k c w3).mono ?_
  rintro e w4 ⟨rfl,kb⟩
  replace hB:=onS hB kb;replace q0:=cellS kb q0;replace q1:=cellS kb q1;replace q2:=cellS kb q2;replace q4:=cellS kb q4;clear kb;rw [HORD.out]
  obtain ⟨Q,hQ⟩:∃ Q,Q=P' ^ M':=⟨_,rfl⟩
  rw [<-hQ]
  have HQ:=hid hQ
  rw [<-hQ] at hq2 hq256;clear hQ
  refine bkq hK ⟨q0,q1,q2,q4⟩ (h:=fun hHeld=>?_)
  clear hK K
  refine rdq 6 (h:=fun K hK=>?_)
  go_simp
  go_wp2_with fail
  refine (zhf Q n 65536 w4 hq2 hq256 (by omega) (by omega) (by omega)).mono ?_
  rintro e w5 ⟨hex,rfl⟩
  obtain ⟨y,u,rfl,hyu⟩:∃ y u:Int,e=.returned (.tuple #[.int .i64 y,.int .i64 u])/\((Q ^ n<=65536/\y=((Q ^ n:Nat):Int)/\u=0)∨(65536<Q ^ n/\y=0/\u=8)):=by
   rcases hex with ⟨h1,rfl⟩ | ⟨h1,rfl⟩
   ·exact ⟨_,_,rfl,.inl ⟨h1,rfl,rfl⟩⟩
   ·exact ⟨_,_,rfl,.inr ⟨h1,rfl,rfl⟩⟩
  have HYU:=hid hyu
  clear hex hyu
  refine bkq hK ⟨q0,q1,q2,q4⟩ (h:=fun hHeld=>?_)
  clear hK K
  refine tkq 7 (h:=tkq 8 (h:=tkq 9 (h:=tkq 10 (h:=?_))))
  refine wpAnyH_done (by kernel_rfl) ?_ _
  clear hHeld;clear q0 q1 q2 q4 rf
  go_wp2
  go_ret2
  refine ⟨y,u,rfl,?_,fun h=>?_,fun h=>?_,hB⟩
  ·refine FirstErr.app (by simp [CodeErrs]) HVV.out (fun h=>absurd rfl h) fun _=>?_
   rw [Int.toNat_natCast,Int.toNat_natCast,<-HQ.out]
   rcases HYU.out with ⟨h1,_,h3⟩ | ⟨h1,_,h3⟩
   ·exact .inr ⟨h1,h3⟩
   ·exact .inl ⟨by omega,h3⟩
  ·rw [Int.toNat_natCast,Int.toNat_natCast,<-HQ.out]
   rcases HYU.out with ⟨h1,h2,h3⟩ | ⟨h1,h2,h3⟩
   ·exact h2
   ·omega
  ·rcases HYU.out with ⟨h1,h2,h3⟩ | ⟨h1,h2,h3⟩
   ·exact absurd h3 h
   ·exact h2
 ·have hvn:(v != 0)=true:=by simpa using hv0
  have HVV:=hid (FirstErr.app (r:=[((P.toNat ^ M.toNat) ^ n<=65536,8)]) (u:=v) (by simp [CodeErrs]) hv (fun _=>rfl) (fun h=>absurd h hv0))
  clear hv
  go_wp2
  go_ret2
  exact ⟨0,v,rfl,HVV.out,fun h=>absurd h hv0,fun _=>rfl,hB⟩
def CountPost (most:Nat) (P M:Int) (k:Nat) (f:Nat->Int) (N:Int) (n:Nat) (ln:Nat->Nat) (V:Nat->Nat->Int) (w:World) (e:Ending) (w':World):Prop :=
 ∃ v:Int,e=.returned (.int .i64 v)/\((v=0/\¬ (FirstErr (CodeErrs P M k f N n ln V) 0/\(P.toNat ^ M.toNat) ^ n<=most))∨(FirstErr (CodeErrs P M k f N n ln V) 0/\(P.toNat ^ M.toNat) ^ n<=most/\v=(((P.toNat ^ M.toNat) ^ n:Nat):Int)))/\Below w.heap.size w w'
theorem FirstErr.app_zero:∀ {l r:List (Prop × Int)},(∀ x ∈ l,x.2≠0)->FirstErr (l ++ r) 0->FirstErr l 0/\FirstErr r 0
 | [],_,_,h=>⟨rfl,h⟩
 | (p, e) :: l, r, hne, h => by
  rcases h with ⟨_,h1⟩ | ⟨hp,h⟩
  ·exact absurd h1.symm (hne (p,e) (by simp))
  ·obtain ⟨h1,h2⟩:=FirstErr.app_zero (l:=l) (fun x hx=>hne x (by simp [hx])) h
   exact ⟨.inr ⟨hp,h1⟩,h2⟩
theorem FirstErr.app_all:∀ {l r:List (Prop × Int)},FirstErr l 0->FirstErr r 0->(∀ x ∈ l,x.2≠0)->FirstErr (l ++ r) 0
 | [],_,_,h,_=>h
 | (p,e) :: l,r,h1,h2,hne=>by
  rcases h1 with ⟨_,h3⟩ | ⟨hp,h1⟩
  ·exact absurd h3.symm (hne (p,e) (by simp))
  ·exact .inr ⟨hp,FirstErr.app_all h1 h2 fun x hx=>hne x (by simp [hx])⟩
theorem zfj (most:Nat) (P M:Int) (A:Option Addr) (k c:Nat) (f:Nat->Int) (N:Int) (T:Option Addr) (n d:Nat) (ln:Nat->Nat) (V:Nat->Nat->Int) (w:World) (hr:IntsR w w.heap.size A k f) (h:IntRows w T n ln V) (hm:most<=65536) :
  Calls Tryz.prog 21 #[.agg #[.int .i64 P,.int .i64 M,.slice A k c,.int .i64 N,.slice T n d],.int .i64 (most:Nat)] w (CountPost most P M k f N n ln V w):=by
 have HT:=hid h
 have HR:=hid hr
 clear h hr
 have rf:=zai (w:=w) (a:=.int .i64 P) (b:=.int .i64 M) (c:=.slice A k c) (d:=.int .i64 N) (e:=.slice T n d) (T := 27)
 have hB:Below w.heap.size w (w.alloc (.cells #[.int .i64 P,.int .i64 M,.slice A k c,.int .i64 N,.slice T n d] 27)):=(Below.refl _ _).alloc (Nat.le_refl _) _
 obtain ⟨w1,hw1⟩:∃ W,W=w.alloc (.cells #[.int .i64 P,.int .i64 M,.slice A k c,.int .i64 N,.slice T n d] 27):=⟨_,rfl⟩
 rw [<-hw1] at hB rf
 go_enter Tryz.func21, Tryz.ntmps21
 go_upto_region 1 with fail
 rw [<-hw1];clear hw1
 have q0:=qc0 rf
 have q1:=qc1 rf
 have q2:=qc2 rf
 have q3:=qc3 rf
 have q4:=qc4 rf
 go_wp2_with fail
 refine (zf7 P M A k c f N T n d ln V w1 (HR.out.on hB) (HT.out.on hB)).mono ?_
 rintro e w2 ⟨v,u,rfl,hu,hv1,hv2,kb⟩
 replace hB:=onS hB kb
 have HU:=hid hu
 clear kb q0 q1 q2 q3 q4 rf hu
 by_cases hu0:u=0
 ·have hv:=hv1 hu0
  have hun:(u != 0)=false:=by simpa using hu0
  obtain ⟨hc,hs⟩:=FirstErr.app_zero (l:=CodeErrs P M k f N n ln V) (by simp [CodeErrs]) (by rw [<-hu0]; exact HU.out)
  have HCC:=hid hc
  have HVV:=hid hv
  clear hc hs hv hv1 hv2 hu0
  by_cases hvm:v > (most:Int)
  ·go_wp2
   go_ret
   exact ⟨0,rfl,.inl ⟨rfl,fun h=>by have:=h.2; have:=HVV.out; omega⟩,hB⟩
  ·go_wp2
   go_ret
   exact ⟨v,rfl,.inr ⟨HCC.out,by have:=HVV.out; omega,HVV.out⟩,hB⟩
 ·have hun:(u != 0)=true:=by simpa using hu0
  have HNO:Hid (¬ (FirstErr (CodeErrs P M k f N n ln V) 0/\(P.toNat ^ M.toNat) ^ n<=most)):=by
   rintro ⟨h1,h2⟩
   exact hu0 (FirstErr.unique HU.out (FirstErr.app_all h1 (.inr ⟨Nat.le_trans h2 hm,rfl⟩) (by simp [CodeErrs])))
  clear hv1 hv2 hu0
  go_wp2
  go_ret
  exact ⟨0,rfl,.inl ⟨rfl,HNO.out⟩,hB⟩
def NoInt (w:World) (b:Nat):Prop:=∀ j n,w.cell? ⟨b,j,none⟩≠some (.int .u32 n)
theorem zip {w:World} {g:Nat} {c:Array Value} {e:TypeId} {fr:Nat × Nat} (hg:w.heap[g]?=some (.cells c e fr)) (h:∀ u ∈ c.toList,∀ n,u≠.int .u32 n):NoInt w g:=fun j n hj=>by
 rw [cell_of_row w g j c e fr hg] at hj
 exact h _ (by rw [Array.mem_toList_iff]; exact Array.mem_of_getElem? hj) n rfl
theorem zek {w:World} {g:Nat} {c:Array Value} {e:TypeId} {fr:Nat × Nat} (hg:w.heap[g]?=some (.cells c e fr)) (h:NoInt w g):∀ u ∈ c.toList,∀ n,u≠.int .u32 n:=fun u hu n e'=>by
 rw [Array.mem_toList_iff] at hu
 obtain ⟨j,hj,e2⟩:=Array.getElem_of_mem hu
 exact h j n (by rw [cell_of_row w g j c _ fr hg,Array.getElem?_eq_getElem hj,e2,e'])
theorem zcZ {w w':World} {B n:Nat} {A:Option Addr} {f:Nat->Nat} {row:Option Nat} (h:Lims w B A n f) (hB:B<=w.heap.size) (hg:w.grownBy w' row) (hni:∀ g,row=some g->NoInt w g):Lims w' B A n f:=fun k hk=>by
 obtain ⟨b',o',e,h1,h2⟩:=h k hk
 refine ⟨b',o',e,h1,fun j hj=>?_⟩
 have hc:=h2 j hj
 rw [<-hc]
 have hne:row≠some b':=fun e=>hni b' e _ _ hc
 have:=hg.block b' (by omega) (fun e=>hne e.symm)
 simp only [World.cell?,this]
theorem zdT {z:Array Value} {n:Nat} {u:Value} (h:u ∈ (Builtin.zeroCells z n).toList):u ∈ z.toList:=by
 simp only [Builtin.zeroCells,Array.toList_map,List.mem_map,Array.toList_range,List.mem_range] at h
 obtain ⟨k,hk,rfl⟩:=h
 have h0:0<z.size:=Nat.pos_of_ne_zero fun e=>by rw [e] at hk; simp at hk
 have h1:k % z.size<z.size:=Nat.mod_lt _ h0
 rw [getElem!_pos z _ h1]
 exact Array.getElem_mem_toList h1
section
variable {P:Program} (w:World)
theorem zcF (Pv:Value->Prop) (base:Nat) (t ty e:TypeId) (i:TypeInfo) (z:Value) (s bytes:Nat) (ht:P.underlying t=some (.slice e)) (hi:P.info? e=some i) (hz:i.zero=some z)
  (hsize:i.size=s) (hby:i.bytes=bytes) (hs:0<s)
  (v:Value) (n:Nat) (f:Nat->Nat->Value) (hown:Own w base e s v n f)
  (a:Addr) (c:Nat) (hnews:∀ j,j<s->w.cell? (a.add j)=some (f n j)) (h1:∀ j,j<s->(f n j).oneCell'=true)
  (h63:n+1<=maxLen) (hbytes:(n+1)*bytes<=140737488355328)
  (hPz:∀ u ∈ z.cells.toList,Pv u) (hPf:∀ k j,k<=n->j<s->Pv (f k j)) (hPv:∀ g c e fr,v.ownBlock=some g->w.heap[g]?=some (.cells c e fr)->∀ u ∈ c.toList,Pv u) :
  ∃ v' w',(Builtin.append_ #[t,t] ty #[v,.slice (some a) 1 c]).run P w=.ok v' w'/\∀ g,v'.ownBlock=some g->∃ c e fr,w'.heap[g]?=some (.cells c e fr)/\∀ u ∈ c.toList,Pv u:=by
 subst hsize
 subst hby
 have hsmall:n+1<=9223372036854775807:=by simp only [maxLen] at h63; omega
 have hnews':∀ j u,(elem i.size (f n))[j]?=some u->w.cell? (a.add j)=some u:=fun j u hu=>by
  have hj:j<i.size:=by have:=(List.getElem?_eq_some_iff.1 hu).1; rwa [zal] at this
  rw [zdc hj] at hu
  injection hu with hu
  subst hu
  exact hnews j hj
 have h1':∀ u ∈ elem i.size (f n),u.oneCell'=true:=fun u hu=>by
  obtain ⟨j,hj,rfl⟩:=List.mem_map.1 hu
  exact h1 j (List.mem_range.1 hj)
 have hPe:∀ u ∈ elem i.size (f n),Pv u:=fun u hu=>by
  obtain ⟨j,hj,rfl⟩:=List.mem_map.1 hu
  exact hPf n j (Nat.le_refl _) (List.mem_range.1 hj)
 have hPo:∀ u ∈ flat i.size f n,Pv u:=fun u hu=>by
  obtain ⟨j,hj,rfl⟩:=List.mem_map.1 hu
  have hj:=List.mem_range.1 hj
  exact hPf _ _ (Nat.le_of_lt (Nat.div_lt_of_lt_mul (by rw [Nat.mul_comm]; exact hj))) (Nat.mod_lt _ hs)
 have hsrc:=Src.ofSlice (P:=P) w (size:=i.size) (e':=e) ht a 1 c (elem i.size (f n)) (by rw [zal]; omega) hnews' h1'
 have grown:∀ (A:Option Addr) (cap:Nat),cap<n+1->(Builtin.firstCells i.size n (.slice A n cap)).run P w.drew=.ok (flat i.size f n).toArray w.drew ->
   ∃ v' w',(Builtin.append_ #[t,t] ty #[.slice A n cap,.slice (some a) 1 c]).run P w=.ok v' w'/\∀ g,v'.ownBlock=some g->∃ c e fr,w'.heap[g]?=some (.cells c e fr)/\∀ u ∈ c.toList,Pv u:=by
  intro A cap hcap hold
  have hrun:=run_append_grow_src (P:=P) w t t ty e i z ht hi hz A n cap (flat i.size f n) hold (.slice (some a) 1 c) 1 (elem i.size (f n)) hsrc hcap (by omega) (growslice_fits hcap hbytes)
  refine ⟨_,_,hrun,fun g hg=>?_⟩
  simp [Value.ownBlock] at hg
  subst hg
  refine ⟨_,e,_,heap_alloc_new w.drew _,fun u hu=>?_⟩
  simp only [Array.toList_append,List.mem_append] at hu
  rcases hu with (hu | hu) | hu
  ·exact hPo u hu
  ·exact hPe u hu
  ·exact hPz u (zdT hu)
 rcases hown with ⟨rfl,rfl⟩ | ⟨g,o,cap,cur,rfl,hb,hg,hnc,hcm,hfit,hcur⟩
 ·exact grown none 0 (by omega) (by simp [Builtin.firstCells,flat])
 ·by_cases hroom:n+1<=cap
  ·have hsz:o+n*i.size+(elem i.size (f n)).length<=cur.size:=by
    rw [zal]
    have:(n+1)*i.size<=cap*i.size:=Nat.mul_le_mul_right i.size hroom
    rw [Nat.add_mul] at this; omega
   have hrun:=za2 (P:=P) w t ty e i ht hi g o n cap cur hg a c (elem i.size (f n)) (zal _ _) hnews' h1' hroom hsz
   refine ⟨_,_,hrun,fun g' hg'=>?_⟩
   simp [Value.ownBlock] at hg'
   subst hg'
   refine ⟨_,e,_,zbn hg,fun u hu=>?_⟩
   have hold:=hPv g cur e _ rfl hg
   simp only [List.mem_append] at hu
   rcases hu with (hu | hu) | hu
   ·exact hold u (List.mem_of_mem_take hu)
   ·exact hPe u hu
   ·exact hold u (List.mem_of_mem_drop hu)
  ·have hcap:cap=n:=by omega
   subst hcap
   have hold:(Builtin.firstCells i.size cap (.slice (some ⟨g,o,none⟩) cap cap)).run P w.drew=.ok (flat i.size f cap).toArray w.drew:=by
    refine run_firstCells_some (P:=P) w.drew i.size cap ⟨g,o,none⟩ cap cap (flat i.size f cap) (zao _ _ _) fun j u hu=>?_
    have hj:j<cap*i.size:=by have:=(List.getElem?_eq_some_iff.1 hu).1; rwa [zao] at this
    have e1:j / i.size<cap:=Nat.div_lt_of_lt_mul (by rw [Nat.mul_comm]; exact hj)
    have e2:j % i.size<i.size:=Nat.mod_lt _ hs
    have e3:j / i.size*i.size+j % i.size=j:=Nat.div_add_mod' j i.size
    have:=zcy (f:=f) hs e1 e2
    rw [e3,hu] at this
    injection this with this
    subst this
    have:=hcur _ e1 _ e2
    have hadd:(⟨g,o,none⟩:Addr).add j=⟨g,o+j,none⟩:=by unfold Addr.add; split <;> simp_all
    rw [hadd]
    show w.cell? ⟨g,o+j,none⟩=_
    rw [cell_of_row w g _ cur e (0,0) hg,<-this]
    congr 1; omega
   exact grown (some ⟨g,o,none⟩) cap (by omega) hold
end
def NatOwn (w:World) (base:Nat) (v:Value) (k:Nat) (x:Nat->Nat):Prop :=
 ∃ f:Nat->Nat->Value,Own w base 69 1 v k f/\(∀ g,v.ownBlock=some g->NoInt w g)/\∀ i,i<k->∃ A c,f i 0=.slice A (dl (x i)) c/\NatOk w w.heap.size A (x i)/\dl (x i)<=c/\c<=maxLen
theorem NatOwn.nil (w:World) (base:Nat) (x:Nat->Nat):NatOwn w base (.slice none 0 0) 0 x:=⟨fun _ _=>undef,.inl ⟨rfl,rfl⟩,fun g h=>by simp [Value.ownBlock] at h,fun i hi=>by omega⟩
theorem NatOwn.on {w w':World} {base k:Nat} {v:Value} {x:Nat->Nat} (h:NatOwn w base v k x) (hb:Below w.heap.size w w'):NatOwn w' base v k x:=by
 obtain ⟨f,h1,h2,h3⟩:=h
 refine ⟨f,h1.on hb,fun g hg j n hj=>?_,fun i hi=>?_⟩
 ·have hlt:=(h1.lt g hg).2
  exact h2 g hg j n (by rw [<-hb.cell (p:=⟨g,j,none⟩) hlt]; exact hj)
 ·obtain ⟨A,c,e0,n1,h4⟩:=h3 i hi
  exact ⟨A,c,e0,n1.on hb,h4⟩
theorem Tryz.infoNat:(Tryz.prog.info? 69).map (fun i=>(i.zero,i.size,i.bytes))=some (some (.slice none 0 0),1,24):=by kernel_rfl
theorem zdq (w:World) (ty:TypeId) (base:Nat) (v:Value) (k:Nat) (x:Nat->Nat) (h:NatOwn w base v k x) (hbase:base<=w.heap.size) (hk:k<=1048576)
  (b c:Nat) (A:Option Addr) (d:Nat) (y:Nat) (hr:x k=y)
  (c0:w.cell? ⟨b,0,none⟩=some (.slice A (dl y) d)) (m1:NatOk w w.heap.size A y) (m3:dl y<=d) (m4:d<=maxLen) :
  ∃ v' w',(Builtin.append_ #[64, 64] ty #[v,.slice (some ⟨b,0,none⟩) 1 c]).run Tryz.prog w=.ok v' w'/\NatOwn w' base v' (k+1) x/\w.grownBy w' v.ownBlock/\(∀ g,v.ownBlock=some g->base<=g):=by
 subst hr
 obtain ⟨f,hown,hni,hf⟩:=h
 obtain ⟨i,hi,hzz⟩:=Option.map_eq_some_iff.1 Tryz.infoNat
 simp only [Prod.mk.injEq] at hzz
 obtain ⟨hz,hs,hb⟩:=hzz
 let f':Nat->Nat->Value:=fun i j=>if i<k then (if j<1 then f i 0 else undef) else .slice A (dl (x k)) d
 have hown':Own w base 69 1 v k f':=hown.congr fun i hi j hj=>by
  obtain rfl:j=0:=by omega
  simp [f',hi]
 have hnews:∀ j,j<1->w.cell? ((⟨b,0,none⟩:Addr).add j)=some (f' k j):=fun j hj=>by
  obtain rfl:j=0:=by omega
  have:(⟨b,0,none⟩:Addr).add 0=⟨b,0,none⟩:=by unfold Addr.add; split <;> simp_all
  rw [this]
  simpa [f'] using c0
 have h1:∀ j,j<1->(f' k j).oneCell'=true:=fun j hj=>by simp [f']; rfl
 obtain ⟨v1,w1,e1,o1,g1,a1,_⟩:=zaU (P:=Tryz.prog) w base 64 ty 69 i _ 1 24 Tryz.underlying64 hi hz hs hb rfl (by omega) v k f' hown' ⟨b,0,none⟩ c hnews h1 (by unfold maxLen; omega) (by omega) hbase
 obtain ⟨v2,w2,e2,hcells⟩:=zcF (P:=Tryz.prog) w (fun u=>∀ n,u≠.int .u32 n) base 64 ty 69 i _ 1 24 Tryz.underlying64 hi hz hs hb (by omega) v k f' hown' ⟨b,0,none⟩ c hnews h1 (by unfold maxLen; omega) (by omega)
  (fun u hu n e=>by
   have hu:u ∈ [Value.slice none 0 0]:=hu
   rw [e] at hu; simp at hu)
  (fun i j hi hj n=>by
   obtain rfl:j=0:=by omega
   by_cases e:i<k
   ·obtain ⟨B,x,e0,_⟩:=hf i e
    simp [f',e,e0]
   ·simp [f',e])
  (fun g c' e' fr hg hh=>zek hh (hni g hg))
 rw [e1] at e2
 injection e2 with e2 e3
 subst e2 e3
 have nat:∀ A' y,NatOk w w.heap.size A' y->NatOk w1 w1.heap.size A' y:=fun A' y hx=>by
  have:=zcZ hx (Nat.le_refl _) g1 (fun g hg=>hni g hg)
  intro q hq
  obtain ⟨b',o',e,h1,h2⟩:=this q hq
  exact ⟨b',o',e,Nat.lt_of_lt_of_le h1 g1.size,h2⟩
 refine ⟨v1,w1,e1,⟨f',o1,fun g hg=>?_,fun i hi=>?_⟩,g1,fun g hg=>(hown.lt g hg).1⟩
 ·obtain ⟨c',e',fr,hh,hu⟩:=hcells g hg
  exact zip hh hu
 ·by_cases e:i<k
  ·obtain ⟨B,z,e0,n1,h4⟩:=hf i e
   exact ⟨B,z,by simp [f',e,e0],nat _ _ n1,h4⟩
  ·obtain rfl:i=k:=by omega
   exact ⟨A,d,by simp [f'],nat _ _ m1,m3,m4⟩
open Go.ChangeShapes Go.WideShapes Go.ChangeAt
def disN (f g:Nat->Int):Nat->Nat
 | 0=>0
 | k+1=>disN f g k+if f k=g k then 0 else 1
def msgD (q n x t:Nat):Nat:=dig q x (n - 1 - t)
theorem zdU {q n x t:Nat} (hq:0<q):msgD q n x t<q:=zbJ hq x _
open Go
def rv (s:Bool) (x y:Nat):Rat:=mkRat (if s then -(x:Int) else x) y
theorem zf8 {α:Type}:∀ {l m:List α},l.Nodup->(∀ x,x ∈ l->x ∈ m)->l.length<=m.length:=by
 classical
 intro l
 induction l with
 | nil=>intro m _ _; exact Nat.zero_le _
 | cons a l ih =>
  intro m h1 h2
  have ha:=h2 a (by simp)
  rw [List.nodup_cons] at h1
  have hl:=List.length_erase_of_mem ha
  have hp:=ih (m:=m.erase a) h1.2 fun x hx=>(List.mem_erase_of_ne (fun e:x=a=>h1.1 (by rw [<-e]; exact hx))).2 (h2 x (by simp [hx]))
  have hpos:=List.length_pos_of_mem ha
  simp only [List.length_cons]
  omega
theorem za6 {α β:Type} {f:α->β}:∀ {l:List α},l.Nodup->(∀ a,a ∈ l->∀ b,b ∈ l->f a=f b->a=b)->(l.map f).Nodup:=by
 intro l
 induction l with
 | nil=>intro _ _; exact List.nodup_nil
 | cons a l ih =>
  intro h hi
  rw [List.nodup_cons] at h;rw [List.map_cons,List.nodup_cons]
  refine ⟨fun hm=>?_,ih h.2 fun x hx y hy e=>hi x (by simp [hx]) y (by simp [hy]) e⟩
  obtain ⟨b,hb,e⟩:=List.mem_map.1 hm
  have:=hi b (by simp [hb]) a (by simp) e
  exact h.1 (by rw [<-this]; exact hb)
theorem zdV {K:Type} {L:List K} (hn:L.Nodup):∀ n,(allW L n).Nodup
 | 0=>by simp [allW]
 | n + 1 => by
  have ih:=zdV hn n
  show ((allW L n).flatMap fun w=>L.map fun a=>a :: w).Nodup
  revert ih
  generalize allW L n=l
  induction l with
  | nil=>intro _; simp
  | cons w l ihl =>
   intro h
   rw [List.nodup_cons] at h;rw [List.flatMap_cons,List.nodup_append]
   refine ⟨za6 hn fun a _ b _ e=>by injection e,ihl h.2,fun x hx y hy e=>?_⟩
   obtain ⟨a,_,rfl⟩:=List.mem_map.1 hx
   obtain ⟨w',hw',hy⟩:=List.mem_flatMap.1 hy
   obtain ⟨b,_,rfl⟩:=List.mem_map.1 hy
   injection e with _ e
   exact h.1 (by rw [e]; exact hw')
theorem zf9 {K:Type} {L:List K} (hc:∀ a,a ∈ L):∀ n (x:List K),x.length=n->x ∈ allW L n
 | 0,x,h=>by rw [List.length_eq_zero_iff.1 h]; simp [allW]
 | n+1,[],h=>by simp at h
 | n+1,a :: x,h=>by
  show _ ∈ (allW L n).flatMap _
  exact List.mem_flatMap.2 ⟨x,zf9 hc n x (by simpa using h),List.mem_map.2 ⟨a,hc a,rfl⟩⟩
open Classical in
theorem zc0 {α:Type} (C:α->Prop) (g:α->Rat):∀ l:List α,sumM (fun x=>if C x then g x else 0) l=sumM g (l.filter fun x=>decide (C x))
 | []=>rfl
 | a :: l => by
  have ih:=zc0 C g l
  show (if C a then g a else 0)+sumM _ l=_
  rw [ih]
  by_cases h:C a
  ·rw [if_pos h,List.filter_cons_of_pos (by simpa using h)]
   rfl
  ·rw [if_neg h,List.filter_cons_of_neg (by simpa using h)]
   grind
open Classical in
theorem zga {K:Type} {L:List K} (hn:L.Nodup) (hc:∀ a,a ∈ L) {N m:Nat} {C:List K->Prop} {W:Nat->List K} (hlen:∀ i,i<m->(W i).length=N) (hC:∀ i,i<m->C (W i)) (hinj:∀ i j,i<m->j<m->W i=W j->i=j) (hsur:∀ x,x.length=N->C x->∃ i,i<m/\W i=x) (g:List K->Rat) :
  sumM (fun x=>if C x then g x else 0) (allW L N)=sumM (fun i=>g (W i)) (List.range m):=by
 rw [zc0]
 have h1:((List.range m).map W).Nodup:=za6 List.nodup_range fun a ha b hb e=>hinj a b (List.mem_range.1 ha) (List.mem_range.1 hb) e
 have h2:∀ x,x ∈ (List.range m).map W->x ∈ (allW L N).filter fun x=>decide (C x):=fun x hx=>by
  obtain ⟨i,hi,rfl⟩:=List.mem_map.1 hx
  rw [List.mem_range] at hi
  exact List.mem_filter.2 ⟨zf9 hc N _ (hlen i hi),by simpa using hC i hi⟩
 have h3:∀ x,x ∈ (allW L N).filter (fun x=>decide (C x))->x ∈ (List.range m).map W:=fun x hx=>by
  obtain ⟨h4,h5⟩:=List.mem_filter.1 hx
  obtain ⟨i,hi,e⟩:=hsur x (zif L N x h4) (by simpa using h5)
  exact List.mem_map.2 ⟨i,List.mem_range.2 hi,e⟩
 have h6:((allW L N).filter fun x=>decide (C x)).Nodup:=(zdV hn N).filter _
 rw [<-zg8 (perm_of_nodup' h1 h2 (zf8 h6 h3)),zie]
theorem zgb {q:Nat} (hq:0<q) {n x y:Nat} (hx:x<q ^ n) (hy:y<q ^ n) (h:∀ t,t<n->dig q x t=dig q y t):x=y:=zdI hq hx hy h
theorem zi7 {q:Nat} {n:Nat} {c:Nat->Nat} (hc:∀ t,t<n->c t<q):∃ x,x<q ^ n/\∀ t,t<n->dig q x (n - 1 - t)=c t:=by
 refine ⟨valN q (fun t=>c (n - 1 - t)) n,za1 fun i hi=>hc _ (by omega),fun t ht=>?_⟩
 rw [zaW (fun i hi=>hc _ (by omega)) _ (by omega)]
 congr 1
 omega
section
variable {q n k:Nat} {add mul:Nat->Nat->Nat} {V:Nat->Nat->Nat}
theorem EchN.spE_pv (hL:FieldLaws q add mul) {a:Nat} {p:Nat->Nat} (h:EchN q n k k a p V) {c:Nat->Nat} (hc:∀ i,i<a->c i<q) {s:Nat} (hs:s<a):spE add mul V c a (p s)=c s:=by
 have hle:=h.le
 have key:∀ t,t<=a->spE add mul V c t (p s)=if s<t then c s else 0:=by
  intro t
  induction t with
  | zero=>intro _; rfl
  | succ t ih =>
   intro ht
   show add (spE add mul V c t (p s)) (mul (c t) (V t (p s)))=_
   rw [ih (by omega)]
   by_cases e:t=s
   ·subst e
    rw [if_neg (by omega),if_pos (by omega),h.one t hs,hL.mulOne (hc t hs),hL.zeroAdd _ (hc t hs)]
   ·rw [h.zero s hs t (by omega) e,hL.mulZero (hc t (by omega))]
    by_cases e2:s<t
    ·rw [if_pos e2,if_pos (by omega),hL.addZero (hc s hs)]
    ·have:=hL.two
     rw [if_neg e2,if_neg (by omega),hL.addZero (by omega)]
 rw [key a (Nat.le_refl _),if_pos hs]
end
structure OnEl (q:Nat) (add mul:Nat->Nat->Nat) [Add (El q)] [Mul (El q)] [Neg (El q)] [Zero (El q)] [One (El q)]:Prop where
 fie:Fie (El q)
 ha:∀ x y:El q,(x+y).val=add x.val y.val
 hm:∀ x y:El q,(x*y).val=mul x.val y.val
 h0:(0:El q).val=0
 h1:(1:El q).val=1
section
variable {q n N a2:Nat} {add mul:Nat->Nat->Nat} {neg:Nat->Nat} {V W2:Nat->Nat->Nat} (hq:0<q) [iA:Add (El q)] [iM:Mul (El q)] [iN:Neg (El q)] [i0:Zero (El q)] [i1:One (El q)] (O:OnEl q add mul)
include O
theorem zcs {m:Nat} {U:Nat->Nat->Nat} {x:List (El q)} (hx:Gen N m (fun i=>wordK q hq N (U i)) x):x=wordK q hq N (fun j=>(ent x j).val):=by
 refine zeP (zej O.fie (N:=fun i j=>toEl q hq (U i j)) hx).1 (zbx hq N _) fun j hj=>?_
 rw [zb4 hq,zbG hj]
 exact El.ext' (zat hq (ent x j).lt).symm
variable (hL:FieldLaws q add mul)
include hL
theorem ziq {m m':Nat} {U U':Nat->Nat->Nat} (hU:∀ i,i<m->∀ j,j<N->U i j<q) (hU':∀ i,i<m'->∀ j,j<N->U' i j<q) (e:SameSp q add mul N m m' U U') (x:List (El q)):Gen N m (fun i=>wordK q hq N (U i)) x↔Gen N m' (fun i=>wordK q hq N (U' i)) x:=by
 constructor
 ·intro hx
  have ex:=zcs hq O hx
  rw [ex] at hx ⊢
  exact (zaG hq O.fie hL O.ha O.hm O.h0 hU' fun j _=>(ent x j).lt).1 ((e _).1 ((zaG hq O.fie hL O.ha O.hm O.h0 hU fun j _=>(ent x j).lt).2 hx))
 ·intro hx
  have ex:=zcs hq O hx
  rw [ex] at hx ⊢
  exact (zaG hq O.fie hL O.ha O.hm O.h0 hU fun j _=>(ent x j).lt).1 ((e _).2 ((zaG hq O.fie hL O.ha O.hm O.h0 hU' fun j _=>(ent x j).lt).2 hx))
end
section
variable {q n N:Nat} {add mul:Nat->Nat->Nat} {V:Nat->Nat->Nat} (hq:0<q)
theorem zeT [i0:Zero (El q)] {x y:Nat->Nat} (hx:∀ j,j<N->x j<q) (hy:∀ j,j<N->y j<q) (e:wordK q hq N x=wordK q hq N y):∀ j,j<N->x j=y j:=fun j hj=>by
 have e2:=congrArg (fun l=>ent l j) e
 rw [zb4 hq,zb4 hq] at e2
 simp only [zbG hj] at e2
 exact zcC hq (hx j hj) (hy j hj) e2
theorem zgc [iA:Add (El q)] [iM:Mul (El q)] [iN:Neg (El q)] [i0:Zero (El q)] [i1:One (El q)] (O:OnEl q add mul) (hL:FieldLaws q add mul) (hV:RrefN q n N V) :
  (∀ i,i<q ^ n->(wordK q hq N (spE add mul V (msgD q n i) n)).length=N)/\(∀ i,i<q ^ n->Gen N n (fun u=>wordK q hq N (V u)) (wordK q hq N (spE add mul V (msgD q n i) n))) /\
  (∀ i j,i<q ^ n->j<q ^ n->wordK q hq N (spE add mul V (msgD q n i) n)=wordK q hq N (spE add mul V (msgD q n j) n)->i=j) /\
  ∀ x,x.length=N->Gen N n (fun u=>wordK q hq N (V u)) x->∃ i,i<q ^ n/\wordK q hq N (spE add mul V (msgD q n i) n)=x:=by
 obtain ⟨p,hE⟩:=hV
 have hm:∀ i,∀ t,t<n->msgD q n i t<q:=fun i t _=>zdU hq
 refine ⟨fun i _=>zbx hq N _,fun i _=>?_,fun i j hi hj e=>?_,fun x _ hx=>?_⟩
 ·exact (zaG hq O.fie hL O.ha O.hm O.h0 hE.lt fun j _=>zbb hL _ _ _).1 ⟨_,hm i,fun j _=>rfl⟩
 ·have e2:=zeT hq (fun j _=>zbb hL _ _ _) (fun j _=>zbb hL _ _ _) e
  refine zgb hq hi hj fun t ht=>?_
  have h1:=e2 (p (n - 1 - t)) (hE.pvlt _ (by omega))
  rw [hE.spE_pv hL (hm i) (by omega),hE.spE_pv hL (hm j) (by omega)] at h1
  unfold msgD at h1
  rwa [show n - 1 - (n - 1 - t)=t by omega] at h1
 ·have ex:=zcs hq O hx
  rw [ex] at hx
  obtain ⟨c,h1,h2⟩:=(zaG hq O.fie hL O.ha O.hm O.h0 hE.lt fun j _=>(ent x j).lt).2 hx
  obtain ⟨i,hi,h3⟩:=zi7 h1
  refine ⟨i,hi,?_⟩
  rw [ex]
  refine zb0 hq fun j hj=>?_
  exact (zbO n fun t ht=>⟨h3 t ht,rfl⟩).trans (h2 j hj).symm
end
theorem zjl {f g:Nat->Int} {n:Nat}:disN f g n=0↔∀ k,k<n->f k=g k:=by
 induction n with
 | zero=>exact ⟨fun _ k hk=>absurd hk (by omega),fun _=>rfl⟩
 | succ n ih =>
  show disN f g n+(if f n=g n then 0 else 1)=0↔_
  constructor
  ·intro h k hk
   by_cases e:k=n
   ·subst e
    by_cases h2:f k=g k
    ·exact h2
    ·rw [if_neg h2] at h; omega
   ·exact ih.1 (by omega) k (by omega)
  ·intro h
   rw [ih.2 fun k hk=>h k (by omega),if_pos (h n (by omega))]
theorem zbr {add mul:Nat->Nat->Nat} {a a' b b':Nat->Nat}:∀ n,(∀ i,i<n->a i=a' i/\b i=b' i)->dotN add mul a b n=dotN add mul a' b' n
 | 0,_=>rfl
 | n+1,h=>by
  show add (dotN add mul a b n) (mul (a n) (b n))=add (dotN add mul a' b' n) (mul (a' n) (b' n))
  rw [zbr n fun i hi=>h i (by omega),(h n (by omega)).1,(h n (by omega)).2]
section
variable {P M g:Nat} {m:Nat->Nat} {w:World}
theorem zbc {q:Nat} {add mul:Nat->Nat->Nat} (hL:FieldLaws q add mul) (a b:Nat->Nat):∀ n,dotN add mul a b n<q
 | 0=>by have:=hL.two; show 0<q; omega
 | _+1=>hL.addLt _ _
theorem zb6 (a n:Nat) (V:Option Addr) (d:Nat) (v:Nat->Nat) (h:GF w w.heap.size g P M m) (ha:a<P ^ M) (hv:IntsR w w.heap.size V n (fun i=>(v i:Nat))) (hvq:∀ i,i<n->v i<P ^ M) (hn:n<=1048576) :
  Calls Tryz.prog 253 #[.pointer (some ⟨g,0,none⟩),.int .i64 (a:Nat),.slice V n d] w (RowPost n (fun i=>.int .i64 (mulF P M m a (v i):Nat)) w):=by
 have hq:=h.ok.1.2.2.2
 have HG:=hid h
 have HV:=hid hv
 have HVL:=hid hvq
 have HIA:=hid (zak ha)
 clear h hv hvq
 have hmk:=fun W=>zah (P:=Tryz.prog) 22 3 _ 8 Tryz.underlying22 Tryz.infoInt rfl (n:Int) (by omega) (by omega) (by omega) W
 simp only [Int.toNat_natCast] at hmk
 go_enter Tryz.func253, Tryz.ntmps253
 go_upto_region 2 with fail
 have hB:=(Below.refl w.heap.size w).alloc (Nat.le_refl _) (Obj.cells (madeCells #[Value.int .i64 0] n) 3)
 have ra:=World.rowIs_made w (.int .i64 0) n 3
 obtain ⟨w1,hw1⟩:∃ W,W=w.alloc (Obj.cells (madeCells #[Value.int .i64 0] n) 3):=⟨_,rfl⟩
 obtain ⟨r,hr⟩:∃ b,b=w.heap.size:=⟨_,rfl⟩
 rw [<-hw1] at hB ra ⊢;rw [<-hr] at ra ⊢
 have hrB:w.heap.size<=r:=by omega
 have HRE:=hid hr
 clear hw1 hr hmk
 go_wp2
 go_loopg [15] n (fun gg iv wx=>∃ i:Nat,iv=.int .i64 (i:Nat)/\i<=n/\n<=i+gg/\wx.rowIs r 3 n (fun t=>.int .i64 ((if t<i then mulF P M m a (v t) else 0:Nat):Int))/\Below w.heap.size w wx)
 case atStart=>exact ⟨0,rfl,by omega,by omega,ra.congr fun t _=>by rw [if_neg (by omega)]; rfl,hB⟩
 case round =>
  clear ra hB
  obtain ⟨i,rfl,hi,hig,ra,hB⟩:=hrel
  have hi0:(0:Int)<=(i:Int):=by omega
  by_cases hlt:i<n
  ·have hlt':(i:Int)<(n:Int):=by omega
   obtain ⟨vb,vo,rfl,hvb,x0⟩:=HV.out.at hlt
   have hvr:vb≠r:=by omega
   replace x0:=(hB.cell (p:=⟨vb,vo+i,none⟩) hvb).trans x0
   obtain ⟨x,hx⟩:∃ x,x=v i:=⟨_,rfl⟩
   have hix:inV (P ^ M) (x:Nat)=x:=by rw [hx]; exact zak (HVL.out i hlt)
   rw [<-hx] at x0
   have HX:=hid hx
   have HIX:=hid hix
   clear hx hix
   have hG:=HG.out.at hB hB.size
   go_wp2_with fail
   refine (zaM (a:Int) (x:Int) hG).mono ?_
   rintro e w2 ⟨rfl,kb⟩
   rw [HIA.out,HIX.out];replace ra:=zab ra kb;replace hB:=onS hB kb;clear kb hG x0
   obtain ⟨z,hz⟩:∃ z,z=mulF P M m a x:=⟨_,rfl⟩
   rw [<-hz]
   have ra2:(w2.setCell ⟨r,i,none⟩ (.int .i64 (z:Int))).rowIs r 3 n (fun t=>.int .i64 ((if t<i+1 then mulF P M m a (v t) else 0:Nat):Int)):=(ra.set i _).congr fun t ht=>by
    by_cases e:t=i
    ·subst e
     rw [if_pos rfl,if_pos (by omega),hz,HX.out]
    ·rw [if_neg e]
     by_cases e2:t<i
     ·rw [if_pos e2,if_pos (by omega)]
     ·rw [if_neg e2,if_neg (by omega)]
   have RA:=hid ra2
   have HB2:Hid (Below w.heap.size w (w2.setCell ⟨r,i,none⟩ (.int .i64 (z:Int)))):=hB.setCell hrB _
   have c0:=ra.cell hlt
   have z0:=ra.frozen i
   clear hz ra2 ra hB
   go_wp2
   clear c0 z0
   go_roundg (gk - 1)
   case measure=>omega
   case rel=>exact ⟨i+1,by go_num,by omega,by omega,RA.out,HB2.out⟩
  ·obtain rfl:i=n:=by omega
   have hlt':¬ (i:Int)<(i:Int):=by omega
   have hrow:Hid (wr.rowIs r 3 i (fun t=>.int .i64 (mulF P M m a (v t):Nat))):=ra.congr fun t ht=>by rw [if_pos ht]
   clear ra
   go_wp2
   go_ret
   exact ⟨r,rfl,hrB,hrow.out,hB⟩
end
theorem zfk (P M:Int) (A:Option Addr) (k c:Nat) (f:Nat->Int) (w:World) (hr:IntsR w w.heap.size A k f) :
  Calls Tryz.prog 128 #[.agg #[.int .i64 P,.int .i64 M,.slice A k c]] w (CheckPost (GoodF P M k f) w):=by
 have hB:Below w.heap.size w (w.alloc (.cells #[.int .i64 P,.int .i64 M,.slice A k c] 24)):=(Below.refl _ _).alloc (Nat.le_refl _) _
 have rf:=zaf (w:=w) (a:=.int .i64 P) (b:=.int .i64 M) (c:=.slice A k c) (T := 24)
 obtain ⟨w0,hw0⟩:∃ W,W=w.alloc (.cells #[.int .i64 P,.int .i64 M,.slice A k c] 24):=⟨_,rfl⟩
 rw [<-hw0] at hB rf
 go_enter Tryz.func128, Tryz.ntmps128
 go_upto_region 1 with fail
 rw [<-hw0];clear hw0
 have q0:=qc0 rf
 have q1:=qc1 rf
 have q2:=qc2 rf
 refine wp_region_held_drew (S:=fun w'=>w'.cell? ⟨w.heap.size,0,none⟩=some (.int .i64 P)/\w'.cell? ⟨w.heap.size,1,none⟩=some (.int .i64 M)/\w'.cell? ⟨w.heap.size,2,none⟩=some (.slice A k c)) (by kernel_rfl) ⟨cellS (Below.refl _ _).drew q0,cellS (Below.refl _ _).drew q1,cellS (Below.refl _ _).drew q2⟩ (fun hHeld=>?_)
 obtain ⟨w1,hw⟩:∃ W,W=World.drew w0:=⟨_,rfl⟩
 have kb:Below w0.heap.size w0 w1:=by rw [hw]; exact (Below.refl _ _).drew
 rw [<-hw] at hHeld ⊢;clear hw;replace hB:=onS hB kb;replace rf:=zab rf kb;clear kb q0 q1 q2
 refine tkq 0 (h:=rdq 1 (h:=fun K hK=>?_))
 go_simp
 go_wp2_with fail
 refine (zeM P M A k c f w1 (hr.on hB)).mono ?_
 rintro e w2 ⟨b,rfl,hb,kb⟩
 replace hB:=onS hB kb;replace rf:=zab rf kb
 have HBS:=hid hb
 clear kb hb
 have q0:=qc0 rf
 have q1:=qc1 rf
 have q2:=qc2 rf
 cases b
 ·have hno:Hid (¬ GoodF P M k f):=fun h=>by have:=HBS.out.2 h.shape; cases this
  refine bkq hK ⟨q0,q1,q2⟩ (h:=fun hHeld=>?_)
  clear hK K
  refine tkq 2 (h:=tkq 3 (h:=tkn 4 (h:=tkn 5 (h:=tkn 6 (h:=tkn 7 (h:=tkn 8 (h:=tkn 9 (h:=tkn 10 (h:=tkn 11 (h:=tkq 12 (h:=?_)))))))))))
  refine wpAnyH_done (by kernel_rfl) ?_ _
  clear hHeld
  go_wp2
  go_ret
  exact zaE hno.out hB
 ·have hs:=HBS.out.1 rfl
  clear HBS
  obtain ⟨P,M,rfl,rfl,hf,hkM⟩:=hs.fld
  have HS:=hid hs
  have HF:=hid hf
  have HKM:Hid (M=1∨k=M):=hkM
  have hov:=hid (zbI hf)
  clear hs hf hkM
  refine bkq hK ⟨q0,q1,q2⟩ (h:=fun hHeld=>?_)
  clear hK K
  refine tkq 2 (h:=tkq 3 (h:=tkq 4 (h:=tkq 5 (h:=tkq 6 (h:=tkq 7 (h:=tkq 8 (h:=rdq 9 (h:=fun K hK=>?_))))))))
  go_simp
  go_wp2_with fail
  refine (zbW (P:Int) (M:Int) _).mono ?_
  rintro e w3 ⟨rfl,kb⟩
  rw [hov.out];replace hB:=onS hB kb;replace rf:=zab rf kb;clear kb q0 q1 q2
  refine bkq hK ⟨qc0 rf,qc1 rf,qc2 rf⟩ (h:=fun hHeld=>?_)
  clear hK K
  refine rdq 10 (h:=fun K hK=>?_)
  go_simp
  go_wp2_with fail
  refine (zcb P M A k c (fun i=>(f i).toNat) (P ^ M) w3 HF.out (HS.out.mod (hr.on hB)) HKM.out rfl).mono ?_
  rintro e w4 ⟨kb,hg⟩
  have HG:=hid hg
  replace hB:=onS hB kb;replace rf:=zab rf kb;clear kb hg
  rcases HG.out with ⟨rfl,hno⟩ | ⟨lv,x,rfl,hx1,hxq,hgx,hO⟩
  ·have hno:Hid (¬ GoodF (P:Int) (M:Int) k f):=fun h=>by
    obtain ⟨x,h1,h2,h3⟩:=HS.out.good.1 h
    exact hno x h1 h2 h3
   refine bkq hK ⟨qc0 rf,qc1 rf,qc2 rf⟩ (h:=fun hHeld=>?_)
   clear hK K
   have he:∀ w:World,(binOp .eql 22 (.slice none 0 0) (.slice none 0 0)).run Tryz.prog w=.ok (.bool true) w:=fun _=>rfl
   refine tkq 11 (h:=tkq 12 (h:=?_))
   refine wpAnyH_done (by kernel_rfl) ?_ _
   clear hHeld
   go_wp2
   go_ret
   exact zaE hno.out hB
  ·have hyes:Hid (GoodF (P:Int) (M:Int) k f):=HS.out.good.2 ⟨x,hx1,hxq,hgx⟩
   have hne:P ^ M - 1≠0:=by omega
   obtain ⟨lb,lo,lc,rfl,_⟩:=hO.form (by omega)
   obtain ⟨L,hL⟩:∃ L,L=P ^ M - 1:=⟨_,rfl⟩
   rw [<-hL];clear hne hO hxq hL hgx HG
   refine bkq hK ⟨qc0 rf,qc1 rf,qc2 rf⟩ (h:=fun hHeld=>?_)
   clear hK K
   have he:∀ w:World,(binOp .eql 22 (.slice (some ⟨lb,lo,none⟩) L lc) (.slice none 0 0)).run Tryz.prog w=.ok (.bool false) w:=fun _=>rfl
   refine tkq 11 (h:=tkq 12 (h:=?_))
   refine wpAnyH_done (by kernel_rfl) ?_ _
   clear hHeld
   go_wp2
   go_ret
   exact zbV hyes.out hB
def lgP (p:Nat->Nat):Nat->Nat->Nat
 | 0,_=>0
 | n+1,t=>if t=p n then n else lgP p n t
theorem zi8 {q:Nat} {p:Nat->Nat} {N i:Nat} (h:PwOk q p N):∀ n,n<=N->i<n->lgP p n (p i)=i
 | 0,_,hi=>by omega
 | n + 1, hn, hi => by
  show (if p i=p n then n else lgP p n (p i))=i
  by_cases e:i=n
  ·subst e; rw [if_pos rfl]
  ·rw [if_neg (h.inj i n (by omega) (by omega))]
   exact zi8 h n (by omega) (by omega)
theorem zdr {w:World} {a b c d e f:Value} {T:TypeId}:(w.alloc (.cells #[a,b,c,d,e,f] T)).rowIs w.heap.size T 6 (gfCell a b c d e f) :=
 ⟨_,zax rfl,rfl,fun i hi=>by
  match i,hi with
  | 0,_=>rfl
  | 1,_=>rfl
  | 2,_=>rfl
  | 3,_=>rfl
  | 4,_=>rfl
  | 5,_=>rfl⟩
theorem zhg {w:World} {base e s n:Nat} {v:Value} {f:Nat->Nat->Value} (h:Own w base e s v n f):v.ownBlock=none∨v.ownBlock≠some w.heap.size:=.inr fun e=>by have:=(h.lt _ e).2; omega
def GFU (w:World) (base B g P M:Nat) (m:Nat->Nat):Prop:=∃ A k c eb eo ec lb lo lc x lg,GFr w B g P M m A k c eb eo ec lb lo lc x lg/\base<=g/\base<=eb/\base<=lb/\∀ ad,A=some ad->base<=ad.block
theorem GFU.gf {w:World} {base B g P M:Nat} {m:Nat->Nat} (h:GFU w base B g P M m):GF w B g P M m:=by
 obtain ⟨A,k,c,eb,eo,ec,lb,lo,lc,x,lg,h,_⟩:=h
 exact ⟨A,k,c,eb,eo,ec,lb,lo,lc,x,lg,h⟩
theorem GFU.grown {w w':World} {base g P M b:Nat} {m:Nat->Nat} (h:GFU w base w.heap.size g P M m) (hg:w.grownBy w' (some b)) (hb:b<base):GFU w' base w'.heap.size g P M m:=by
 obtain ⟨A,k,c,eb,eo,ec,lb,lo,lc,x,lg,h,h1,h2,h3,h4⟩:=h
 have key:∀ {ad:Option Addr} {n:Nat} {f:Nat->Int},IntsR w w.heap.size ad n f->(∀ a,ad=some a->base<=a.block)->IntsR w' w'.heap.size ad n f:=fun {ad n f} hr ha i hi=>by
  obtain ⟨q,o,e,hq,hc⟩:=hr i hi
  refine ⟨q,o,e,Nat.lt_of_lt_of_le hq hg.size,fun j hj=>?_⟩
  have hq2:base<=q:=ha _ e
  exact (World.cell?_of_block (w:=w) (a:=⟨q,o+i*1+j,none⟩) (hg.block q hq (by intro e; injection e with e; omega))).trans (hc j hj)
 exact ⟨A,k,c,eb,eo,ec,lb,lo,lc,x,lg,⟨h.ok,h.km,h.row.of_block (hg.block g h.row.lt (by intro e; injection e with e; omega)),Nat.lt_of_lt_of_le h.lt hg.size,key h.md h4,key h.ex (fun a e=>by injection e with e; subst e; exact h2),key h.lgr (fun a e=>by injection e with e; subst e; exact h3),h.x0,h.xq,h.gen,h.lgs⟩,h1,h2,h3,h4⟩
def NewPost (P M:Int) (k:Nat) (f:Nat->Int) (w:World) (e:Ending) (w':World):Prop :=
 Below w.heap.size w w'/\((¬ GoodF P M k f/\e=.returned (.tuple #[.pointer none,.int .i64 1])) ∨
  (GoodF P M k f/\∃ g P' M',P=(P':Nat)/\M=(M':Nat)/\e=.returned (.tuple #[.pointer (some ⟨g,0,none⟩),.int .i64 0])/\w.heap.size<=g/\GFU w' w.heap.size w'.heap.size g P' M' (fun i=>(f i).toNat)))
theorem zbP (P M:Int) (A:Option Addr) (k c:Nat) (f:Nat->Int) (w:World) (hr:IntsR w w.heap.size A k f) :
  Calls Tryz.prog 74 #[.agg #[.int .i64 P,.int .i64 M,.slice A k c]] w (NewPost P M k f w):=by
 have hB:Below w.heap.size w (w.alloc (.cells #[.int .i64 P,.int .i64 M,.slice A k c] 24)):=(Below.refl _ _).alloc (Nat.le_refl _) _
 have rf:=zaf (w:=w) (a:=.int .i64 P) (b:=.int .i64 M) (c:=.slice A k c) (T := 24)
 obtain ⟨w0,hw0⟩:∃ W,W=w.alloc (.cells #[.int .i64 P,.int .i64 M,.slice A k c] 24):=⟨_,rfl⟩
 rw [<-hw0] at hB rf
 go_enter Tryz.func74, Tryz.ntmps74
 go_upto_region 1 with fail
 rw [<-hw0];clear hw0
 have q0:=qc0 rf
 have q1:=qc1 rf
 have q2:=qc2 rf
 go_wp2_with fail
 refine (zeM P M A k c f w0 (hr.on hB)).mono ?_
 rintro e w1 ⟨b,rfl,hb,kb⟩
 replace hB:=onS hB kb;replace rf:=zab rf kb
 have HBS:=hid hb
 clear kb hb q0 q1 q2
 cases b
 ·have hno:Hid (¬ GoodF P M k f):=fun h=>by have:=HBS.out.2 h.shape; cases this
  go_wp2
  go_ret2
  exact ⟨hB,.inl ⟨hno.out,rfl⟩⟩
 ·have hs:=HBS.out.1 rfl
  clear HBS
  obtain ⟨P,M,rfl,rfl,hf,hkM⟩:=hs.fld
  have HKE:Hid ((M=1/\k=0)∨(2<=M/\k=M)):=by
   obtain ⟨P',M',h1,h2,_,_,h5⟩:=hs
   obtain rfl:M=M':=by omega
   rcases h5 with h | ⟨a,b,_⟩
   ·exact .inl h
   ·exact .inr ⟨a,b⟩
  have HS:=hid hs
  have HF:=hid hf
  have HKM:Hid (M=1∨k=M):=hkM
  have hq6:=hf.2.2.2
  have hM8:=hf.2.2.1
  have hk8:k<=8:=by rcases HKE.out with h | h <;> omega
  obtain ⟨Q,hQ⟩:∃ Q,Q=P ^ M:=⟨_,rfl⟩
  have hov:Hid (ordV (P:Int) (M:Int)=(Q:Int)):=by show _=_; rw [zbI hf,hQ]
  rw [<-hQ] at hq6
  have HQ:=hid hQ
  clear hs hf hkM hQ
  have q0:=qc0 rf
  have q1:=qc1 rf
  have q2:=qc2 rf
  go_wp2_with fail
  refine (zbW (P:Int) (M:Int) _).mono ?_
  rintro e w2 ⟨rfl,kb⟩
  rw [hov.out];replace hB:=onS hB kb;replace rf:=zab rf kb;clear kb q0 q1 q2
  have q0:=qc0 rf
  have q1:=qc1 rf
  have q2:=qc2 rf
  go_wp2_with fail
  refine (zcb P M A k c (fun i=>(f i).toNat) Q w2 HF.out (HS.out.mod (hr.on hB)) HKM.out HQ.out).mono ?_
  rintro e w3 ⟨kb,hg⟩
  have HG:=hid hg
  have hB2:=hB.size
  replace hB:=onS hB kb;replace rf:=zab rf kb;clear kb hg q0 q1 q2
  rcases HG.out with ⟨rfl,hno⟩ | ⟨lv,x,rfl,hx1,hxq,hgx,hO⟩
  ·have hno:Hid (¬ GoodF (P:Int) (M:Int) k f):=fun h=>by
    obtain ⟨x,h1,h2,h3⟩:=HS.out.good.1 h
    exact hno x h1 (by rw [HQ.out]; exact h2) (by rw [HQ.out]; exact h3)
   have he:∀ w:World,(binOp .eql 22 (.slice none 0 0) (.slice none 0 0)).run Tryz.prog w=.ok (.bool true) w:=fun _=>rfl
   go_wp2
   go_ret2
   exact ⟨hB,.inl ⟨hno.out,rfl⟩⟩
  ·have hyes:Hid (GoodF (P:Int) (M:Int) k f):=HS.out.good.2 ⟨x,hx1,by rw [<-HQ.out]; exact hxq,by rw [<-HQ.out]; exact hgx⟩
   obtain ⟨lb,lo,lc,rfl,_⟩:=hO.form (by omega)
   obtain ⟨L,hL⟩:∃ L,L=Q - 1:=⟨_,rfl⟩
   obtain ⟨p,hp⟩:∃ p,p=pwG (mulF P M fun i=>(f i).toNat) x:=⟨_,rfl⟩
   have hpok:PwOk Q p L:=by rw [hL,hp]; exact hgx.1
   have HPK:=hid hpok
   have HGX:=hid hgx
   have HL:=hid hL
   have HPE:=hid hp
   rw [<-hL,<-hp] at hO;rw [<-hL]
   have hL0:0<L:=by omega
   have hLQ:L+1=Q:=by omega
   have HX:Hid (1<=x/\x<Q):=⟨hx1,hxq⟩
   clear hL hgx HG hpok hp hx1 hxq
   have he:∀ w:World,(binOp .eql 22 (.slice (some ⟨lb,lo,none⟩) L lc) (.slice none 0 0)).run Tryz.prog w=.ok (.bool false) w:=fun _=>rfl
   go_wp2
   clear he
   have hO3:=hO.mono hB2
   clear hO hB2
   have HRR:=hid hr
   obtain ⟨w1,hw1⟩:∃ W,W=w3:=⟨_,rfl⟩
   rw [<-hw1] at hO3 hB rf ⊢;clear hw1 hr
   have q0:=qc0 rf
   have q1:=qc1 rf
   have q2:=qc2 rf
   have hmk:=fun W=>zah (P:=Tryz.prog) 22 3 _ 8 Tryz.underlying22 Tryz.infoInt rfl (Q:Int) (by omega) (by omega) (by omega) W
   simp only [Int.toNat_natCast] at hmk
   go_cut [6] (fun v6 wx=>∃ gg A7 c7 gl,v6=.pointer (some ⟨gg,0,none⟩)/\w.heap.size<=gg/\wx.rowIs gg 182 6 (gfCell (.int .i64 (P:Nat)) (.int .i64 (M:Nat)) (.slice A7 k c7) (.int .i64 (Q:Nat)) (.slice (some ⟨lb,lo,none⟩) L lc) (.slice (some ⟨gl,0,none⟩) Q Q))/\wx.rowIs gl 3 Q (fun _=>.int .i64 0)/\Own wx w.heap.size 3 1 (.slice A7 k c7) k (fun j _=>.int .i64 (f j))/\((Value.slice A7 k c7).ownBlock=none∨(Value.slice A7 k c7).ownBlock≠some gl)/\lb≠gl/\Own wx w.heap.size 3 1 (.slice (some ⟨lb,lo,none⟩) L lc) L (fun i _=>.int .i64 (p i:Nat))/\w.heap.size<=gl/\Below w.heap.size w wx)
   case first =>
    refine wp_region_held_drew (S:=fun w'=>w'.cell? ⟨w.heap.size,0,none⟩=some (.int .i64 (P:Nat))/\w'.cell? ⟨w.heap.size,1,none⟩=some (.int .i64 (M:Nat))/\w'.cell? ⟨w.heap.size,2,none⟩=some (.slice A k c)) (by kernel_rfl) ⟨cellS (Below.refl _ _).drew (q0),cellS (Below.refl _ _).drew (q1),cellS (Below.refl _ _).drew (q2)⟩ (fun hHeld=>?_)
    obtain ⟨w2,hw⟩:∃ W,W=World.drew w1:=⟨_,rfl⟩
    have kb:Below w1.heap.size w1 w2:=by rw [hw]; exact (Below.refl _ _).drew
    rw [<-hw] at hHeld ⊢;clear hw;replace rf:=zab rf kb;replace hB:=onS hB kb;replace hO3:=hO3.on kb;replace q0:=cellS kb q0;replace q1:=cellS kb q1;replace q2:=cellS kb q2;clear kb
    refine tkq 0 (h:=tkq 1 (h:=tkq 2 (h:=tkq 3 (h:=tkq 5 (h:=tkq 6 (h:=tkq 9 (h:=tkq 10 (h:=tkq 11 (h:=?_)))))))))
    refine rdq2 4 12 (h:=fun K hK=>?_) (h2:=fun K hK=>?_)
    ·go_simp
     obtain ⟨w3,hw⟩:∃ W,W=World.alloc w2 (Obj.cells #[] 3):=⟨_,rfl⟩
     have kb:Below w2.heap.size w2 w3:=by rw [hw]; exact (Below.refl _ _).alloc (Nat.le_refl _) _
     have n0:w3.rowIs w2.heap.size 3 0 (fun _=>undef):=by rw [hw]; exact ⟨_,zax rfl,rfl,fun i hi=>absurd hi (by omega)⟩
     have hn0:w.heap.size<=w2.heap.size:=hB.size
     rw [<-hw];clear hw
     obtain ⟨b0,hb⟩:∃ b,b=w2.heap.size:=⟨_,rfl⟩
     rw [<-hb] at n0 hn0 ⊢;clear hb;replace rf:=zab rf kb;replace hB:=onS hB kb;replace hO3:=hO3.on kb;replace q0:=cellS kb q0;replace q1:=cellS kb q1;replace q2:=cellS kb q2;clear kb
     refine bkq hK ⟨q0,q1,q2⟩ (h:=fun hHeld=>?_)
     clear hK K
     refine rdq2 7 12 (h:=fun K hK=>?_) (h2:=fun K hK=>?_)
     ·have hsrc:=HRR.out.on hB
      refine zbf (by rfl) (.tmp 26) (.tmp 28) (by rfl) (b0:=b0) (base:=w.heap.size) (by rfl) n0 hn0 (A:=A) (c:=c) (n:=k) (f:=f) (by rfl) hsrc (by omega) ?_
      intro v7 w4 hv7 kb hat7
      clear hat7 hsrc n0 hn0;replace rf:=zab rf kb;replace hB:=onS hB kb;replace hO3:=hO3.on kb;replace q0:=cellS kb q0;replace q1:=cellS kb q1;replace q2:=cellS kb q2;clear kb
      obtain ⟨A7,c7,hsh⟩:=Own.shape hv7
      subst hsh
      refine bkq hK ⟨q0,q1,q2⟩ (h:=fun hHeld=>?_)
      clear hK K
      refine tkq 8 (h:=?_)
      refine rdq 12 (h:=fun K hK=>?_)
      go_simp
      obtain ⟨w5,hw⟩:∃ W,W=World.alloc w4 (Obj.cells (madeCells #[.int .i64 0] Q) 3):=⟨_,rfl⟩
      have kb:Below w4.heap.size w4 w5:=by rw [hw]; exact (Below.refl _ _).alloc (Nat.le_refl _) _
      have rl:w5.rowIs w4.heap.size 3 Q (fun _=>.int .i64 0):=by rw [hw]; exact World.rowIs_made w4 (.int .i64 0) Q 3
      have hgl:w.heap.size<=w4.heap.size:=hB.size
      have hel:lb≠w4.heap.size:=by have:=(hO3.lt lb rfl).2; omega
      have hne7:(Value.slice A7 k c7).ownBlock=none∨(Value.slice A7 k c7).ownBlock≠some w4.heap.size:=zhg hv7
      rw [<-hw];clear hw
      obtain ⟨gl,hb⟩:∃ b,b=w4.heap.size:=⟨_,rfl⟩
      rw [<-hb] at rl hgl hel hne7 ⊢;clear hb;replace rf:=zab rf kb;replace hB:=onS hB kb;replace hO3:=hO3.on kb;replace q0:=cellS kb q0;replace q1:=cellS kb q1;replace q2:=cellS kb q2;replace hv7:=hv7.on kb;clear kb
      refine bkq hK ⟨q0,q1,q2⟩ (h:=fun hHeld=>?_)
      clear hK K
      refine tkq 13 (h:=?_)
      refine rdq 14 (h:=fun K hK=>?_)
      go_simp
      obtain ⟨w6,hw⟩:∃ W,W=World.alloc w5 (Obj.cells #[.int .i64 (P:Nat),.int .i64 (M:Nat),.slice A7 k c7,.int .i64 (Q:Nat),.slice (some ⟨lb,lo,none⟩) L lc,.slice (some ⟨gl,0,none⟩) Q Q] 182):=⟨_,rfl⟩
      have kb:Below w5.heap.size w5 w6:=by rw [hw]; exact (Below.refl _ _).alloc (Nat.le_refl _) _
      have rg:w6.rowIs w5.heap.size 182 6 (gfCell (.int .i64 (P:Nat)) (.int .i64 (M:Nat)) (.slice A7 k c7) (.int .i64 (Q:Nat)) (.slice (some ⟨lb,lo,none⟩) L lc) (.slice (some ⟨gl,0,none⟩) Q Q)):=by rw [hw]; exact zdr
      have hgg:w.heap.size<=w5.heap.size:=hB.size
      rw [<-hw];clear hw
      obtain ⟨gg,hb⟩:∃ b,b=w5.heap.size:=⟨_,rfl⟩
      rw [<-hb] at rg hgg ⊢;clear hb;replace rf:=zab rf kb;replace rl:=zab rl kb;replace hB:=onS hB kb;replace hO3:=hO3.on kb;replace q0:=cellS kb q0;replace q1:=cellS kb q1;replace q2:=cellS kb q2;replace hv7:=hv7.on kb;clear kb
      refine bkq hK ⟨q0,q1,q2⟩ (h:=fun hHeld=>?_)
      clear hK K
      refine tkq 15 (h:=?_)
      refine wpAnyH_done (by kernel_rfl) ?_ _
      clear hHeld
      go_wp2
      go_meet
      exact ⟨gg,A7,c7,gl,rfl,hgg,rg,rl,hv7,hne7,hel,hO3,hgl,hB⟩
     ·go_simp
      obtain ⟨w4,hw⟩:∃ W,W=World.alloc w3 (Obj.cells (madeCells #[.int .i64 0] Q) 3):=⟨_,rfl⟩
      have kb:Below w3.heap.size w3 w4:=by rw [hw]; exact (Below.refl _ _).alloc (Nat.le_refl _) _
      have rl:w4.rowIs w3.heap.size 3 Q (fun _=>.int .i64 0):=by rw [hw]; exact World.rowIs_made w3 (.int .i64 0) Q 3
      have hgl:w.heap.size<=w3.heap.size:=hB.size
      have hel:lb≠w3.heap.size:=by have:=(hO3.lt lb rfl).2; omega
      have hbl:b0≠w3.heap.size:=by have:=n0.lt; omega
      rw [<-hw];clear hw
      obtain ⟨gl,hb⟩:∃ b,b=w3.heap.size:=⟨_,rfl⟩
      rw [<-hb] at rl hgl hel hbl ⊢;clear hb;replace rf:=zab rf kb;replace n0:=zab n0 kb;replace hB:=onS hB kb;replace hO3:=hO3.on kb;replace q0:=cellS kb q0;replace q1:=cellS kb q1;replace q2:=cellS kb q2;clear kb
      refine bkq hK ⟨q0,q1,q2⟩ (h:=fun hHeld=>?_)
      clear hK K
      refine rdq 7 (h:=fun K hK=>?_)
      have hsrc:=HRR.out.on hB
      have hll:=rl.lt
      refine zbf (by rfl) (.tmp 26) (.tmp 28) (by rfl) (b0:=b0) (base:=w.heap.size) (by rfl) n0 hn0 (A:=A) (c:=c) (n:=k) (f:=f) (by rfl) hsrc (by omega) ?_
      intro v7 w5 hv7 kb hat7
      have hne7:v7.ownBlock=none∨v7.ownBlock≠some gl:=.inr fun e=>by
       rcases hat7 with h | h <;> (rw [h] at e; injection e with e; omega)
      clear hll;clear hat7 hsrc n0 hn0;replace rf:=zab rf kb;replace rl:=zab rl kb;replace hB:=onS hB kb;replace hO3:=hO3.on kb;replace q0:=cellS kb q0;replace q1:=cellS kb q1;replace q2:=cellS kb q2;clear kb
      obtain ⟨A7,c7,hsh⟩:=Own.shape hv7
      subst hsh
      refine bkq hK ⟨q0,q1,q2⟩ (h:=fun hHeld=>?_)
      clear hK K
      refine tkq 8 (h:=tkq 13 (h:=?_))
      refine rdq 14 (h:=fun K hK=>?_)
      go_simp
      obtain ⟨w6,hw⟩:∃ W,W=World.alloc w5 (Obj.cells #[.int .i64 (P:Nat),.int .i64 (M:Nat),.slice A7 k c7,.int .i64 (Q:Nat),.slice (some ⟨lb,lo,none⟩) L lc,.slice (some ⟨gl,0,none⟩) Q Q] 182):=⟨_,rfl⟩
      have kb:Below w5.heap.size w5 w6:=by rw [hw]; exact (Below.refl _ _).alloc (Nat.le_refl _) _
      have rg:w6.rowIs w5.heap.size 182 6 (gfCell (.int .i64 (P:Nat)) (.int .i64 (M:Nat)) (.slice A7 k c7) (.int .i64 (Q:Nat)) (.slice (some ⟨lb,lo,none⟩) L lc) (.slice (some ⟨gl,0,none⟩) Q Q)):=by rw [hw]; exact zdr
      have hgg:w.heap.size<=w5.heap.size:=hB.size
      rw [<-hw];clear hw
      obtain ⟨gg,hb⟩:∃ b,b=w5.heap.size:=⟨_,rfl⟩
      rw [<-hb] at rg hgg ⊢;clear hb;replace rf:=zab rf kb;replace rl:=zab rl kb;replace hB:=onS hB kb;replace hO3:=hO3.on kb;replace q0:=cellS kb q0;replace q1:=cellS kb q1;replace q2:=cellS kb q2;replace hv7:=hv7.on kb;clear kb
      refine bkq hK ⟨q0,q1,q2⟩ (h:=fun hHeld=>?_)
      clear hK K
      refine tkq 15 (h:=?_)
      refine wpAnyH_done (by kernel_rfl) ?_ _
      clear hHeld
      go_wp2
      go_meet
      exact ⟨gg,A7,c7,gl,rfl,hgg,rg,rl,hv7,hne7,hel,hO3,hgl,hB⟩
    ·go_simp
     obtain ⟨w3,hw⟩:∃ W,W=World.alloc w2 (Obj.cells (madeCells #[.int .i64 0] Q) 3):=⟨_,rfl⟩
     have kb:Below w2.heap.size w2 w3:=by rw [hw]; exact (Below.refl _ _).alloc (Nat.le_refl _) _
     have rl:w3.rowIs w2.heap.size 3 Q (fun _=>.int .i64 0):=by rw [hw]; exact World.rowIs_made w2 (.int .i64 0) Q 3
     have hgl:w.heap.size<=w2.heap.size:=hB.size
     have hel:lb≠w2.heap.size:=by have:=(hO3.lt lb rfl).2; omega
     rw [<-hw];clear hw
     obtain ⟨gl,hb⟩:∃ b,b=w2.heap.size:=⟨_,rfl⟩
     rw [<-hb] at rl hgl hel ⊢;clear hb;replace rf:=zab rf kb;replace hB:=onS hB kb;replace hO3:=hO3.on kb;replace q0:=cellS kb q0;replace q1:=cellS kb q1;replace q2:=cellS kb q2;clear kb
     refine bkq hK ⟨q0,q1,q2⟩ (h:=fun hHeld=>?_)
     clear hK K
     refine rdq 4 (h:=fun K hK=>?_)
     go_simp
     obtain ⟨w4,hw⟩:∃ W,W=World.alloc w3 (Obj.cells #[] 3):=⟨_,rfl⟩
     have kb:Below w3.heap.size w3 w4:=by rw [hw]; exact (Below.refl _ _).alloc (Nat.le_refl _) _
     have n0:w4.rowIs w3.heap.size 3 0 (fun _=>undef):=by rw [hw]; exact ⟨_,zax rfl,rfl,fun i hi=>absurd hi (by omega)⟩
     have hn0:w.heap.size<=w3.heap.size:=hB.size
     have hbl:w3.heap.size≠gl:=by have:=rl.lt; omega
     rw [<-hw];clear hw
     obtain ⟨b0,hb⟩:∃ b,b=w3.heap.size:=⟨_,rfl⟩
     rw [<-hb] at n0 hn0 hbl ⊢;clear hb;replace rf:=zab rf kb;replace rl:=zab rl kb;replace hB:=onS hB kb;replace hO3:=hO3.on kb;replace q0:=cellS kb q0;replace q1:=cellS kb q1;replace q2:=cellS kb q2;clear kb
     refine bkq hK ⟨q0,q1,q2⟩ (h:=fun hHeld=>?_)
     clear hK K
     refine rdq 7 (h:=fun K hK=>?_)
     have hsrc:=HRR.out.on hB
     have hll:=rl.lt
     refine zbf (by rfl) (.tmp 26) (.tmp 28) (by rfl) (b0:=b0) (base:=w.heap.size) (by rfl) n0 hn0 (A:=A) (c:=c) (n:=k) (f:=f) (by rfl) hsrc (by omega) ?_
     intro v7 w5 hv7 kb hat7
     have hne7:v7.ownBlock=none∨v7.ownBlock≠some gl:=.inr fun e=>by
      rcases hat7 with h | h <;> (rw [h] at e; injection e with e; omega)
     clear hll;clear hat7 hsrc n0 hn0;replace rf:=zab rf kb;replace rl:=zab rl kb;replace hB:=onS hB kb;replace hO3:=hO3.on kb;replace q0:=cellS kb q0;replace q1:=cellS kb q1;replace q2:=cellS kb q2;clear kb
     obtain ⟨A7,c7,hsh⟩:=Own.shape hv7
     subst hsh
     refine bkq hK ⟨q0,q1,q2⟩ (h:=fun hHeld=>?_)
     clear hK K
     refine tkq 8 (h:=tkq 13 (h:=?_))
     refine rdq 14 (h:=fun K hK=>?_)
     go_simp
     obtain ⟨w6,hw⟩:∃ W,W=World.alloc w5 (Obj.cells #[.int .i64 (P:Nat),.int .i64 (M:Nat),.slice A7 k c7,.int .i64 (Q:Nat),.slice (some ⟨lb,lo,none⟩) L lc,.slice (some ⟨gl,0,none⟩) Q Q] 182):=⟨_,rfl⟩
     have kb:Below w5.heap.size w5 w6:=by rw [hw]; exact (Below.refl _ _).alloc (Nat.le_refl _) _
     have rg:w6.rowIs w5.heap.size 182 6 (gfCell (.int .i64 (P:Nat)) (.int .i64 (M:Nat)) (.slice A7 k c7) (.int .i64 (Q:Nat)) (.slice (some ⟨lb,lo,none⟩) L lc) (.slice (some ⟨gl,0,none⟩) Q Q)):=by rw [hw]; exact zdr
     have hgg:w.heap.size<=w5.heap.size:=hB.size
     rw [<-hw];clear hw
     obtain ⟨gg,hb⟩:∃ b,b=w5.heap.size:=⟨_,rfl⟩
     rw [<-hb] at rg hgg ⊢;clear hb;replace rf:=zab rf kb;replace rl:=zab rl kb;replace hB:=onS hB kb;replace hO3:=hO3.on kb;replace q0:=cellS kb q0;replace q1:=cellS kb q1;replace q2:=cellS kb q2;replace hv7:=hv7.on kb;clear kb
     refine bkq hK ⟨q0,q1,q2⟩ (h:=fun hHeld=>?_)
     clear hK K
     refine tkq 15 (h:=?_)
     refine wpAnyH_done (by kernel_rfl) ?_ _
     clear hHeld
     go_wp2
     go_meet
     exact ⟨gg,A7,c7,gl,rfl,hgg,rg,rl,hv7,hne7,hel,hO3,hgl,hB⟩
   case rest =>
    obtain ⟨gg,A7,c7,gl,rfl,hgg,rg,rl,hm7,hne7,hnel,hO,hgl,hB⟩:=hcut
    clear hO3 rf q0 q1 q2 hmk
    have HM7:=hid hm7
    have HNE:=hid hne7
    have HNL:=hid hnel
    have HOE:=hid hO
    have HRG:=hid rg
    have hglg:gl≠gg:=fun e=>by
     obtain ⟨cs,h1,_⟩:=rl
     obtain ⟨cs',h2,_⟩:=rg
     rw [e,h2] at h1
     injection h1 with h1
     injection h1 with _ h1
     exact absurd h1 (by decide)
    have HGL:=hid hglg
    have HB:=hid hB
    have HRL:=hid (rl.congr (g:=fun t=>.int .i64 (lgP p 0 t:Nat)) fun t _=>rfl)
    clear hm7 hne7 hnel hO rg hglg hB rl
    go_wp2
    go_loopg [39] L (fun g2 iv wx=>∃ i:Nat,iv=.int .i64 (i:Nat)/\i<=L/\L<=i+g2/\Hid (wx.rowIs gl 3 Q (fun t=>.int .i64 (lgP p i t:Nat)))/\Hid (wx.rowIs gg 182 6 (gfCell (.int .i64 (P:Nat)) (.int .i64 (M:Nat)) (.slice A7 k c7) (.int .i64 (Q:Nat)) (.slice (some ⟨lb,lo,none⟩) L lc) (.slice (some ⟨gl,0,none⟩) Q Q)))/\Hid (Own wx w.heap.size 3 1 (.slice A7 k c7) k (fun j _=>.int .i64 (f j)))/\Hid (Own wx w.heap.size 3 1 (.slice (some ⟨lb,lo,none⟩) L lc) L (fun i _=>.int .i64 (p i:Nat)))/\Hid (Below w.heap.size w wx))
    case atStart=>exact ⟨0,rfl,by omega,by omega,HRL,HRG,HM7,HOE,HB⟩
    case round =>
     clear HRL HRG HM7 HOE HB
     obtain ⟨i,rfl,hi,hig,HRL,HRG,HM7,HOE,HB⟩:=hrel
     have hi0:(0:Int)<=(i:Int):=by omega
     by_cases hlt:i<L
     ·have hlt':(i:Int)<(L:Int):=by omega
      have hpq:=HPK.out.lt i hlt
      have x0:=(show IntsR wr wr.heap.size (some ⟨lb,lo,none⟩) L (fun i=>((p i:Nat):Int)) from HOE.out.rd rfl).here hlt
      obtain ⟨y,hy⟩:∃ y,y=p i:=⟨_,rfl⟩
      rw [<-hy] at x0 hpq
      have hyq:(y:Int)<(Q:Int):=by omega
      have g5:=qc5 HRG.out
      have y0:=HRL.out.cell (i:=y) hpq
      have z0:=HRL.out.frozen y
      have HRL2:=hid ((HRL.out.set y (.int .i64 (i:Nat))).congr (g:=fun t=>.int .i64 (lgP p (i+1) t:Nat)) fun t _=>by
       show (if t=y then Value.int .i64 (i:Nat) else .int .i64 (lgP p i t:Nat))=.int .i64 ((if t=p i then i else lgP p i t:Nat):Int)
       rw [<-hy]
       split <;> rfl)
      have HRG2:=hid (HRG.out.setOther (a:=⟨gl,y,none⟩) (by simpa using fun e=>HGL.out e.symm) (.int .i64 (i:Nat)))
      have HM72:=hid (HM7.out.setCell (a:=⟨gl,y,none⟩) (fun e=>HNE.out.elim (fun h=>by rw [h] at e; cases e) fun h=>h e) (.int .i64 (i:Nat)))
      have HOE2:=hid (HOE.out.setCell (a:=⟨gl,y,none⟩) (fun e=>HNL.out (by injection e)) (.int .i64 (i:Nat)))
      have HB2:=hid (HB.out.setCell (p:=⟨gl,y,none⟩) (by show w.heap.size<=gl; exact hgl) (.int .i64 (i:Nat)))
      clear hy HRL HRG HM7 HOE HB
      go_wp2
      go_roundg (gk - 1)
      case measure=>omega
      case rel=>exact ⟨i+1,by go_num,by omega,by omega,HRL2,HRG2,HM72,HOE2,HB2⟩
     ·obtain rfl:i=L:=by omega
      have hlt':¬ (i:Int)<(i:Int):=by omega
      have HEND:Hid (GFU wr w.heap.size wr.heap.size gg P M (fun i=>(f i).toNat)):=by
       have hpe:=HPE.out
       subst hpe
       have hqe:=HQ.out
       subst hqe
       have hle:=HL.out
       have hok:=hyes.out.field.1
       refine ⟨A7,k,c7,lb,lo,lc,gl,0,P ^ M,x,lgP (pwG (mulF P M fun i=>(f i).toNat) x) i,⟨hok,HKE.out,?_,HRG.out.lt,?_,?_,?_,HX.out.1,HX.out.2,HGX.out,fun t ht=>?_⟩,hgg,(HOE.out.lt lb rfl).1,hgl,fun ad e=>(HM7.out.lt ad.block (by rw [e]; rfl)).1⟩
       ·rw [<-hle]; exact HRG.out
       ·refine IntsR.congr (show IntsR wr wr.heap.size A7 k f from HM7.out.rd rfl) fun t ht=>?_
        obtain ⟨P',M',h1,h2,h3,h4,h5⟩:=hyes.out
        obtain rfl:M=M':=by omega
        rcases h5 with ⟨_,e⟩ | ⟨_,e,h,_⟩
        ·omega
        ·have:=h t (by omega); show f t=((f t).toNat:Int); omega
       ·rw [<-hle]; exact HOE.out.rd rfl
       ·exact zaH HRL.out
       ·rw [<-hle] at ht
        exact zi8 HPK.out i (Nat.le_refl _) ht
      go_wp2
      go_ret2
      exact ⟨HB.out,.inr ⟨hyes.out,gg,P,M,rfl,rfl,rfl,hgg,HEND.out⟩⟩
structure RowAt where
 b:Nat
 o:Nat
 c:Nat
structure DTab (w:World) (base tb o n c k:Nat) (r:Nat->RowAt) (W:Nat->Nat->Nat):Prop where
 tab:Own w base 22 1 (.slice (some ⟨tb,o,none⟩) n c) n (fun i _=>.slice (some ⟨(r i).b,(r i).o,none⟩) k (r i).c)
 row:∀ i,i<n->Own w base 3 1 (.slice (some ⟨(r i).b,(r i).o,none⟩) k (r i).c) k (fun j _=>.int .i64 (W i j:Nat))
 apart:∀ i j,i<n->j<n->i≠j->(r i).b≠(r j).b
theorem zbs {w w1 w2:World} {row:Option Nat} (h:w.grownBy w1 row) (hb:Below w1.heap.size w1 w2):w.grownBy w2 row :=
 ⟨hb.os.trans h.os,hb.tape.trans h.tape,hb.output.trans h.output,Nat.le_trans h.size hb.size,fun k hk hne=>(hb.block k (Nat.lt_of_lt_of_le hk h.size)).trans (h.block k hk hne)⟩
theorem zan {w w':World} {row:Option Nat} {p:Addr} {v:Value} (hg:w.grownBy w' row) (h:w.cell? p=some v) (hne:some p.block≠row):w'.cell? p=some v :=
 (World.cell?_of_block (w:=w) (hg.block p.block (World.block_lt_of_cell? w p h) hne)).trans h
section
variable {w w':World} {base tb o n c k i:Nat} {r:Nat->RowAt} {W W':Nat->Nat->Nat}
theorem DTab.on (h:DTab w base tb o n c k r W) (hb:Below w.heap.size w w'):DTab w' base tb o n c k r W:=⟨h.tab.on hb,fun i hi=>(h.row i hi).on hb,h.apart⟩
theorem DTab.congr (h:DTab w base tb o n c k r W) (e:∀ i,i<n->∀ j,j<k->W i j=W' i j):DTab w base tb o n c k r W':=⟨h.tab,fun i hi=>(h.row i hi).congr fun j hj _ _=>by rw [e i hi j hj],h.apart⟩
theorem DTab.cell (h:DTab w base tb o n c k r W) (hi:i<n):w.cell? ⟨tb,o+i,none⟩=some (.slice (some ⟨(r i).b,(r i).o,none⟩) k (r i).c):=by
 obtain ⟨b,off,e,_,h1⟩:=Rd.at1 (h.tab.rd rfl) hi
 injection e with e
 injection e with e1 e2
 subst e1 e2
 exact h1
theorem DTab.froz (h:DTab w base tb o n c k r W) (j:Nat):w.frozen? ⟨tb,j,none⟩=false:=h.tab.frozen j
theorem DTab.lt (h:DTab w base tb o n c k r W) (hi:i<n):base<=(r i).b/\(r i).b<w.heap.size:=(h.row i hi).lt _ rfl
theorem DTab.tlt (h:DTab w base tb o n c k r W):base<=tb/\tb<w.heap.size:=h.tab.lt _ rfl
theorem DTab.ne (h:DTab w base tb o n c k r W) (hi:i<n):(r i).b≠tb:=by
 rcases za0 h.tab (h.row i hi) (by decide) with h1 | h1
 ·cases h1
 ·exact fun e=>h1 (by show some _=some _; rw [e])
theorem DTab.rd (h:DTab w base tb o n c k r W) (hi:i<n):IntsR w w.heap.size (some ⟨(r i).b,(r i).o,none⟩) k (fun j=>((W i j:Nat):Int)):=(h.row i hi).rd rfl
theorem DTab.entry {j:Nat} (h:DTab w base tb o n c k r W) (hi:i<n) (hj:j<k):w.cell? ⟨(r i).b,(r i).o+j,none⟩=some (.int .i64 (W i j:Nat)):=(h.rd hi).here hj
theorem DTab.kept {row:Option Nat} (h:DTab w base tb o n c k r W) (hg:w.grownBy w' row) (h1:row≠some tb) (h2:∀ i,i<n->row≠some (r i).b):DTab w' base tb o n c k r W :=
 ⟨h.tab.kept hg (.inr fun e=>h1 e.symm),fun i hi=>(h.row i hi).kept hg (.inr fun e=>h2 i hi e.symm),h.apart⟩
theorem DTab.swap {a t:Nat} (h:DTab w base tb o n c k r W) (ha:a<n) (ht:t<n) :
  DTab ((w.setCell ⟨tb,o+a,none⟩ (.slice (some ⟨(r t).b,(r t).o,none⟩) k (r t).c)).setCell ⟨tb,o+t,none⟩ (.slice (some ⟨(r a).b,(r a).o,none⟩) k (r a).c)) base tb o n c k (fun u=>if u=t then r a else if u=a then r t else r u) (fun u=>if u=t then W a else if u=a then W t else W u):=by
 have h1:=h.tab.set ha (by omega:0<1) (.slice (some ⟨(r t).b,(r t).o,none⟩) k (r t).c)
 rw [Nat.mul_one,Nat.add_zero] at h1
 have h2:=h1.set ht (by omega:0<1) (.slice (some ⟨(r a).b,(r a).o,none⟩) k (r a).c)
 rw [Nat.mul_one,Nat.add_zero] at h2
 refine ⟨h2.congr fun u hu q hq=>?_,fun u hu=>?_,fun i j hi hj hne=>?_⟩
 ·obtain rfl:q=0:=by omega
  by_cases e1:u=t
  ·simp [e1]
  ·by_cases e2:u=a
   ·have e3:¬ a=t:=fun h=>e1 (e2.trans h)
    simp [e2,e3]
   ·simp [e1,e2]
 ·have key:∀ v,v<n->Own ((w.setCell ⟨tb,o+a,none⟩ (.slice (some ⟨(r t).b,(r t).o,none⟩) k (r t).c)).setCell ⟨tb,o+t,none⟩ (.slice (some ⟨(r a).b,(r a).o,none⟩) k (r a).c)) base 3 1 (.slice (some ⟨(r v).b,(r v).o,none⟩) k (r v).c) k (fun j _=>.int .i64 (W v j:Nat)):=fun v hv =>
   ((h.row v hv).setCell (fun e=>h.ne hv (by injection e)) _).setCell (fun e=>h.ne hv (by injection e)) _
  by_cases e1:u=t
  ·simp only [if_pos e1]; exact key a ha
  ·by_cases e2:u=a
   ·simp only [if_neg e1,if_pos e2]; exact key t ht
   ·simp only [if_neg e1,if_neg e2]; exact key u hu
 ·have ap:=h.apart
  show (if i=t then r a else if i=a then r t else r i).b≠(if j=t then r a else if j=a then r t else r j).b
  by_cases e1:i=t
  ·rw [if_pos e1]
   rw [if_neg (by omega)]
   by_cases e3:j=a
   ·rw [if_pos e3]; exact ap a t ha ht (by omega)
   ·rw [if_neg e3]; exact ap a j ha hj (by omega)
  ·rw [if_neg e1]
   by_cases e2:i=a
   ·rw [if_pos e2]
    by_cases e3:j=t
    ·rw [if_pos e3]; exact ap t a ht ha (by omega)
    ·rw [if_neg e3,if_neg (by omega)]; exact ap t j ht hj (by omega)
   ·rw [if_neg e2]
    by_cases e3:j=t
    ·rw [if_pos e3]; exact ap i a hi ha e2
    ·rw [if_neg e3]
     by_cases e4:j=a
     ·rw [if_pos e4]; exact ap i t hi ht e1
     ·rw [if_neg e4]; exact ap i j hi hj hne
theorem DTab.put {g go gc:Nat} {x:Nat->Nat} (h:DTab w base tb o n c k r W) (hi:i<n) (hr:Own w base 3 1 (.slice (some ⟨g,go,none⟩) k gc) k (fun j _=>.int .i64 (x j:Nat))) (hg:∀ u,u<n->u≠i->(r u).b≠g) :
  DTab (w.setCell ⟨tb,o+i,none⟩ (.slice (some ⟨g,go,none⟩) k gc)) base tb o n c k (fun u=>if u=i then ⟨g,go,gc⟩ else r u) (fun u=>if u=i then x else W u):=by
 have h1:=h.tab.set hi (by omega:0<1) (.slice (some ⟨g,go,none⟩) k gc)
 rw [Nat.mul_one,Nat.add_zero] at h1
 have hne:g≠tb:=by
  rcases za0 h.tab hr (by decide) with h1 | h1
  ·cases h1
  ·exact fun e=>h1 (by show some _=some _; rw [e])
 refine ⟨h1.congr fun u hu q hq=>?_,fun u hu=>?_,fun a b ha hb hab=>?_⟩
 ·obtain rfl:q=0:=by omega
  by_cases e:u=i
  ·simp [e]
  ·simp [e]
 ·by_cases e:u=i
  ·simp only [if_pos e]
   exact hr.setCell (fun e=>hne (by injection e)) _
  ·simp only [if_neg e]
   exact (h.row u hu).setCell (fun e=>h.ne hu (by injection e)) _
 ·show (if a=i then (⟨g,go,gc⟩:RowAt) else r a).b≠(if b=i then (⟨g,go,gc⟩:RowAt) else r b).b
  by_cases e1:a=i
  ·rw [if_pos e1,if_neg (by omega)]; exact fun e=>hg b hb (by omega) e.symm
  ·rw [if_neg e1]
   by_cases e2:b=i
   ·rw [if_pos e2]; exact hg a ha e1
   ·rw [if_neg e2]; exact h.apart a b ha hb hab
theorem DTab.rowed {x:Nat->Nat} (h:DTab w base tb o n c k r W) (hi:i<n) (hg:w.grownBy w' (some (r i).b)) (hr:Own w' base 3 1 (.slice (some ⟨(r i).b,(r i).o,none⟩) k (r i).c) k (fun j _=>.int .i64 (x j:Nat))) :
  DTab w' base tb o n c k r (fun u=>if u=i then x else W u) :=
 ⟨h.tab.kept hg (.inr fun e=>h.ne hi (by injection e with e; exact e.symm)),fun u hu=>by
  by_cases e:u=i
  ·subst e; simp only [if_pos]; exact hr
  ·simp only [if_neg e]
   exact (h.row u hu).kept hg (.inr fun e2=>h.apart u i hu hi e (by injection e2)),h.apart⟩
end
end Go.Proofs.YtgekjfpapmlndaaGreat