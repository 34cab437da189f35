/- Merged texts of a claim: Chk12, Null, CodeE, Dual12, WordsAll, AppCells, NatA, NatB. -/
import Derived.Test.YtioagplajkoohaaGreatTF1
import Derived.Test.YtioagplajkoohaaGreatTF2
import Derived.Test.YtioagplajkoohaaGreatTF3
import Derived.Test.YtioagplajkoohaaGreatTF4
namespace Go.Proofs.YtioagplajkoohaaGreat
set_option maxRecDepth 100000
set_option maxHeartbeats 32000000
open KB KE
open Go.RowKit
def CanonPost (q:Nat) (add mul:Nat->Nat->Nat) (n k cols:Nat) (V:Nat->Nat->Nat) (w:World) (e:Ending) (w':World):Prop :=
 ∃ lv pv a p W,e=.returned (.tuple #[lv,pv])/\MTab w' w.heap.size lv a k W/\Own w' w.heap.size 3 1 pv a (fun j _=>.int .i64 (p j:Nat))/\Below w.heap.size w w' /\
  EchN q n k cols a p W/\RowOps q add mul n k V W
theorem EchN.full {q n k c a cols:Nat} {pv:Nat->Nat} {W:Nat->Nat->Nat} (h:EchN q n k c a pv W) (hc:c<=cols) (h2:c=cols∨a=n):EchN q n k cols a pv W:=by
 rcases h2 with h2 | h2
 ·rw [<-h2]; exact h
 ·exact ⟨h.le,h.lt,h.inc,fun s hs=>Nat.lt_of_lt_of_le (h.pvlt s hs) hc,h.one,h.zero,h.lead,fun i h1 h3=>by omega⟩
theorem MTab.take {w:World} {base n k b o c a:Nat} {W:Nat->Nat->Nat} (h:MTab w base (.slice (some ⟨b,o,none⟩) n c) n k W) (ha:a<=n):MTab w base (.slice (some ⟨b,o,none⟩) a c) a k W:=by
 obtain ⟨R,h1,h2⟩:=h
 refine ⟨R,?_,fun i hi=>h2 i (by omega)⟩
 rcases h1 with ⟨h1,_⟩ | ⟨g,o',cap,cur,h1,h3,h4,h5,h6,h7,h8⟩
 ·cases h1
 ·injection h1 with e1 e2 e3
  injection e1 with e1
  injection e1 with e1 e4
  subst e1 e4 e3
  exact .inr ⟨_,_,_,cur,rfl,h3,h4,by omega,h6,h7,fun i hi=>h8 i (by omega)⟩
theorem MTab.form {w:World} {base n k:Nat} {v:Value} {W:Nat->Nat->Nat} (h:MTab w base v n k W):(v=.slice none 0 0/\n=0)∨∃ b o c,v=.slice (some ⟨b,o,none⟩) n c/\n<=c/\c<=maxLen:=by
 obtain ⟨R,h1,_⟩:=h
 rcases h1 with h1 | ⟨g,o',cap,cur,h1,h3,h4,h5,h6,h7,h8⟩
 ·exact .inl h1
 ·exact .inr ⟨g,o',cap,h1,h5,h6⟩
theorem zhX (P M:Nat) (A:Option Addr) (k c:Nat) (m:Nat->Nat) (T:Option Addr) (n d kc cols:Nat) (V:Nat->Nat->Nat) (w:World) (hf:FieldOk P M m) (hm:ModOk w P M A m) (hkM:M=1∨k=M)
  (h:MRows w T n kc V) (hV:∀ i,i<n->∀ j,j<kc->V i j<P ^ M) (hcK:cols<=kc) (hK:0<kc) (hK2:kc<=1048576) (hn:n<=1048576) :
  Calls Tryz.prog 81 #[.agg #[.int .i64 (P:Nat),.int .i64 (M:Nat),.slice A k c],.slice T n d,.int .i64 (cols:Nat)] w (CanonPost (P ^ M) (addF P M) (mulF P M m) n kc cols V w):=by
 have hB:Below w.heap.size w (w.alloc (.cells #[.int .i64 (P:Nat),.int .i64 (M:Nat),.slice A k c] 24)):=(Below.refl _ _).alloc (Nat.le_refl _) _
 have rf:=zaj (w:=w) (a:=.int .i64 (P:Nat)) (b:=.int .i64 (M:Nat)) (c:=.slice A k c) (T := 24)
 obtain ⟨w0,hw0⟩:∃ W,W=w.alloc (.cells #[.int .i64 (P:Nat),.int .i64 (M:Nat),.slice A k c] 24):=⟨_,rfl⟩
 rw [<-hw0] at hB rf
 go_enter Tryz.func81, Tryz.ntmps81
 go_upto_region 1 with fail
 rw [<-hw0];clear hw0
 have q0:=qc0 rf
 have q1:=qc1 rf
 have q2:=qc2 rf
 have hr0:MRows w0 T n kc V:=h.on hB
 have hm0:=zaM hm hB
 clear h
 go_wp2_with fail
 refine (zi8 P M A k c m T n d kc cols V w0 hf hm0 hkM hr0 hV hcK hK hK2 hn).mono ?_
 rintro e w1 ⟨lv,pv,a,c0,p,W,rfl,hM,hP,kb,hc,hca,hE,hR⟩
 have hBs:w.heap.size<=w0.heap.size:=hB.size
 replace hM:=(hM.mono hBs).tab;replace hP:=hP.mono hBs;replace hB:=onS hB kb
 have HE:=hid (hE.full hc hca)
 have HR:=hid hR
 have han:=hE.le
 clear kb q0 q1 q2 hr0 hm0 hE hR hc hca hV rf hBs
 obtain ⟨PA,pc,hpv⟩:=hP.shape
 subst hpv
 rcases hM.form with ⟨hlv,hn0⟩ | ⟨b,o,lc,hlv,hlc,hlm⟩
 ·subst hlv hn0
  obtain rfl:a=0:=by omega
  go_wp2
  go_ret2
  exact ⟨_,_,0,p,W,rfl,hM,hP,hB,HE.out,HR.out⟩
 ·subst hlv
  have ha0:(0:Int)<=(a:Int):=by omega
  have hal:(a:Int)<=(lc:Int):=by omega
  unfold maxLen at hlm
  have HM:=hid (hM.take han)
  have HP:=hid hP
  clear hM hP
  go_wp2
  go_ret2
  exact ⟨_,_,a,p,W,rfl,HM.out,HP.out,hB,HE.out,HR.out⟩
def FirstErr:List (Prop × Int)->Int->Prop
 | [],v=>v=0
 | (p,e) :: r,v=>(¬ p/\v=e)∨(p/\FirstErr r v)
theorem FirstErr.unique:∀ {l:List (Prop × Int)} {v u:Int},FirstErr l v->FirstErr l u->v=u
 | [],_,_,h1,h2=>h1.trans h2.symm
 | (_, _) :: r, _, _, h1, h2 => by
  rcases h1 with ⟨a,h1⟩ | ⟨a,h1⟩
  ·rcases h2 with ⟨_,h2⟩ | ⟨b,_⟩
   ·exact h1.trans h2.symm
   ·exact absurd b a
  ·rcases h2 with ⟨b,_⟩ | ⟨_,h2⟩
   ·exact absurd a b
   ·exact FirstErr.unique (l:=r) h1 h2
def ErrsPost (l:List (Prop × Int)) (w:World) (e:Ending) (w':World):Prop:=∃ v:Int,e=.returned (.int .i64 v)/\FirstErr l v/\Below w.heap.size w w'
theorem errsPost {l:List (Prop × Int)} {w w':World} {v:Int} (h:FirstErr l v) (hB:Below w.heap.size w w'):ErrsPost l w (.returned (.int .i64 v)) w':=⟨v,rfl,h,hB⟩
def ShapeM (cols:Int) (n:Nat) (ln:Nat->Nat):Prop:=0<=cols/\cols<=256/\n<=256/\∀ i,i<n->(ln i:Int)=cols
def ElemsM (q n:Nat) (ln:Nat->Nat) (V:Nat->Nat->Int):Prop:=∀ i,i<n->AllIn q (ln i) (V i)
def matCell (a b:Value) (i:Nat):Value:=if i=0 then a else b
theorem KC.qc0 {w:World} {g:Nat} {T:TypeId} {a b:Value} (h:w.rowIs g T 2 (matCell a b)) : w.cell? ⟨g,0,none⟩=some a:=h.cell (i:=0) (by decide)
theorem KC.qc1 {w:World} {g:Nat} {T:TypeId} {a b:Value} (h:w.rowIs g T 2 (matCell a b)) : w.cell? ⟨g,1,none⟩=some b:=h.cell (i:=1) (by decide)
open KC
theorem zaN {w:World} {a b:Value} {T:TypeId}:(w.alloc (.cells #[a,b] T)).rowIs w.heap.size T 2 (matCell a b) :=
 ⟨#[a,b],zaG rfl,rfl,fun i hi=>by
  rcases (show i=0∨i=1 by omega) with rfl | rfl <;> rfl⟩
theorem zf5 (P M:Int) (A:Option Addr) (k c:Nat) (f:Nat->Int) (cols:Int) (T:Option Addr) (n d:Nat) (ln:Nat->Nat) (V:Nat->Nat->Int) (w:World) (hr:IntsR w w.heap.size A k f) (h:IntRows w T n ln V) :
  Calls Tryz.prog 141 #[.agg #[.int .i64 P,.int .i64 M,.slice A k c],.agg #[.int .i64 cols,.slice T n d]] w (ErrsPost [(GoodF P M k f,1),(ShapeM cols n ln,3),(ElemsM (P.toNat ^ M.toNat) n ln V,2)] w):=by
 have HT:=hid h
 clear h
 have rf:=zaj (w:=w) (a:=.int .i64 P) (b:=.int .i64 M) (c:=.slice A k c) (T := 24)
 have hB:Below w.heap.size w (w.alloc (.cells #[.int .i64 P,.int .i64 M,.slice A k c] 24)):=(Below.refl _ _).alloc (Nat.le_refl _) _
 have hsz:(w.alloc (.cells #[.int .i64 P,.int .i64 M,.slice A k c] 24)).heap.size=w.heap.size+1:=by simp
 obtain ⟨w0,hw0⟩:∃ W,W=w.alloc (.cells #[.int .i64 P,.int .i64 M,.slice A k c] 24):=⟨_,rfl⟩
 have rm:=zaN (w:=w0) (a:=.int .i64 cols) (b:=.slice T n d) (T := 97)
 have kb:Below w0.heap.size w0 (w0.alloc (.cells #[.int .i64 cols,.slice T n d] 97)):=(Below.refl _ _).alloc (Nat.le_refl _) _
 obtain ⟨w1,hw1⟩:∃ W,W=w0.alloc (.cells #[.int .i64 cols,.slice T n d] 97):=⟨_,rfl⟩
 rw [<-hw0] at hB rf hsz;rw [<-hw1] at rm kb;rw [hsz] at rm;replace rf:=zaa rf kb;replace hB:=onS hB kb
 go_enter Tryz.func141, Tryz.ntmps141
 go_upto_region 1 with fail
 rw [<-hw0,<-hw1];clear hw0 hw1 kb hsz
 have q0:=qc0 rf
 have q1:=qc1 rf
 have q2:=qc2 rf
 go_wp2_with fail
 have hr1:=hr.on hB
 refine (zdC P M A k c f w1 hr1).mono ?_
 rintro e w2 ⟨v,rfl,hv,kb⟩
 replace rf:=zaa rf kb;replace rm:=zaa rm kb;replace hB:=onS hB kb;clear kb q0 q1 q2 hr1
 rcases hv with ⟨rfl,hg⟩ | ⟨rfl,hg⟩
 ·have HG := hid hg
  obtain ⟨P',M',rfl,rfl,hf,_⟩:=hg
  have HF:=hid hf
  clear hf
  have m0:=qc0 rm
  have m1:=qc1 rm
  by_cases hc0:cols<0
  ·have hno:Hid (FirstErr [(GoodF (P':Int) (M':Int) k f,1),(ShapeM cols n ln,3),(ElemsM ((P':Int).toNat ^ (M':Int).toNat) n ln V,2)] 3):=.inr ⟨HG.out,.inl ⟨fun h=>by have:=h.1; omega,rfl⟩⟩
   go_wp2
   go_ret
   exact errsPost hno.out hB
  ·by_cases hc1:cols > 256
   ·have hno:Hid (FirstErr [(GoodF (P':Int) (M':Int) k f,1),(ShapeM cols n ln,3),(ElemsM ((P':Int).toNat ^ (M':Int).toNat) n ln V,2)] 3):=.inr ⟨HG.out,.inl ⟨fun h=>by have:=h.2.1; omega,rfl⟩⟩
    go_wp2
    go_ret
    exact errsPost hno.out hB
   ·by_cases hn1:n > 256
    ·have hno:Hid (FirstErr [(GoodF (P':Int) (M':Int) k f,1),(ShapeM cols n ln,3),(ElemsM ((P':Int).toNat ^ (M':Int).toNat) n ln V,2)] 3):=.inr ⟨HG.out,.inl ⟨fun h=>by have:=h.2.2.1; omega,rfl⟩⟩
     have hn1':(n:Int) > 256:=by omega
     go_wp2
     go_ret
     exact errsPost hno.out hB
    ·have hn1':¬ (n:Int) > 256:=by omega
     go_wp2
     go_loopg [6] n (fun gg iv wx=>∃ i:Nat,iv=.int .i64 (i:Nat)/\i<=n/\n<=i+gg/\Hid (∀ t,t<i->(ln t:Int)=cols)/\wx.rowIs w.heap.size 24 3 (fldCell (.int .i64 (P':Nat)) (.int .i64 (M':Nat)) (.slice A k c))/\wx.rowIs (w.heap.size+1) 97 2 (matCell (.int .i64 cols) (.slice T n d))/\Below w.heap.size w wx)
     case atStart=>exact ⟨0,rfl,by omega,by omega,fun t ht=>absurd ht (by omega),rf,rm,hB⟩
     case round =>
      clear rf rm hB m0 m1
      obtain ⟨i,rfl,hi,hig,HQ,rf,rm,hB⟩:=hrel
      have hi0:(0:Int)<=(i:Int):=by omega
      have m0:=qc0 rm
      have m1:=qc1 rm
      by_cases hlt:i<n
      ·have hlt':(i:Int)<(n:Int):=by omega
       obtain ⟨b,o,RA,rc,hT,hb,x0,_,_,hrow,_⟩:=HT.out i hlt
       subst hT
       replace x0:=(hB.cell (p:=⟨b,o+i,none⟩) hb).trans x0
       obtain ⟨li,hli⟩:∃ x,x=ln i:=⟨_,rfl⟩
       rw [<-hli] at x0
       have HLI:=hid hli
       clear hrow hli
       by_cases he:(li:Int)=cols
       ·have he':((li:Int) != cols)=false:=by simpa using he
        have HE:=hid he
        clear he
        go_wp2
        go_quiet (fail)
        go_wp2
        go_roundg (gk - 1)
        case measure=>omega
        case rel =>
         refine ⟨i+1,by go_num,by omega,by omega,fun t ht=>?_,zaX rf _,zaX rm _,zai hB _⟩
         by_cases e:t=i
         ·subst e; rw [<-HLI.out]; exact HE.out
         ·exact HQ.out t (by omega)
       ·have he':((li:Int) != cols)=true:=by simpa using he
        have hno:Hid (FirstErr [(GoodF (P':Int) (M':Int) k f,1),(ShapeM cols n ln,3),(ElemsM ((P':Int).toNat ^ (M':Int).toNat) n ln V,2)] 3):=.inr ⟨HG.out,.inl ⟨fun h=>he (by rw [HLI.out]; exact h.2.2.2 i hlt),rfl⟩⟩
        clear he
        go_wp2
        go_quiet (fail)
        go_wp2
        go_ret
        exact errsPost hno.out (zai hB _)
      ·have hlt':¬ (i:Int)<(n:Int):=by omega
       obtain rfl:i=n:=by omega
       have HSH:Hid (ShapeM cols i ln):=⟨by omega,by omega,by omega,HQ.out⟩
       obtain ⟨gO,hgO⟩:∃ g,g=gk:=⟨_,rfl⟩
       clear hgO
       go_wp2
       go_loopg [5,7] i (fun gg ev jv wx=>∃ j:Nat,ev=.int .i64 0/\jv=.int .i64 (j:Nat)/\j<=i/\i<=j+gg/\Hid (∀ t,t<j->AllIn (P' ^ M') (ln t) (V t))/\wx.rowIs w.heap.size 24 3 (fldCell (.int .i64 (P':Nat)) (.int .i64 (M':Nat)) (.slice A k c))/\wx.rowIs (w.heap.size+1) 97 2 (matCell (.int .i64 cols) (.slice T i d))/\Below w.heap.size w wx)
       case atStart=>exact ⟨0,rfl,rfl,by omega,by omega,fun t ht=>absurd ht (by omega),rf,rm,hB⟩
       case round =>
        clear rf rm hB m0 m1
        obtain ⟨j,rfl,rfl,hj,hjg,HQ2,rf,rm,hB⟩:=hrel
        have hj0:(0:Int)<=(j:Int):=by omega
        have m0:=qc0 rm
        have m1:=qc1 rm
        by_cases hjt:j<i
        ·have hjt':(j:Int)<(i:Int):=by omega
         obtain ⟨b,o,RA,rc,hT,hb,x0,hg1,hg2,hrow,_⟩:=HT.out j hjt
         subst hT
         replace x0:=(hB.cell (p:=⟨b,o+j,none⟩) hb).trans x0
         have hll:ln j<=9223372036854775807:=by unfold maxLen at hg2; omega
         clear hg1 hg2
         have hr3:=hrow.on hB
         obtain ⟨lj,hlj⟩:∃ x,x=ln j:=⟨_,rfl⟩
         rw [<-hlj] at x0 hll hr3
         have HLJ:=hid hlj
         clear hrow hlj
         have q0:=qc0 rf
         have q1:=qc1 rf
         have q2:=qc2 rf
         obtain ⟨w1,hw1⟩:∃ X,X=wr:=⟨_,rfl⟩
         rw [<-hw1] at hB rf rm x0 q0 q1 q2 m0 m1 hr3 ⊢;clear hw1
         go_wp2
         refine wp_region_held_drew (S:=fun w'=>w'.cell? ⟨w.heap.size,0,none⟩=some (.int .i64 (P':Nat))/\w'.cell? ⟨w.heap.size,1,none⟩=some (.int .i64 (M':Nat))/\w'.cell? ⟨w.heap.size,2,none⟩=some (.slice A k c)/\w'.cell? ⟨w.heap.size+1,1,none⟩=some (.slice (some ⟨b,o,none⟩) i d)/\w'.cell? ⟨b,o+j,none⟩=some (.slice RA lj rc)) (by kernel_rfl) ⟨cellS (Below.refl _ _).drew q0,cellS (Below.refl _ _).drew q1,cellS (Below.refl _ _).drew q2,cellS (Below.refl _ _).drew m1,cellS (Below.refl _ _).drew x0⟩ (fun hHeld=>?_)
         obtain ⟨w2,hw⟩:∃ W,W=World.drew w1:=⟨_,rfl⟩
         have kb:Below w1.heap.size w1 w2:=by rw [hw]; exact (Below.refl _ _).drew
         rw [<-hw] at hHeld ⊢;clear hw;replace rf:=zaa rf kb;replace rm:=zaa rm kb;replace hB:=onS hB kb;replace x0:=cellS kb x0;replace q0:=cellS kb q0;replace q1:=cellS kb q1;replace q2:=cellS kb q2;replace m0:=cellS kb m0;replace m1:=cellS kb m1;replace hr3:=hr3.on kb;clear kb
         refine tkq 0 (h:=tkq 1 (h:=tkq 2 (h:=tkq 3 (h:=tkq 4 (h:=tkq 5 (h:=?_))))))
         refine rdq 6 (h:=fun K hK=>?_)
         go_simp
         go_wp2_with fail
         refine (zeD P' M' A k c RA lj rc (V j) w2 HF.out hr3 hll).mono ?_
         rintro e w3 ⟨v,rfl,hv,kb⟩
         replace rf:=zaa rf kb;replace rm:=zaa rm kb;replace hB:=onS hB kb;replace x0:=cellS kb x0;replace q0:=cellS kb q0;replace q1:=cellS kb q1;replace q2:=cellS kb q2;replace m0:=cellS kb m0;replace m1:=cellS kb m1;replace hr3:=hr3.on kb;clear kb
         have HV:=hid hv
         clear hv
         refine bkq hK ⟨q0,q1,q2,m1,x0⟩ (h:=fun hHeld=>?_)
         clear hK K
         refine tkq 7 (h:=?_)
         refine wpAnyH_done (by kernel_rfl) ?_ _
         clear hHeld;clear q0 q1 q2 m0 m1 x0 hr3
         rcases HV.out with ⟨rfl,hv⟩ | ⟨rfl,hv⟩
         ·have HV9:=hid hv
          clear hv HV
          go_wp2
          go_roundg (gk - 1)
          case measure=>omega
          case rel =>
           refine ⟨j+1,rfl,by go_num,by omega,by omega,fun t ht=>?_,rf,rm,hB⟩
           by_cases e:t=j
           ·subst e; rw [<-HLJ.out]; exact HV9.out
           ·exact HQ2.out t (by omega)
         ·have hno:Hid (FirstErr [(GoodF (P':Int) (M':Int) k f,1),(ShapeM cols i ln,3),(ElemsM ((P':Int).toNat ^ (M':Int).toNat) i ln V,2)] 2):=.inr ⟨HG.out,.inr ⟨HSH.out,.inl ⟨fun h=>hv (by rw [HLJ.out]; simpa using h j hjt),rfl⟩⟩⟩
          clear hv HV
          go_wp2
          go_ret
          exact errsPost hno.out hB
        ·have hjt':¬ (j:Int)<(i:Int):=by omega
         obtain rfl:j=i:=by omega
         have hno:Hid (FirstErr [(GoodF (P':Int) (M':Int) k f,1),(ShapeM cols j ln,3),(ElemsM ((P':Int).toNat ^ (M':Int).toNat) j ln V,2)] 0):=.inr ⟨HG.out,.inr ⟨HSH.out,.inr ⟨by rw [Int.toNat_natCast,Int.toNat_natCast]; exact HQ2.out,rfl⟩⟩⟩
         go_wp2
         go_ret
         exact errsPost hno.out hB
 ·have hno:Hid (FirstErr [(GoodF P M k f,1),(ShapeM cols n ln,3),(ElemsM (P.toNat ^ M.toNat) n ln V,2)] 1):=.inl ⟨hg,rfl⟩
  clear hg
  go_wp2
  go_ret
  exact errsPost hno.out hB
theorem FirstErr.app:∀ {l r:List (Prop × Int)} {v u:Int},(∀ x ∈ l,x.2≠0)->FirstErr l v->(v≠0->u=v)->(v=0->FirstErr r u)->FirstErr (l ++ r) u
 | [],_,_,_,_,h,_,h2=>h2 h
 | (p, e) :: l, r, v, u, hne, h, h1, h2 => by
  rcases h with ⟨hp,e1⟩ | ⟨hp,h⟩
  ·have h0:e≠0:=hne (p,e) (by simp)
   exact .inl ⟨hp,by rw [h1 (by rw [e1]; exact h0),e1]⟩
  ·exact .inr ⟨hp,FirstErr.app (fun x hx=>hne x (by simp [hx])) h h1 h2⟩
def natT (V:Nat->Nat->Int) (i j:Nat):Nat:=(V i j).toNat
theorem zdc {w:World} {T:Option Addr} {n cols q:Nat} {ln:Nat->Nat} {V:Nat->Nat->Int} (h:IntRows w T n ln V) (hs:ShapeM (cols:Int) n ln) (he:ElemsM q n ln V):MRows w T n cols (natT V)/\∀ i,i<n->∀ j,j<cols->natT V i j<q:=by
 have hlc:∀ i,i<n->ln i=cols:=fun i hi=>by have:=hs.2.2.2 i hi; omega
 refine ⟨fun i hi=>?_,fun i hi j hj=>?_⟩
 ·obtain ⟨b,off,A,c,e,h1,h2,h3,h4,h5,h6⟩:=h i hi
  rw [hlc i hi] at h2 h3 h5 h6
  have hv:∀ j,j<cols->V i j=((natT V i j:Nat):Int):=fun j hj=>by
   have:=he i hi j (by rw [hlc i hi]; exact hj)
   unfold natT
   omega
  exact ⟨b,off,A,c,e,h1,h2,h3,h4,h5.congr hv,fun j hj=>by show _<=((natT V i j:Nat):Int)/\((natT V i j:Nat):Int)<=_; rw [<-hv j hj]; exact h6 j hj⟩
 ·have:=he i hi j (by rw [hlc i hi]; exact hj)
  unfold natT
  omega
theorem MTab.rd {w:World} {base n k c q:Nat} {A:Option Addr} {W:Nat->Nat->Nat} (h:MTab w base (.slice A n c) n k W) (hq:q<=256) (hW:∀ i,i<n->∀ j,j<k->W i j<q):MRows w A n k W:=fun i hi=>by
 obtain ⟨b,o,RA,rc,e,h1,h2,h3,h4,h5⟩:=h.row hi
 have hfc:k<=rc/\rc<=maxLen:=by
  rcases h5 with ⟨e1,e2⟩ | ⟨g,o',cap,cur,e1,_,_,e3,e4,_⟩
  ·injection e1 with _ e3 e4
   subst e3 e4
   exact ⟨Nat.le_refl _,by unfold maxLen; omega⟩
  ·injection e1 with _ _ e5
   subst e5
   exact ⟨e3,e4⟩
 exact ⟨b,o,RA,rc,e,h2,h3,hfc.1,hfc.2,h5.rd rfl,fun j hj=>by have:=hW i hi j hj; show _<=((W i j:Nat):Int)/\((W i j:Nat):Int)<=_; omega⟩
def SpaceErrs (P M:Int) (k:Nat) (f:Nat->Int) (cols n:Nat) (ln:Nat->Nat) (V:Nat->Nat->Int):List (Prop × Int) :=
 [(GoodF P M k f,1),(ShapeM cols n ln,3),(ElemsM (P.toNat ^ M.toNat) n ln V,2),(RrefN (P.toNat ^ M.toNat) n cols (natT V),5)]
theorem zf6 (P M:Int) (A:Option Addr) (k c:Nat) (f:Nat->Int) (cols:Nat) (T:Option Addr) (n d:Nat) (ln:Nat->Nat) (V:Nat->Nat->Int) (w:World) (hr:IntsR w w.heap.size A k f) (h:IntRows w T n ln V) (hc1:1<=cols) :
  Calls Tryz.prog 61 #[.agg #[.int .i64 P,.int .i64 M,.slice A k c],.agg #[.int .i64 (cols:Nat),.slice T n d]] w (ErrsPost (SpaceErrs P M k f cols n ln V) w):=by
 have HT:=hid h
 have HR:=hid hr
 clear h hr
 have rf:=zaj (w:=w) (a:=.int .i64 P) (b:=.int .i64 M) (c:=.slice A k c) (T := 24)
 have hB:Below w.heap.size w (w.alloc (.cells #[.int .i64 P,.int .i64 M,.slice A k c] 24)):=(Below.refl _ _).alloc (Nat.le_refl _) _
 have hsz:(w.alloc (.cells #[.int .i64 P,.int .i64 M,.slice A k c] 24)).heap.size=w.heap.size+1:=by simp
 obtain ⟨w0,hw0⟩:∃ W,W=w.alloc (.cells #[.int .i64 P,.int .i64 M,.slice A k c] 24):=⟨_,rfl⟩
 have rm:=zaN (w:=w0) (a:=.int .i64 (cols:Nat)) (b:=.slice T n d) (T := 97)
 have kb:Below w0.heap.size w0 (w0.alloc (.cells #[.int .i64 (cols:Nat),.slice T n d] 97)):=(Below.refl _ _).alloc (Nat.le_refl _) _
 obtain ⟨w1,hw1⟩:∃ W,W=w0.alloc (.cells #[.int .i64 (cols:Nat),.slice T n d] 97):=⟨_,rfl⟩
 rw [<-hw0] at hB rf hsz;rw [<-hw1] at rm kb;rw [hsz] at rm;replace rf:=zaa rf kb;replace hB:=onS hB kb
 go_enter Tryz.func61, Tryz.ntmps61
 go_upto_region 1 with fail
 rw [<-hw0,<-hw1];clear hw0 hw1 kb hsz
 have q0:=qc0 rf
 have q1:=qc1 rf
 have q2:=qc2 rf
 have m0:=qc0 rm
 have m1:=qc1 rm
 go_wp2_with fail
 refine (zf5 P M A k c f cols T n d ln V w1 (HR.out.on hB) (HT.out.on hB)).mono ?_
 rintro e w2 ⟨v,rfl,hv,kb⟩
 replace rf:=zaa rf kb;replace rm:=zaa rm kb;replace hB:=onS hB kb;clear kb q0 q1 q2 m0 m1
 by_cases hv0:v=0
 ·subst hv0
  have HVV:=hid hv
  rcases hv with ⟨_,h9⟩ | ⟨hg,⟨_,h9⟩ | ⟨hsh,⟨_,h9⟩ | ⟨hel,_⟩⟩⟩
  ·cases h9
  ·cases h9
  ·cases h9
  ·have hgf:=hg
   obtain ⟨P',M',rfl,rfl,hf,_⟩:=hg
   obtain ⟨hfo,hkM⟩:=hgf.field
   rw [Int.toNat_natCast,Int.toNat_natCast] at hel
   obtain ⟨hmr,hlt⟩:=zdc HT.out hsh hel
   have hn256:=hsh.2.2.1
   have hc256:=hsh.2.1
   have HMR:=hid (hmr.on hB)
   have HMD:=hid (hgf.mod HR.out)
   have HLT:=hid hlt
   have HSH:=hid hsh
   have HFO:=hid hfo
   clear hmr hlt hel hgf hsh hf
   have q0:=qc0 rf
   have q1:=qc1 rf
   have q2:=qc2 rf
   have m0:=qc0 rm
   have m1:=qc1 rm
   go_wp2_with fail
   refine (zhX P' M' A k c _ T n d cols cols (natT V) w2 HFO.out (zaM HMD.out hB) hkM HMR.out HLT.out (Nat.le_refl _) (by omega) (by omega) (by omega)).mono ?_
   rintro e w3 ⟨lv,pv,a,p,W,rfl,hM,hP,kb,hE,hRo⟩
   obtain ⟨LA,lc,hlv⟩:=hM.shape
   subst hlv
   obtain ⟨PA,pc,hpv⟩:=hP.shape
   subst hpv
   have han:=hE.le
   have HMW:=hid (hM.rd (q:=P' ^ M') HFO.out.1.2.2.2 fun i hi=>hE.lt i (by omega))
   have HMV:=hid (HMR.out.on kb)
   have HCA:=hid (zeE (fieldLaws HFO.out) HLT.out hE hRo)
   replace rf:=zaa rf kb;replace rm:=zaa rm kb;replace hB:=onS hB kb;clear kb q0 q1 q2 m0 m1 hM hP hE hRo
   have m1:=qc1 rm
   go_wp2_with fail
   refine (ze1 LA T a n lc d _ _ _ _ w3 HMW.out HMV.out (by omega) (by omega)).mono ?_
   rintro e w4 ⟨b,rfl,hb,kb⟩
   replace hB:=onS hB kb
   have HBB:Hid (b=true↔RrefN (P' ^ M') n cols (natT V)):=by
    refine hb.trans (Iff.trans ?_ HCA.out.symm)
    constructor
    ·intro h
     refine ⟨h.1,fun i hi j hj=>?_⟩
     have:=(h.2 i hi).2 j hj
     simp only at this
     omega
    ·intro h
     refine ⟨h.1,fun i hi=>⟨rfl,fun j hj=>?_⟩⟩
     show ((W i j:Nat):Int)=((natT V i j:Nat):Int)
     rw [h.2 i hi j hj]
   have HP9:Hid (∀ u:Int,FirstErr [(RrefN (P' ^ M') n cols (natT V),5)] u->FirstErr (SpaceErrs (P':Int) (M':Int) k f cols n ln V) u):=fun u hu=>by
    refine FirstErr.app (l:=[(GoodF (P':Int) (M':Int) k f,1),(ShapeM cols n ln,3),(ElemsM ((P':Int).toNat ^ (M':Int).toNat) n ln V,2)]) (by simp) HVV.out (fun h=>absurd rfl h) fun _=>?_
    rw [Int.toNat_natCast,Int.toNat_natCast]
    exact hu
   clear kb m1 rf rm hb HCA HMW HMV HVV
   cases b
   ·go_wp2
    go_ret
    exact errsPost (HP9.out _ (.inl ⟨fun h=>(by have:=HBB.out.2 h; cases this),rfl⟩)) hB
   ·go_wp2
    go_ret
    exact errsPost (HP9.out _ (.inr ⟨HBB.out.1 (by first | rfl | trivial),rfl⟩)) hB
 ·have hvn:(v != 0)=true:=by simpa using hv0
  have HVV:=hid (FirstErr.app (r:=[(RrefN (P.toNat ^ M.toNat) n cols (natT V),5)]) (u:=v) (by simp) hv (fun _=>rfl) (fun h=>absurd h hv0))
  clear hv hv0
  go_wp2
  go_ret
  exact errsPost HVV.out hB
def CodeErrs (P M:Int) (k:Nat) (f:Nat->Int) (N:Int) (n:Nat) (ln:Nat->Nat) (V:Nat->Nat->Int):List (Prop × Int) :=
 [(GoodF P M k f,1),(1<=N/\N<=64,4),(ShapeM N n ln,3),(ElemsM (P.toNat ^ M.toNat) n ln V,2),(RrefN (P.toNat ^ M.toNat) n N.toNat (natT V),5)]
def codCell (a b c d e:Value) (i:Nat):Value:=if i=0 then a else if i=1 then b else if i=2 then c else if i=3 then d else e
theorem KA.qc0 {w:World} {g:Nat} {T:TypeId} {a b c d e:Value} (h:w.rowIs g T 5 (codCell a b c d e)) : w.cell? ⟨g,0,none⟩=some a:=h.cell (i:=0) (by decide)
theorem KA.qc1 {w:World} {g:Nat} {T:TypeId} {a b c d e:Value} (h:w.rowIs g T 5 (codCell a b c d e)) : w.cell? ⟨g,1,none⟩=some b:=h.cell (i:=1) (by decide)
theorem KA.qc2 {w:World} {g:Nat} {T:TypeId} {a b c d e:Value} (h:w.rowIs g T 5 (codCell a b c d e)) : w.cell? ⟨g,2,none⟩=some c:=h.cell (i:=2) (by decide)
theorem KA.qc3 {w:World} {g:Nat} {T:TypeId} {a b c d e:Value} (h:w.rowIs g T 5 (codCell a b c d e)) : w.cell? ⟨g,3,none⟩=some d:=h.cell (i:=3) (by decide)
theorem KA.qc4 {w:World} {g:Nat} {T:TypeId} {a b c d e:Value} (h:w.rowIs g T 5 (codCell a b c d e)) : w.cell? ⟨g,4,none⟩=some e:=h.cell (i:=4) (by decide)
open KA
theorem zbN {w:World} {a b c d e:Value} {T:TypeId}:(w.alloc (.cells #[a,b,c,d,e] T)).rowIs w.heap.size T 5 (codCell a b c d e) :=
 ⟨#[a,b,c,d,e],zaG rfl,rfl,fun i hi=>by
  rcases (show i=0∨i=1∨i=2∨i=3∨i=4 by omega) with rfl | rfl | rfl | rfl | rfl <;> rfl⟩
theorem zf7 (P M:Int) (A:Option Addr) (k c:Nat) (f:Nat->Int) (N:Int) (T:Option Addr) (n d:Nat) (ln:Nat->Nat) (V:Nat->Nat->Int) (w:World) (hr:IntsR w w.heap.size A k f) (h:IntRows w T n ln V) :
  Calls Tryz.prog 13 #[.agg #[.int .i64 P,.int .i64 M,.slice A k c,.int .i64 N,.slice T n d]] w (ErrsPost (CodeErrs P M k f N n ln V) w):=by
 have HT:=hid h
 have HR:=hid hr
 clear h hr
 have rf:=zbN (w:=w) (a:=.int .i64 P) (b:=.int .i64 M) (c:=.slice A k c) (d:=.int .i64 N) (e:=.slice T n d) (T := 27)
 have hB:Below w.heap.size w (w.alloc (.cells #[.int .i64 P,.int .i64 M,.slice A k c,.int .i64 N,.slice T n d] 27)):=(Below.refl _ _).alloc (Nat.le_refl _) _
 obtain ⟨w1,hw1⟩:∃ W,W=w.alloc (.cells #[.int .i64 P,.int .i64 M,.slice A k c,.int .i64 N,.slice T n d] 27):=⟨_,rfl⟩
 rw [<-hw1] at hB rf
 go_enter Tryz.func13, Tryz.ntmps13
 go_upto_region 1 with fail
 rw [<-hw1];clear hw1
 have q0:=qc0 rf
 have q1:=qc1 rf
 have q2:=qc2 rf
 go_wp2_with fail
 refine (zdC P M A k c f w1 (HR.out.on hB)).mono ?_
 rintro e w2 ⟨v,rfl,hv,kb⟩
 replace rf:=zaa rf kb;replace hB:=onS hB kb;clear kb q0 q1 q2
 rcases hv with ⟨rfl,hg⟩ | ⟨rfl,hg⟩
 ·have HG:=hid hg
  clear hg
  have q3:=qc3 rf
  by_cases hN1:N<1
  ·have hno:Hid (FirstErr (CodeErrs P M k f N n ln V) 4):=.inr ⟨HG.out,.inl ⟨fun h=>by have:=h.1; omega,rfl⟩⟩
   go_wp2
   go_ret
   exact errsPost hno.out hB
  ·by_cases hN2:N > 64
   ·have hno:Hid (FirstErr (CodeErrs P M k f N n ln V) 4):=.inr ⟨HG.out,.inl ⟨fun h=>by have:=h.2; omega,rfl⟩⟩
    go_wp2
    go_ret
    exact errsPost hno.out hB
   ·obtain ⟨cols,rfl⟩:∃ m:Nat,N=m:=⟨N.toNat,by omega⟩
    have q0:=qc0 rf
    have q1:=qc1 rf
    have q2:=qc2 rf
    have q4:=qc4 rf
    go_wp2_with fail
    refine (zf6 P M A k c f cols T n d ln V w2 (HR.out.on hB) (HT.out.on hB) (by omega)).mono ?_
    rintro e w3 ⟨v,rfl,hv,kb⟩
    replace hB:=onS hB kb
    have HVV:Hid (FirstErr (CodeErrs P M k f cols n ln V) v):=by
     rcases hv with ⟨h1,_⟩ | ⟨_,h1⟩
     ·exact absurd HG.out h1
     ·exact .inr ⟨HG.out,.inr ⟨⟨by omega,by omega⟩,h1⟩⟩
    clear kb q0 q1 q2 q3 q4 rf hv
    go_wp2
    go_ret
    exact errsPost HVV.out hB
 ·have hno:Hid (FirstErr (CodeErrs P M k f N n ln V) 1):=.inl ⟨hg,rfl⟩
  clear hg
  go_wp2
  go_ret
  exact errsPost hno.out hB
section
variable {w:World}
theorem zbD {ops:Array Oper} {o:Oper} {a:Act} {K:Act->World->Prop} {Q:Exit->Act->World->Prop} {E:Prop} (hgd:o.guard=none) (sl x:Operand)
  (ho:o.op=.call { callee:=.builtin .append,args:=#[sl,x],argTypes:=#[22, 22] })
  {b0 base:Nat} (hv:a.eval sl=.slice (some ⟨b0,0,none⟩) 0 0) (hr0:w.rowIs b0 3 0 (fun _=>undef)) (hbase:base<=b0) {A:Option Addr} {c n:Nat} {f:Nat->Int} (hx:a.eval x=.slice A n c)
  (hsrc:IntsR w w.heap.size A n f) (hlen:n<=1048576)
  (K':∀ v' w',Own w' base 3 1 v' n (fun j _=>.int .i64 (f j))->Below w.heap.size w w'->(v'.ownBlock=some b0∨v'.ownBlock=some w.heap.size)->K (a.put o.dst v') w') :
  if Region.wanted o (yielded ops a.tmps)=true then Oper.wp Tryz.prog o a w K Q else E:=by
 have hw:Region.wanted o (yielded ops a.tmps)=true:=by simp [Region.wanted,hgd]
 rw [if_pos hw]
 obtain ⟨i0,qi0,qz0,qz1,qz2⟩:=info_parts Tryz.infoInt
 have hl0:b0<w.heap.size:=hr0.lt
 have hb0:w.heap[b0]?=some (.cells #[] 3 (0,0)):=by
  obtain ⟨cs,h1,h2,_⟩:=hr0
  rw [h1,Array.eq_empty_of_size_eq_zero h2]
 by_cases h0:n=0
 ·have hrun:=zbg (P:=Tryz.prog) w 22 o.type 3 i0 Tryz.underlying22 qi0 b0 0 A c
  rw [h0] at hx
  unfold Oper.wp execOp
  simp only [ho,resolve,invoke,builtin,Sem.run_bind,Sem.run_pure,Result.andThen_ok,List.map_toArray,List.map_cons,List.map_nil,hv,hx,hrun]
  refine K' _ _ ?_ (Below.refl _ _) (.inl rfl)
  rw [h0]
  exact .inr ⟨b0,0,0,#[],rfl,hbase,hb0,Nat.le_refl _,by unfold maxLen; omega,by simp,fun i hi=>absurd hi (by omega)⟩
 ·obtain ⟨cap,cur,hrun,h2,h3,h4,h5⟩:=zbh (P:=Tryz.prog) w 22 o.type 3 i0 _ 1 8 Tryz.underlying22 qi0 qz0 qz1 qz2 rfl (by omega) (some ⟨b0,0,none⟩) A n c (fun j _=>.int .i64 (f j)) hsrc (by omega) (fun _ _ _ _=>rfl) (by unfold maxLen; omega) (by omega)
  unfold Oper.wp execOp
  simp only [ho,resolve,invoke,builtin,Sem.run_bind,Sem.run_pure,Result.andThen_ok,List.map_toArray,List.map_cons,List.map_nil,hv,hx,hrun]
  refine K' _ _ ?_ (((Below.refl _ _).alloc (Nat.le_refl _) _).drew) (.inr rfl)
  exact (Own.new (w:=w) (base:=base) (e := 3) (by omega) h2 h3 h4 h5).drew
end
theorem zaO {a w:World} {b:Nat} (h:a.grownBy w (some b)) (i:Nat) (v:Value):a.grownBy (w.setCell ⟨b,i,none⟩ v) (some b):=by
 have k:=zcf w b i v
 exact ⟨k.os.trans h.os,k.tape.trans h.tape,k.output.trans h.output,Nat.le_trans h.size k.size,fun q hq hne=>(k.block q (Nat.lt_of_lt_of_le hq h.size) hne).trans (h.block q hq hne)⟩
theorem zbn {w:World} {base g m n s:Nat} {t e:TypeId} {F:Nat->Value} {v:Value} {f:Nat->Nat->Value} (hr:w.rowIs g t m F) (h:Own w base e s v n f) (hne:t≠e):v.ownBlock=none∨v.ownBlock≠some g:=by
 rcases h with ⟨rfl,_⟩ | ⟨b,o,cap,cur,rfl,_,hg,_⟩
 ·exact .inl rfl
 ·refine .inr fun e1=>?_
  obtain ⟨cs,h1,_⟩:=hr
  simp [Value.ownBlock] at e1
  subst e1
  rw [hg] at h1
  injection h1 with h1
  injection h1 with _ h1
  exact hne h1.symm
def nrow (neg:Nat->Nat) (p:Nat->Nat) (W:Nat->Nat->Nat) (c:Nat):Nat->Nat->Nat
 | 0,j=>if j=c then 1 else 0
 | s+1,j=>if j=p s then neg (W s c) else nrow neg p W c s j
structure CodeR (w:World) (P M:Nat) (m:Nat->Nat) (A:Option Addr) (k N:Nat) (T:Option Addr) (n:Nat) (V:Nat->Nat->Nat):Prop where
 fld:FieldOk P M m
 ints:IntsR w w.heap.size A k (fun i=>(m i:Nat))
 kM:M=1/\k=0∨2<=M/\k=M/\∀ i,i<M->m i<P
 ln1:1<=N
 ln2:N<=64
 rows:MRows w T n N V
 lt:∀ i,i<n->∀ j,j<N->V i j<P ^ M
 rref:RrefN (P ^ M) n N V
theorem EchN.pv_ge {q n k c a:Nat} {pv:Nat->Nat} {W:Nat->Nat->Nat} (h:EchN q n k c a pv W):∀ s,s<a->s<=pv s
 | 0,_=>Nat.zero_le _
 | s+1,hs=>by
  have h1:=EchN.pv_ge h s (by omega)
  have h2:=h.inc s (s+1) (by omega) hs
  omega
theorem EchN.le_c {q n k c a:Nat} {pv:Nat->Nat} {W:Nat->Nat->Nat} (h:EchN q n k c a pv W):a<=c:=by
 rcases Nat.eq_zero_or_pos a with h0 | h0
 ·omega
 ·have h1:=h.pv_ge (a - 1) (by omega)
  have h2:=h.pvlt (a - 1) (by omega)
  omega
section
variable {w w':World} {P M k N n:Nat} {m:Nat->Nat} {A T:Option Addr} {V:Nat->Nat->Nat}
theorem CodeR.n_le (h:CodeR w P M m A k N T n V):n<=N:=by
 obtain ⟨p,hp⟩:=h.rref
 exact hp.le_c
theorem zgJ {P M:Int} {k:Nat} {f:Nat->Int} {N:Int} {ln:Nat->Nat} {V:Nat->Nat->Int} (hr:IntsR w w.heap.size A k f) (h:IntRows w T n ln V) (hc:FirstErr (CodeErrs P M k f N n ln V) 0) :
  ∃ P' M' N':Nat,P=P'/\M=M'/\N=N'/\CodeR w P' M' (fun i=>(f i).toNat) A k N' T n (natT V):=by
 rcases hc with ⟨_,h9⟩ | ⟨hg,⟨_,h9⟩ | ⟨hN,⟨_,h9⟩ | ⟨hs,⟨_,h9⟩ | ⟨he,⟨_,h9⟩ | ⟨hR,_⟩⟩⟩⟩⟩
 ·cases h9
 ·cases h9
 ·cases h9
 ·cases h9
 ·cases h9
 ·have hg2:=hg
  obtain ⟨P',M',rfl,rfl,h3,h4,h5⟩:=hg
  obtain ⟨N',rfl⟩:∃ N':Nat,N=N':=⟨N.toNat,by omega⟩
  rw [Int.toNat_natCast,Int.toNat_natCast] at he hR;rw [Int.toNat_natCast] at hR
  obtain ⟨g1,g2⟩:=zdc h hs he
  refine ⟨P',M',N',rfl,rfl,rfl,hg2.field.1,?_,?_,by omega,by omega,g1,g2,hR⟩
  ·rcases h5 with ⟨e1,e2⟩ | ⟨e1,rfl,e3,e4⟩
   ·subst e2
    exact fun i hi=>absurd hi (by omega)
   ·exact hr.congr fun i hi=>by have:=e3 i hi; show f i=((f i).toNat:Int); omega
  ·rcases h5 with ⟨e1,e2⟩ | ⟨e1,e2,e3,e4⟩
   ·exact .inl ⟨e1,e2⟩
   ·exact .inr ⟨e1,e2,fun i hi=>by have:=e3 i hi; show (f i).toNat<P'; omega⟩
end
theorem MTab.kept {w w':World} {base n k g mm:Nat} {v:Value} {W:Nat->Nat->Nat} {t:TypeId} {F:Nat->Value} (h:MTab w base v n k W) (hg:w.grownBy w' (some g)) (hr:w.rowIs g t mm F) (h1:t ≠ 22) (h2:t ≠ 3):MTab w' base v n k W:=by
 obtain ⟨R,a,b⟩:=h
 exact ⟨R,a.kept hg (zbn hr a h1),fun i hi=>(b i hi).kept hg (zbn hr (b i hi) h2)⟩
def NoInt (w:World) (b:Nat):Prop:=∀ j n,w.cell? ⟨b,j,none⟩≠some (.int .u32 n)
theorem zgK {w:World} {g:Nat} {c:Array Value} {e:TypeId} {fr:Nat × Nat} (hg:w.heap[g]?=some (.cells c e fr)) (h:∀ u ∈ c.toList,∀ n,u≠.int .u32 n):NoInt w g:=fun j n hj=>by
 rw [cell_of_row w g j c e fr hg] at hj
 exact h _ (by rw [Array.mem_toList_iff]; exact Array.mem_of_getElem? hj) n rfl
theorem zdd {w:World} {g:Nat} {c:Array Value} {e:TypeId} {fr:Nat × Nat} (hg:w.heap[g]?=some (.cells c e fr)) (h:NoInt w g):∀ u ∈ c.toList,∀ n,u≠.int .u32 n:=fun u hu n e'=>by
 rw [Array.mem_toList_iff] at hu
 obtain ⟨j,hj,e2⟩:=Array.getElem_of_mem hu
 exact h j n (by rw [cell_of_row w g j c _ fr hg,Array.getElem?_eq_getElem hj,e2,e'])
theorem zcI {w w':World} {B n:Nat} {A:Option Addr} {f:Nat->Nat} {row:Option Nat} (h:Lims w B A n f) (hB:B<=w.heap.size) (hg:w.grownBy w' row) (hni:∀ g,row=some g->NoInt w g):Lims w' B A n f:=fun k hk=>by
 obtain ⟨b',o',e,h1,h2⟩:=h k hk
 refine ⟨b',o',e,h1,fun j hj=>?_⟩
 have hc:=h2 j hj
 rw [<-hc]
 have hne:row≠some b':=fun e=>hni b' e _ _ hc
 have:=hg.block b' (by omega) (fun e=>hne e.symm)
 simp only [World.cell?,this]
theorem zeF {z:Array Value} {n:Nat} {u:Value} (h:u ∈ (Builtin.zeroCells z n).toList):u ∈ z.toList:=by
 simp only [Builtin.zeroCells,Array.toList_map,List.mem_map,Array.toList_range,List.mem_range] at h
 obtain ⟨k,hk,rfl⟩:=h
 have h0:0<z.size:=Nat.pos_of_ne_zero fun e=>by rw [e] at hk; simp at hk
 have h1:k % z.size<z.size:=Nat.mod_lt _ h0
 rw [getElem!_pos z _ h1]
 exact Array.getElem_mem_toList h1
section
variable {P:Program} (w:World)
theorem zbO (Pv:Value->Prop) (base:Nat) (t ty e:TypeId) (i:TypeInfo) (z:Value) (s bytes:Nat) (ht:P.underlying t=some (.slice e)) (hi:P.info? e=some i) (hz:i.zero=some z)
  (hsize:i.size=s) (hby:i.bytes=bytes) (hs:0<s)
  (v:Value) (n:Nat) (f:Nat->Nat->Value) (hown:Own w base e s v n f)
  (a:Addr) (c:Nat) (hnews:∀ j,j<s->w.cell? (a.add j)=some (f n j)) (h1:∀ j,j<s->(f n j).oneCell'=true)
  (h63:n+1<=maxLen) (hbytes:(n+1)*bytes<=140737488355328)
  (hPz:∀ u ∈ z.cells.toList,Pv u) (hPf:∀ k j,k<=n->j<s->Pv (f k j)) (hPv:∀ g c e fr,v.ownBlock=some g->w.heap[g]?=some (.cells c e fr)->∀ u ∈ c.toList,Pv u) :
  ∃ v' w',(Builtin.append_ #[t,t] ty #[v,.slice (some a) 1 c]).run P w=.ok v' w'/\∀ g,v'.ownBlock=some g->∃ c e fr,w'.heap[g]?=some (.cells c e fr)/\∀ u ∈ c.toList,Pv u:=by
 subst hsize
 subst hby
 have hsmall:n+1<=9223372036854775807:=by simp only [maxLen] at h63; omega
 have hnews':∀ j u,(elem i.size (f n))[j]?=some u->w.cell? (a.add j)=some u:=fun j u hu=>by
  have hj:j<i.size:=by have:=(List.getElem?_eq_some_iff.1 hu).1; rwa [zam] at this
  rw [zcy hj] at hu
  injection hu with hu
  subst hu
  exact hnews j hj
 have h1':∀ u ∈ elem i.size (f n),u.oneCell'=true:=fun u hu=>by
  obtain ⟨j,hj,rfl⟩:=List.mem_map.1 hu
  exact h1 j (List.mem_range.1 hj)
 have hPe:∀ u ∈ elem i.size (f n),Pv u:=fun u hu=>by
  obtain ⟨j,hj,rfl⟩:=List.mem_map.1 hu
  exact hPf n j (Nat.le_refl _) (List.mem_range.1 hj)
 have hPo:∀ u ∈ flat i.size f n,Pv u:=fun u hu=>by
  obtain ⟨j,hj,rfl⟩:=List.mem_map.1 hu
  have hj:=List.mem_range.1 hj
  exact hPf _ _ (Nat.le_of_lt (Nat.div_lt_of_lt_mul (by rw [Nat.mul_comm]; exact hj))) (Nat.mod_lt _ hs)
 have hsrc:=Src.ofSlice (P:=P) w (size:=i.size) (e':=e) ht a 1 c (elem i.size (f n)) (by rw [zam]; omega) hnews' h1'
 have grown:∀ (A:Option Addr) (cap:Nat),cap<n+1->(Builtin.firstCells i.size n (.slice A n cap)).run P w.drew=.ok (flat i.size f n).toArray w.drew ->
   ∃ v' w',(Builtin.append_ #[t,t] ty #[.slice A n cap,.slice (some a) 1 c]).run P w=.ok v' w'/\∀ g,v'.ownBlock=some g->∃ c e fr,w'.heap[g]?=some (.cells c e fr)/\∀ u ∈ c.toList,Pv u:=by
  intro A cap hcap hold
  have hrun:=run_append_grow_src (P:=P) w t t ty e i z ht hi hz A n cap (flat i.size f n) hold (.slice (some a) 1 c) 1 (elem i.size (f n)) hsrc hcap (by omega) (growslice_fits hcap hbytes)
  refine ⟨_,_,hrun,fun g hg=>?_⟩
  simp [Value.ownBlock] at hg
  subst hg
  refine ⟨_,e,_,heap_alloc_new w.drew _,fun u hu=>?_⟩
  simp only [Array.toList_append,List.mem_append] at hu
  rcases hu with (hu | hu) | hu
  ·exact hPo u hu
  ·exact hPe u hu
  ·exact hPz u (zeF hu)
 rcases hown with ⟨rfl,rfl⟩ | ⟨g,o,cap,cur,rfl,hb,hg,hnc,hcm,hfit,hcur⟩
 ·exact grown none 0 (by omega) (by simp [Builtin.firstCells,flat])
 ·by_cases hroom:n+1<=cap
  ·have hsz:o+n*i.size+(elem i.size (f n)).length<=cur.size:=by
    rw [zam]
    have:(n+1)*i.size<=cap*i.size:=Nat.mul_le_mul_right i.size hroom
    rw [Nat.add_mul] at this; omega
   have hrun:=zbj (P:=P) w t ty e i ht hi g o n cap cur hg a c (elem i.size (f n)) (zam _ _) hnews' h1' hroom hsz
   refine ⟨_,_,hrun,fun g' hg'=>?_⟩
   simp [Value.ownBlock] at hg'
   subst hg'
   refine ⟨_,e,_,zbI hg,fun u hu=>?_⟩
   have hold:=hPv g cur e _ rfl hg
   simp only [List.mem_append] at hu
   rcases hu with (hu | hu) | hu
   ·exact hold u (List.mem_of_mem_take hu)
   ·exact hPe u hu
   ·exact hold u (List.mem_of_mem_drop hu)
  ·have hcap:cap=n:=by omega
   subst hcap
   have hold:(Builtin.firstCells i.size cap (.slice (some ⟨g,o,none⟩) cap cap)).run P w.drew=.ok (flat i.size f cap).toArray w.drew:=by
    refine run_firstCells_some (P:=P) w.drew i.size cap ⟨g,o,none⟩ cap cap (flat i.size f cap) (zal _ _ _) fun j u hu=>?_
    have hj:j<cap*i.size:=by have:=(List.getElem?_eq_some_iff.1 hu).1; rwa [zal] at this
    have e1:j / i.size<cap:=Nat.div_lt_of_lt_mul (by rw [Nat.mul_comm]; exact hj)
    have e2:j % i.size<i.size:=Nat.mod_lt _ hs
    have e3:j / i.size*i.size+j % i.size=j:=Nat.div_add_mod' j i.size
    have:=zb9 (f:=f) hs e1 e2
    rw [e3,hu] at this
    injection this with this
    subst this
    have:=hcur _ e1 _ e2
    have hadd:(⟨g,o,none⟩:Addr).add j=⟨g,o+j,none⟩:=by unfold Addr.add; split <;> simp_all
    rw [hadd]
    show w.cell? ⟨g,o+j,none⟩=_
    rw [cell_of_row w g _ cur e (0,0) hg,<-this]
    congr 1; omega
   exact grown (some ⟨g,o,none⟩) cap (by omega) hold
end
def NatOwn (w:World) (base:Nat) (v:Value) (k:Nat) (x:Nat->Nat):Prop :=
 ∃ f:Nat->Nat->Value,Own w base 47 1 v k f/\(∀ g,v.ownBlock=some g->NoInt w g)/\∀ i,i<k->∃ A c,f i 0=.slice A (dl (x i)) c/\NatOk w w.heap.size A (x i)/\dl (x i)<=c/\c<=maxLen
theorem NatOwn.nil (w:World) (base:Nat) (x:Nat->Nat):NatOwn w base (.slice none 0 0) 0 x:=⟨fun _ _=>undef,.inl ⟨rfl,rfl⟩,fun g h=>by simp [Value.ownBlock] at h,fun i hi=>by omega⟩
theorem NatOwn.on {w w':World} {base k:Nat} {v:Value} {x:Nat->Nat} (h:NatOwn w base v k x) (hb:Below w.heap.size w w'):NatOwn w' base v k x:=by
 obtain ⟨f,h1,h2,h3⟩:=h
 refine ⟨f,h1.on hb,fun g hg j n hj=>?_,fun i hi=>?_⟩
 ·have hlt:=(h1.lt g hg).2
  exact h2 g hg j n (by rw [<-hb.cell (p:=⟨g,j,none⟩) hlt]; exact hj)
 ·obtain ⟨A,c,e0,n1,h4⟩:=h3 i hi
  exact ⟨A,c,e0,n1.on hb,h4⟩
theorem NatOwn.tab {w:World} {base k:Nat} {v:Value} {x:Nat->Nat} (h:NatOwn w base v k x):∃ A c,v=.slice A k c/\k<=c/\c<=maxLen/\NatTab w w.heap.size A k x:=by
 obtain ⟨f,h1,_,h3⟩:=h
 obtain ⟨A,c,rfl⟩:=h1.shape
 have hc:k<=c/\c<=maxLen:=by
  rcases h1 with ⟨e1,e2⟩ | ⟨g1,o1,cap,cur,e1,_,_,h3,h4,_⟩
  ·injection e1 with _ _ e3; subst e3; exact ⟨by omega,by unfold maxLen; omega⟩
  ·injection e1 with _ _ e3; subst e3; exact ⟨h3,h4⟩
 refine ⟨A,c,rfl,hc.1,hc.2,fun i hi=>?_⟩
 obtain ⟨b,off,e,hb,hcell⟩:=h1.rd rfl i hi
 obtain ⟨B,d,e0,n1,n2,n3⟩:=h3 i hi
 have hc0:=hcell 0 (by omega)
 rw [Nat.mul_one,Nat.add_zero,e0] at hc0
 exact ⟨b,off,B,d,e,hb,hc0,n2,n3,n1⟩
theorem Tryz.infoNat:(Tryz.prog.info? 47).map (fun i=>(i.zero,i.size,i.bytes))=some (some (.slice none 0 0),1,24):=by kernel_rfl
theorem zd2 (w:World) (ty:TypeId) (base:Nat) (v:Value) (k:Nat) (x:Nat->Nat) (h:NatOwn w base v k x) (hbase:base<=w.heap.size) (hk:k<=1048576)
  (b c:Nat) (A:Option Addr) (d:Nat) (y:Nat) (hr:x k=y)
  (c0:w.cell? ⟨b,0,none⟩=some (.slice A (dl y) d)) (m1:NatOk w w.heap.size A y) (m3:dl y<=d) (m4:d<=maxLen) :
  ∃ v' w',(Builtin.append_ #[107, 107] ty #[v,.slice (some ⟨b,0,none⟩) 1 c]).run Tryz.prog w=.ok v' w'/\NatOwn w' base v' (k+1) x/\w.grownBy w' v.ownBlock/\(∀ g,v.ownBlock=some g->base<=g):=by
 subst hr
 obtain ⟨f,hown,hni,hf⟩:=h
 obtain ⟨i,hi,hzz⟩:=Option.map_eq_some_iff.1 Tryz.infoNat
 simp only [Prod.mk.injEq] at hzz
 obtain ⟨hz,hs,hb⟩:=hzz
 let f':Nat->Nat->Value:=fun i j=>if i<k then (if j<1 then f i 0 else undef) else .slice A (dl (x k)) d
 have hown':Own w base 47 1 v k f':=hown.congr fun i hi j hj=>by
  obtain rfl:j=0:=by omega
  simp [f',hi]
 have hnews:∀ j,j<1->w.cell? ((⟨b,0,none⟩:Addr).add j)=some (f' k j):=fun j hj=>by
  obtain rfl:j=0:=by omega
  have:(⟨b,0,none⟩:Addr).add 0=⟨b,0,none⟩:=by unfold Addr.add; split <;> simp_all
  rw [this]
  simpa [f'] using c0
 have h1:∀ j,j<1->(f' k j).oneCell'=true:=fun j hj=>by simp [f']; rfl
 obtain ⟨v1,w1,e1,o1,g1,a1,_⟩:=zbA (P:=Tryz.prog) w base 107 ty 47 i _ 1 24 Tryz.underlying107 hi hz hs hb rfl (by omega) v k f' hown' ⟨b,0,none⟩ c hnews h1 (by unfold maxLen; omega) (by omega) hbase
 obtain ⟨v2,w2,e2,hcells⟩:=zbO (P:=Tryz.prog) w (fun u=>∀ n,u≠.int .u32 n) base 107 ty 47 i _ 1 24 Tryz.underlying107 hi hz hs hb (by omega) v k f' hown' ⟨b,0,none⟩ c hnews h1 (by unfold maxLen; omega) (by omega)
  (fun u hu n e=>by
   have hu:u ∈ [Value.slice none 0 0]:=hu
   rw [e] at hu; simp at hu)
  (fun i j hi hj n=>by
   obtain rfl:j=0:=by omega
   by_cases e:i<k
   ·obtain ⟨B,x,e0,_⟩:=hf i e
    simp [f',e,e0]
   ·simp [f',e])
  (fun g c' e' fr hg hh=>zdd hh (hni g hg))
 rw [e1] at e2
 injection e2 with e2 e3
 subst e2 e3
 have nat:∀ A' y,NatOk w w.heap.size A' y->NatOk w1 w1.heap.size A' y:=fun A' y hx=>by
  have:=zcI hx (Nat.le_refl _) g1 (fun g hg=>hni g hg)
  intro q hq
  obtain ⟨b',o',e,h1,h2⟩:=this q hq
  exact ⟨b',o',e,Nat.lt_of_lt_of_le h1 g1.size,h2⟩
 refine ⟨v1,w1,e1,⟨f',o1,fun g hg=>?_,fun i hi=>?_⟩,g1,fun g hg=>(hown.lt g hg).1⟩
 ·obtain ⟨c',e',fr,hh,hu⟩:=hcells g hg
  exact zgK hh hu
 ·by_cases e:i<k
  ·obtain ⟨B,z,e0,n1,h4⟩:=hf i e
   exact ⟨B,z,by simp [f',e,e0],nat _ _ n1,h4⟩
  ·obtain rfl:i=k:=by omega
   exact ⟨A,d,by simp [f'],nat _ _ m1,m3,m4⟩
theorem zc0 {w:World} {ops:Array Oper} {rest:List Oper} {o:Oper} {a:Act} {Q:Exit->Act->World->Prop} (hgd:o.guard=none) (sl x:Operand)
  (ho:o.op=.call { callee:=.builtin .append,args:=#[sl,x],argTypes:=#[107, 107] })
  (base:Nat) (v:Value) (k:Nat) (xs:Nat->Nat) (hv:a.eval sl=v) (h:NatOwn w base v k xs) (hbase:base<=w.heap.size) (hk:k<=1048576)
  (b c:Nat) (hx:a.eval x=.slice (some ⟨b,0,none⟩) 1 c) (A:Option Addr) (d:Nat) (y:Nat) (hr:xs k=y)
  (c0:w.cell? ⟨b,0,none⟩=some (.slice A (dl y) d)) (m1:NatOk w w.heap.size A y) (m3:dl y<=d) (m4:d<=maxLen)
  (hK:∀ v' w',NatOwn w' base v' (k+1) xs->Below base w w'->wpList Tryz.prog ops Q rest (a.put o.dst v') w'):wpList Tryz.prog ops Q (o :: rest) a w:=by
 refine wpList_plain hgd fun K hK'=>?_
 obtain ⟨v',w',hrun,h2,h3,h4⟩:=zd2 w o.type base v k xs h hbase hk b c A d y hr c0 m1 m3 m4
 unfold Oper.wp execOp
 simp only [ho,resolve,invoke,builtin,Sem.run_bind,Sem.run_pure,Result.andThen_ok,List.map_toArray,List.map_cons,List.map_nil,hv,hx,hrun]
 exact hK' _ _ (hK v' w' h2 ((Below.refl base w).grown h3 hbase h4))
theorem zgL {f o:Nat->Nat} {n k b r:Nat} (hk:k<n) (hv1:hv f (k+1) n=b*hv o (k+1) n+r) :
  hv f k n=b*hv (upd o k ((r*4294967296+f k) / b)) k n+(r*4294967296+f k) % b:=by
 rw [zgr hk,zgr hk,zaI,zgs (g:=o) (fun j h1 _=>zap (by omega)),hv1]
 have:=Nat.div_add_mod (r*4294967296+f k) b
 generalize (r*4294967296+f k) / b=q at *
 generalize (r*4294967296+f k) % b=s at *
 grind
theorem zja {r b x:Nat} (hr:r<b) (hx:x<4294967296):(r*4294967296+x) / b<4294967296:=by
 refine Nat.div_lt_of_lt_mul ?_
 have:(r+1)*4294967296<=b*4294967296:=Nat.mul_le_mul_right _ hr
 omega
theorem ze6 {r x:Nat} (hr:r<4294967296) (hx:x<4294967296):bits .or .u64 ((r:Int)*4294967296) (x:Int)=((r*4294967296+x:Nat):Int):=by
 have h:=bits_or_u64_nat (r*4294967296) x (by omega) (by omega)
 rw [Int.natCast_mul] at h
 rw [show ((4294967296:Nat):Int)=4294967296 from rfl] at h
 rw [h]
 have e:=Nat.two_pow_add_eq_or_of_lt (i:=32) (b:=x) hx r
 rw [show (2:Nat) ^ 32=4294967296 from rfl,Nat.mul_comm] at e
 rw [<-e]
def DigitPost (x b:Nat) (w:World) (e:Ending) (w':World):Prop :=
 ∃ A c,e=.returned (.tuple #[.slice A (dl (x / b)) c,.int .u32 (x % b:Nat)])/\dl (x / b)<=c/\c<=maxLen/\NatOk w' w'.heap.size A (x / b)/\Below w.heap.size w w'
theorem zd3 (A:Option Addr) (n c b:Nat) (f:Nat->Nat) (w:World) (h:Lims w w.heap.size A n f) (hf:Hid (∀ i,i<n->f i<4294967296)) (hn:n<=536870912) (hb0:0<b) (hb1:b<4294967296) :
  Calls Tryz.prog 215 #[.slice A n c,.int .u32 (b:Nat)] w (DigitPost (nv f n) b w):=by
 have hmk:=fun W=>zau (P:=Tryz.prog) 47 110 _ 4 Tryz.underlying47 Tryz.infoU32 rfl (n:Int) (by omega) (by omega) (by omega) W
 have hrow0:=World.rowIs_made w (.int .u32 0) n 110
 go_enter Tryz.func215, Tryz.ntmps215
 go_wp2
 go_loopg [8,7] n (fun gg iv rv wx=>∃ k r:Nat,∃ o:Nat->Nat,iv=.int .i64 ((k:Nat) - 1:Int)/\rv=.int .u64 (r:Nat)/\k<=n/\k<=gg/\r<b/\Below w.heap.size w wx/\wx.rowIs w.heap.size 110 n (fun i=>.int .u32 (o i:Nat))/\Hid (∀ i,o i<4294967296)/\Hid (hv f k n=b*hv o k n+r))
 case atStart=>exact ⟨n,0,fun _=>0,rfl,rfl,by omega,by omega,hb0,(Below.refl _ _).alloc (Nat.le_refl _) _,hrow0,hid fun _=>by show 0<_; omega,hid (by rw [ziT,ziT]; rfl)⟩
 case round =>
  clear hrow0 hmk
  obtain ⟨k,r,o,rfl,rfl,hk,hkg,hr,hB,hrow,HO,HV⟩:=hrel
  have hz:=hrow.lt
  by_cases h0:0<k
  ·obtain ⟨k,rfl⟩:∃ k',k=k'+1:=⟨k - 1,by omega⟩
   have ek:(((k+1:Nat):Int) - 1)=(k:Int):=by omega
   rw [ek]
   obtain ⟨b1,o1,rfl,hb2,e0⟩:=(h.on hB).at (i:=k) (by omega)
   have q1:=hf.out k (by omega)
   have hlt':(k:Int)<(n:Int):=by omega
   have y0:=hrow.cell (i:=k) (by omega)
   have z0:=hrow.frozen k
   have K1:=hid (zgL (show k<n by omega) HV.out)
   obtain ⟨x,hx⟩:∃ x,x=f k:=⟨_,rfl⟩
   rw [<-hx] at e0 q1 K1
   have K4:=hid (zja hr q1)
   obtain ⟨t,ht⟩:∃ t,t=r*4294967296+x:=⟨_,rfl⟩
   have hor:bits .or .u64 ((r:Int)*4294967296) (x:Int)=(t:Int):=by rw [ht]; exact ze6 (by omega) q1
   rw [<-ht] at K1 K4
   obtain ⟨q,hq⟩:∃ q,q=t / b:=⟨_,rfl⟩
   obtain ⟨s,hs⟩:∃ s,s=t % b:=⟨_,rfl⟩
   have hsb:s<b:=by rw [hs]; exact Nat.mod_lt _ hb0
   have hq1:(t:Int).tdiv (b:Int)=(q:Int):=by rw [hq,Int.tdiv_eq_ediv_of_nonneg (by omega)]; rfl
   have hs1:(t:Int).tmod (b:Int)=(s:Int):=by rw [hs,Int.tmod_eq_emod_of_nonneg (by omega)]; rfl
   rw [<-hq,<-hs] at K1;rw [<-hq] at K4
   have hqb:=K4.out
   have hwq:IntKind.u64.wrap (q:Int)=(q:Int):=IntWalk.u64_in _ (by omega)
   have hwm:(q:Int) % 4294967296=(q:Int):=by omega
   have K2:Hid ((wr.setCell ⟨w.heap.size,k,none⟩ (.int .u32 (q:Nat))).rowIs w.heap.size 110 n (fun i=>.int .u32 (upd o k q i:Nat))):=by
    refine (hrow.set k _).congr fun i _=>?_
    unfold upd
    by_cases e:i=k
    ·rw [if_pos e,if_pos e]
    ·rw [if_neg e,if_neg e]
   have K3:Hid (∀ i,upd o k q i<4294967296):=fun i=>by
    unfold upd
    split
    ·exact hqb
    ·exact HO.out i
   have hbne:((b:Int) == 0)=false:=by simp; omega
   clear hx ek hq hs ht
   go_wp2
   go_roundg (gk - 1)
   case measure=>omega
   case rel=>exact ⟨k,s,_,rfl,rfl,by omega,by omega,hsb,hB.setCell (Nat.le_refl _) _,K2.out,K3,K1⟩
  ·obtain rfl:k=0:=by omega
   have HQ:Hid (nv f n / b=nv o n/\nv f n % b=r):=by
    have:=HV.out
    rw [ziU,ziU] at this
    show _/\_
    rw [this]
    exact ⟨by rw [Nat.mul_add_div hb0,Nat.div_eq_of_lt hr,Nat.add_zero],by rw [Nat.mul_add_mod,Nat.mod_eq_of_lt hr]⟩
   have hob:Hid (∀ i,i<n->o i<4294967296):=fun i _=>HO.out i
   have hr2:((r:Int) % 4294967296)=r:=by omega
   go_wp2_with fail
   refine (zbk (some ⟨w.heap.size,0,none⟩) n n o wr (zbq hrow) hob (Nat.le_refl _) (by unfold maxLen; omega)).mono ?_
   rintro e w1 ⟨rfl,hR,rfl⟩
   rw [<-HQ.out.1] at hR ⊢
   have hdl:dl (nv f n / b)<=n:=by rw [HQ.out.1]; exact zdO (zeX hob.out)
   clear hrow HO HV
   go_wp2
   go_ret2
   exact ⟨_,_,by rw [HQ.out.2]; rfl,Nat.le_refl _,by unfold maxLen; omega,hR,hB⟩
theorem zgM (n:Int):bits .and .i64 n 1=n % 2:=by
 have h1:(BitVec.ofInt 64 1).toNat=2 ^ 1 - 1:=by decide
 have key:(BitVec.ofInt 64 n &&& BitVec.ofInt 64 1).toNat=(n % ((2 ^ 64:Nat):Int)).toNat % 2 ^ 1:=by
  rw [BitVec.toNat_and,BitVec.toNat_ofInt,h1,Nat.and_two_pow_sub_one_eq_mod]
 show IntKind.i64.wrap ((BitVec.ofInt 64 n &&& BitVec.ofInt 64 1).toNat:Nat)=n % 2
 rw [key,IntKind.wrap_i64]
 omega
theorem zab (X:World) (o:Obj):Below X.heap.size X (X.alloc o):=(Below.refl _ _).alloc (Nat.le_refl _) _
def NatOkPost (x:Nat) (w:World) (e:Ending) (w':World):Prop :=
 ∃ A c,e=.returned (.tuple #[.slice A (dl x) c,.int .i64 0])/\dl x<=c/\c<=maxLen/\NatOk w' w'.heap.size A x/\Below w.heap.size w w'
theorem zj3 {o s x n k:Nat} (h:o*s ^ k=x ^ n) (hk:k % 2=1):o*s*(s*s) ^ (k / 2)=x ^ n:=by
 rw [<-h,<-Nat.pow_two,<-Nat.pow_mul,Nat.mul_assoc,<-Nat.pow_add_one']
 congr 2
 omega
theorem zjb {o s x n k:Nat} (h:o*s ^ k=x ^ n) (hk:k % 2=0):o*(s*s) ^ (k / 2)=x ^ n:=by
 rw [<-h,<-Nat.pow_two,<-Nat.pow_mul]
 congr 2
 omega
theorem zgN {o s x n k:Nat} (h:o*s ^ k=x ^ n) (hk:0<k) (hx:0<x):o<=x ^ n/\s<=x ^ n:=by
 have hp:0<x ^ n:=Nat.pow_pos hx
 have ho:0<o:=by
  rcases Nat.eq_zero_or_pos o with e | e
  ·rw [e] at h; simp at h; omega
  ·exact e
 have hs:0<s:=by
  rcases Nat.eq_zero_or_pos s with e | e
  ·rw [e,Nat.zero_pow hk] at h; simp at h; omega
  ·exact e
 constructor
 ·rw [<-h]; exact Nat.le_mul_of_pos_right _ (Nat.pow_pos hs)
 ·rw [<-h]
  have h1:s<=s ^ k:=Nat.le_self_pow (by omega) s
  exact Nat.le_trans h1 (Nat.le_mul_of_pos_left _ ho)
theorem zgO (A:Option Addr) (c x n:Nat) (w:World) (h:NatOk w w.heap.size A x) (hc:dl x<=c) (hm:c<=maxLen) (hn:dl x<=1048576) (hnn:n<=131072) (hsz:nlen x<=1∨(nlen x - 1)*n<131072) (hbig:dl (x ^ n)<=4096) :
  Calls Tryz.prog 120 #[.slice A (dl x) c,.int .i64 (n:Nat)] w (NatOkPost (x ^ n) w):=by
 have hone:=zaQ (w:=w) 110 (x:=1) (by omega) (by omega)
 have d1:=hid (zbr (x:=1) (by omega) (by omega))
 go_enter Tryz.func120, Tryz.ntmps120
 go_wp2_with fail
 refine (zfX A c x w h hc hm (by omega)).mono ?_
 rintro e w1 ⟨rfl,rfl⟩
 have hlb:nlen x<=33554432:=by
  by_cases e:x=0
  ·rw [e,zar]; omega
  ·have:=zey e
   have:=zci (x:=dg x (dl x - 1)) (k:=32) (zes _ _)
   omega
 by_cases h0:n=0
 ·subst h0
  have H:=hid (show x ^ 0=1 from Nat.pow_zero x)
  go_wp2
  go_ret2
  exact ⟨_,1,by rw [H.out,d1.out]; rfl,by rw [H.out,d1.out]; omega,by unfold maxLen; omega,by rw [H.out]; exact hone,(Below.refl _ _).alloc (Nat.le_refl _) _⟩
 ·have n0 : ((n : Int) == 0) = false := by simp; omega
  by_cases h1:x=1
  ·have H:=hid (show x ^ n=1 by rw [h1]; exact Nat.one_pow n)
   have hl:nlen x=1:=zcB.2 h1
   rw [hl];clear hl h1
   go_wp2
   go_ret2
   exact ⟨_,1,by rw [H.out,d1.out]; rfl,by rw [H.out,d1.out]; omega,by unfold maxLen; omega,by rw [H.out]; exact hone,(Below.refl _ _).alloc (Nat.le_refl _) _⟩
  ·by_cases h2:x=0
   ·have H:=hid (show x ^ n=0 by rw [h2]; exact Nat.zero_pow (by omega))
    have hl:nlen x=0:=zaB.2 h2
    rw [hl];clear hl h1 h2
    go_wp2
    go_ret2
    exact ⟨none,0,by rw [H.out,zas]; rfl,by rw [H.out,zas]; omega,by unfold maxLen; omega,by rw [H.out]; exact fun i hi=>absurd hi (by rw [zas]; omega),Below.refl _ _⟩
   ·have hl0:=mt zaB.1 h2
    have hl1:=mt zcB.1 h1
    have hx0:0<x:=by omega
    obtain ⟨l,hl⟩:∃ l,l=nlen x:=⟨_,rfl⟩
    rw [<-hl] at hl0 hl1 hsz hlb ⊢
    have hs1:(l - 1)*n<131072:=by omega
    have hs2:((l:Int) - 1)*(n:Int)=(((l - 1)*n:Nat):Int):=by rw [Int.natCast_mul]; congr 1; omega
    have hs3:(0:Int)<=((l:Int) - 1)*(n:Int):=by omega
    have hs4:((l:Int) - 1)*(n:Int)<131072:=by omega
    have l0:((l:Int) == 0)=false:=by simp; omega
    have l1:((l:Int) == 1)=false:=by simp; omega
    clear hl hs2 hs1 hsz hl0 hl1 h1 h2
    have hA1:=NatOk.on h (zab w (Obj.cells #[Value.int .u32 ((1:Nat):Int)] 110))
    go_wp2_with fail
    refine (zbd A c x _ hA1 hc hm).mono ?_
    rintro e w1 ⟨rfl,rfl⟩
    have HBG:=hid hbig
    have hBA:=zab w (Obj.cells #[Value.int .u32 ((1:Nat):Int)] 110)
    have hl4:dl x<=536870912:=by omega
    go_wp2
    go_loopg [1,7,8] n (fun gg nv ov sv wx=>∃ k o s:Nat,∃ Ao co As cs,nv=.int .i64 (k:Nat)/\ov=.slice Ao (dl o) co/\sv=.slice As (dl s) cs/\0<k/\k<=gg/\k<=n/\Hid (o*s ^ k=x ^ n)/\(dl o<=co/\co<=maxLen)/\NatOk wx wx.heap.size Ao o/\NatOk wx wx.heap.size As s/\Below w.heap.size w wx)
    case atStart=>exact ⟨n,1,x,_,1,A,dl x,rfl,by rw [d1.out],rfl,by omega,by omega,by omega,hid (Nat.one_mul _),⟨by rw [d1.out]; omega,by unfold maxLen; omega⟩,hone,hA1,hBA⟩
    case round =>
     clear hone hA1 hBA h
     obtain ⟨k,o,s,Ao,co,As,cs,rfl,rfl,rfl,hk,hkg,hkn,HV,⟨ho1,ho2⟩,hAo,hAs,hB⟩:=hrel
     obtain ⟨hb1,hb2⟩:=zgN HV.out hk hx0
     have hdo:dl o<=536870912:=by have:=zaw hb1; have:=HBG.out; omega
     have hds:dl s<=536870912:=by have:=zaw hb2; have:=HBG.out; omega
     clear hb1 hb2
     have hk2:((k:Int) / 2)=((k / 2:Nat):Int):=by omega
     have HK2:=hid hk2
     clear hk2
     by_cases hpar:k % 2=1
     ·have ha:bits .and .i64 (k:Int) 1=1:=by rw [zgM]; omega
      by_cases h1:k=1
      ·subst h1
       have HE:Hid (o*s=x ^ n):=by have:=HV.out; rwa [Nat.pow_one] at this
       go_wp2_with fail
       refine (zbV Ao As co cs o s wr hAo hAs hdo hds).mono ?_
       rintro e w2 ⟨A2,c2,rfl,g1,g2,g3,g4⟩
       rw [HE.out] at g1 g3 ⊢
       have hB2:=onS hB g4
       have hbig4:((dl (x ^ n):Nat):Int)<=4096:=by have:=HBG.out; omega
       clear g4 hAo hAs hB
       go_wp2_with fail
       refine (zcc A2 c2 (x ^ n) w2 g3 g1 g2 (by omega)).mono ?_
       rintro e w3 ⟨A3,c3,rfl,f1,f2,f3,f4⟩
       have hB3:=onS hB2 f4
       clear f4
       go_wp2
       go_ret2
       exact ⟨A3,c3,rfl,f1,f2,f3,hB3⟩
      ·have hne:((k:Int) / 2 == 0)=false:=by simp; omega
       have HE:=hid (zj3 HV.out hpar)
       go_wp2_with fail
       refine (zbV Ao As co cs o s wr hAo hAs hdo hds).mono ?_
       rintro e w2 ⟨A2,c2,rfl,g1,g2,g3,g4⟩
       have hB2:=onS hB g4
       have hAs2:=hAs.on g4
       clear g4 hAo hAs hB
       go_wp2_with fail
       refine (zbV As As cs cs s s w2 hAs2 hAs2 hds hds).mono ?_
       rintro e w3 ⟨A3,c3,rfl,f1,f2,f3,f4⟩
       have hB3:=onS hB2 f4
       have g5:=g3.on f4
       clear f4 hAs2 hB2
       go_wp2
       go_roundg (gk - 1)
       case measure=>omega
       case rel=>exact ⟨k / 2,o*s,s*s,A2,c2,A3,c3,by rw [HK2.out],rfl,rfl,by omega,by omega,by omega,HE,⟨g1,g2⟩,g5,f3,hB3⟩
     ·have ha:bits .and .i64 (k:Int) 1=0:=by rw [zgM]; omega
      have hne:((k:Int) / 2 == 0)=false:=by simp; omega
      have HE:=hid (zjb HV.out (by omega))
      go_wp2_with fail
      refine (zbV As As cs cs s s wr hAs hAs hds hds).mono ?_
      rintro e w3 ⟨A3,c3,rfl,f1,f2,f3,f4⟩
      have hB3:=onS hB f4
      have g5:=hAo.on f4
      clear f4 hAs hB
      go_wp2
      go_roundg (gk - 1)
      case measure=>omega
      case rel=>exact ⟨k / 2,o,s*s,Ao,co,A3,c3,by rw [HK2.out],rfl,rfl,by omega,by omega,by omega,HE,⟨ho1,ho2⟩,g5,f3,hB3⟩
theorem zhY (A:Option Addr) (c x b:Nat) (w:World) (h:NatOk w w.heap.size A x) (hn:dl x<=536870912) (hb0:0<b) (hb1:b<4294967296) :
  Calls Tryz.prog 215 #[.slice A (dl x) c,.int .u32 (b:Nat)] w (DigitPost x b w):=by
 have:=zd3 A (dl x) c b (dg x) w h (za7 x) hn hb0 hb1
 rwa [zcg] at this
theorem zj4 (n k:Nat):chs n k*(n - k) / (k+1)=chs n (k+1):=by
 have h:=ziV n k
 rw [Nat.mul_comm,<-h]
 exact Nat.mul_div_cancel_left _ (by omega)
theorem zjc (n k:Nat) (hn:n<=4096):dl (chs n k)<=129:=by
 obtain ⟨e,he⟩:∃ e,e=129:=⟨_,rfl⟩
 rw [<-he]
 refine zdO (Nat.lt_of_le_of_lt (zgt n k) ?_)
 have h1:(2:Nat) ^ n<2 ^ (32*e):=Nat.pow_lt_pow_right (by omega) (by omega)
 rw [Nat.pow_mul] at h1
 exact h1
theorem ze7 (n k:Nat) (w:World) (hn:n<=4096) (hk:k<=n) :
  Calls Tryz.prog 152 #[.int .i64 (n:Nat),.int .i64 (k:Nat)] w (NatOkPost (chs n k) w):=by
 obtain ⟨m,hm,hme,hmc⟩:∃ m:Nat,m<=n/\min (k:Int) ((n:Int) - (k:Int))=(m:Int)/\chs n k=chs n m:=by
  by_cases h:k<=n - k
  ·exact ⟨k,hk,by omega,rfl⟩
  ·exact ⟨n - k,by omega,by omega,ziW hk⟩
 have hone:=zaQ (w:=w) 110 (x:=1) (by omega) (by omega)
 have d1:=hid (zbr (x:=1) (by omega) (by omega))
 have c0:=hid (zcb n)
 have HMC:=hid hmc
 clear hmc
 have b1:decide ((n:Int)<0)=false:=by simp
 have b2:decide ((4096:Int)<(n:Int))=false:=by simp; omega
 have b3:decide ((k:Int)<0)=false:=by simp
 have b4:decide (n<k)=false:=by simp; omega
 go_enter Tryz.func152, Tryz.ntmps152
 go_wp2
 go_loopg [27,6] m (fun gg iv ov wx=>∃ i:Nat,∃ A c,iv=.int .i64 (i:Nat)/\ov=.slice A (dl (chs n i)) c/\i<=m/\m<=i+gg/\dl (chs n i)<=c/\c<=maxLen/\NatOk wx wx.heap.size A (chs n i)/\Below w.heap.size w wx)
 case atStart=>exact ⟨0,_,1,rfl,by rw [c0.out,d1.out],by omega,by omega,by rw [c0.out,d1.out]; omega,by unfold maxLen; omega,by rw [c0.out]; exact hone,(Below.refl _ _).alloc (Nat.le_refl _) _⟩
 case round =>
  clear hone
  obtain ⟨i,A,c,rfl,rfl,hi,hig,hc,hcm,hA,hB⟩:=hrel
  have hd:=zjc n i hn
  by_cases hlt:i<m
  ·have e1:((n - i:Nat):Int)=(n:Int) - (i:Int):=by omega
   have h1:=zaQ (w:=wr) 110 (x:=n - i) (by omega) (by omega)
   have hd1:=zbr (x:=n - i) (by omega) (by omega)
   rw [e1] at h1
   have hA1:=hA.on (zab wr (Obj.cells #[Value.int .u32 ((n:Int) - (i:Int))] 110))
   have hB1:=hB.alloc hB.size (Obj.cells #[Value.int .u32 ((n:Int) - (i:Int))] 110)
   have CT:=fun W=>zbV A (some ⟨wr.heap.size,0,none⟩) c 1 (chs n i) (n - i) W
   rw [hd1] at CT
   have CD:=fun A c x W (h:NatOk W W.heap.size A x) (hx:dl x<=536870912)=>zhY A c x (i+1) W h hx (by omega) (by omega)
   have HD:=hid (zj4 n i)
   have HDS:Hid (dl (chs n i*(n - i))<=536870912):=by
    have h2:=zaT (chs n i)
    have h3:(4294967296:Nat) ^ dl (chs n i)<=4294967296 ^ 129:=Nat.pow_le_pow_right (by omega) hd
    have h4:chs n i*(n - i)<4294967296 ^ 130:=by
     rw [Nat.pow_succ]
     exact Nat.lt_of_lt_of_le (Nat.mul_lt_mul_of_lt_of_le (Nat.lt_of_lt_of_le h2 h3) (show n - i<=4294967296 by omega) (by omega)) (Nat.le_refl _)
    have:=zdO h4
    show _<=_
    omega
   clear e1 hd1 hA hB
   go_wp2_with fail
   refine (CT _ hA1 h1 (by omega) (by omega)).mono ?_
   rintro e w2 ⟨A2,c2,rfl,g1,g2,g3,g4⟩
   have hB2:=onS hB1 g4
   clear g4 CT hA1 h1 hB1
   go_wp2_with fail
   refine (CD A2 c2 _ w2 g3 HDS.out).mono ?_
   rintro e w3 ⟨A3,c3,rfl,f1,f2,f3,f4⟩
   rw [HD.out] at f1 f3 ⊢
   have hB3:=onS hB2 f4
   clear f4 CD g3
   go_wp2
   go_roundg (gk - 1)
   case measure=>omega
   case rel=>exact ⟨i+1,A3,c3,by go_num,rfl,by omega,by omega,f1,f2,f3,hB3⟩
  ·obtain rfl:i=m:=by omega
   go_wp2_with fail
   refine (zcc A c (chs n i) wr hA hc hcm (by omega)).mono ?_
   rintro e w1 ⟨A',c',rfl,g1,g2,g3,g4⟩
   have hB2:=onS hB g4
   clear g4
   go_wp2
   go_ret2
   exact ⟨A',c',by rw [HMC.out]; rfl,by rw [HMC.out]; exact g1,g2,by rw [HMC.out]; exact g3,hB2⟩
theorem zj5 {x n d:Nat}:x ^ (n / (2*d))*x ^ (n / (2*d))*(if n / d % 2=1 then x else 1)=x ^ (n / d):=by
 have e:n / (2*d)=n / d / 2:=by rw [Nat.div_div_eq_div_mul,Nat.mul_comm d 2]
 rw [e,<-Nat.pow_add]
 split
 ·rename_i h
  rw [<-Nat.pow_succ]
  congr 1
  omega
 ·rw [Nat.mul_one]
  congr 1
  omega
theorem zj6 (A:Option Addr) (c x n:Nat) (w:World) (h:NatOk w w.heap.size A x) (hc:dl x<=c) (hm:c<=maxLen) (hn:dl x<=1048576) (hnn:n<=131072) (hbig:dl (x ^ n)<=4096) :
  Calls Tryz.prog 196 #[.slice A (dl x) c,.int .i64 (n:Nat)] w (NatOkPost (x ^ n) w):=by
 have d1:=hid (zbr (x:=1) (by omega) (by omega))
 go_enter Tryz.func196, Tryz.ntmps196
 go_wp2_with fail
 refine (zcD A c x w h hc hm (by omega)).mono ?_
 rintro e w1 ⟨A1,c1,rfl,f1,f2,f3,f4⟩
 have hone:=zaQ (w:=w1) 110 (x:=1) (by omega) (by omega)
 clear h
 by_cases h0:n=0
 ·subst h0
  have H:=hid (show x ^ 0=1 from Nat.pow_zero x)
  go_wp2
  go_ret2
  exact ⟨_,1,by rw [H.out,d1.out]; rfl,by rw [H.out,d1.out]; omega,by unfold maxLen; omega,by rw [H.out]; exact hone,f4.alloc f4.size _⟩
 ·have n0 : ((n : Int) == 0) = false := by simp; omega
  go_wp2_with fail
  refine (zfZ A1 c1 x w1 f3 f1 f2 (by omega)).mono ?_
  rintro e w2 ⟨rfl,g4⟩
  have hB2:=onS f4 g4
  have hx2:=f3.on g4
  clear hone f3 g4 f4
  by_cases hl:nlen x<=1
  ·have H:=hid (show x ^ n=x by
    by_cases e:x=0
    ·rw [e]; exact Nat.zero_pow (by omega)
    ·have:nlen x≠0:=mt zaB.1 e
     have:x=1:=zcB.1 (by omega)
     rw [this]; exact Nat.one_pow n)
   have hl2:((nlen x:Nat):Int)<=1:=by omega
   go_wp2
   go_ret2
   exact ⟨A1,c1,by rw [H.out]; rfl,by rw [H.out]; exact f1,f2,by rw [H.out]; exact hx2,hB2⟩
  ·have hl2:¬ ((nlen x:Nat):Int)<=1:=by omega
   have hx0:0<x:=by
    rcases Nat.eq_zero_or_pos x with e | e
    ·rw [e,zar] at hl; omega
    ·exact e
   have HBG:=hid hbig
   have hone2:=zaQ (w:=w2) 110 (x:=1) (by omega) (by omega)
   have hx3:=hx2.on (zab w2 (Obj.cells #[Value.int .u32 ((1:Nat):Int)] 110))
   have hB3:=hB2.alloc hB2.size (Obj.cells #[Value.int .u32 ((1:Nat):Int)] 110)
   have HS:Hid (x ^ (n / (2*262144))=1):=by show _=_; rw [Nat.div_eq_of_lt (by omega),Nat.pow_zero]
   go_wp2
   go_loopg [7,6] 20 (fun gg dv ov wx=>∃ d j o:Nat,∃ Ao co,dv=.int .i64 (d:Nat)/\ov=.slice Ao (dl o) co/\Hid ((d=0/\o=x ^ n/\0<=gg)∨(d=2 ^ j/\j+1<=gg/\o=x ^ (n / (2*d))))/\d<=262144/\dl o<=4096/\dl o<=co/\co<=maxLen/\NatOk wx wx.heap.size Ao o/\NatOk wx wx.heap.size A1 x/\Below w.heap.size w wx)
   case atStart=>exact ⟨262144,18,1,_,1,rfl,by rw [d1.out],hid (.inr ⟨by decide,by omega,HS.out.symm⟩),by omega,by rw [d1.out]; omega,by rw [d1.out]; omega,by unfold maxLen; omega,hone2,hx3,hB3⟩
   case round =>
    clear hone2 hx3 hB3 hB2 hx2 HS
    obtain ⟨d,j,o,Ao,co,rfl,rfl,HJ,hd,hdo,ho1,ho2,hAo,hAx,hB⟩:=hrel
    by_cases hd0:d=0
    ·have HO:Hid (o=x ^ n):=by
      rcases HJ.out with ⟨_,e,_⟩ | ⟨e,_⟩
      ·exact e
      ·have:0<2 ^ j:=Nat.pow_pos (by omega)
       exfalso; omega
     subst hd0
     go_wp2
     go_ret2
     exact ⟨Ao,co,by rw [<-HO.out]; rfl,by rw [<-HO.out]; exact ho1,ho2,by rw [<-HO.out]; exact hAo,hB⟩
    ·have HJ2:Hid (d=2 ^ j/\j+1<=gk/\o=x ^ (n / (2*d))):=by
      rcases HJ.out with ⟨e,_⟩ | e
      ·exact absurd e hd0
      ·exact e
     have hgk:0<gk:=by have:=HJ2.out.2.1; omega
     have hdp:(0:Int)<(d:Int):=by omega
     obtain ⟨q,hq⟩:∃ q,q=n / d:=⟨_,rfl⟩
     have hq1:(n:Int).tdiv (d:Int)=(q:Int):=by rw [hq,Int.tdiv_eq_ediv_of_nonneg (by omega)]; rfl
     have hqn:q<=n:=by rw [hq]; exact Nat.div_le_self _ _
     have hwq:IntKind.i64.wrap (q:Int)=(q:Int):=IntWalk.i64_in _ (by omega)
     have hdne:((d:Int) == 0)=false:=by simp; omega
     have HQ:=hid hq
     have hle:Hid (x ^ q<=x ^ n):=Nat.pow_le_pow_right hx0 hqn
     have hdq:dl (x ^ q)<=4096:=by have:=zaw hle.out; have:=HBG.out; omega
     have HB2:Hid (∀ oo:Nat,oo=x ^ q->∃ j',(d / 2=0/\oo=x ^ n/\0<=gk - 1)∨(d / 2=2 ^ j'/\j'+1<=gk - 1/\oo=x ^ (n / (2*(d / 2))))):=fun oo hoo=>by
      obtain ⟨e1,e2,_⟩:=HJ2.out
      cases j with
      | zero =>
       rw [Nat.pow_zero] at e1
       refine ⟨0,.inl ⟨by omega,?_,by omega⟩⟩
       rw [hoo,HQ.out,e1,Nat.div_one]
      | succ j =>
       rw [Nat.pow_succ] at e1
       refine ⟨j,.inr ⟨by omega,by omega,?_⟩⟩
       rw [hoo,HQ.out,show 2*(d / 2)=d by omega]
     have hd2:((d:Int) / 2)=((d / 2:Nat):Int):=by omega
     have HD2:=hid hd2
     have HP:Hid (o*o*(if q % 2=1 then x else 1)=x ^ q):=by
      have:=zj5 (x:=x) (n:=n) (d:=d)
      rw [<-HJ2.out.2.2,<-HQ.out] at this
      exact this
     clear hq hd2
     go_wp2_with fail
     refine (zbJ Ao Ao co co o o wr hAo hAo (by omega) (by omega)).mono ?_
     rintro e w3 ⟨A3,c3,rfl,g1,g2,g3,g4⟩
     have hB3:=onS hB g4
     have hAx3:=hAx.on g4
     clear hAo hAx g4 hB
     by_cases hpar:q % 2=1
     ·have hp1:(q:Int) % 2=1:=by omega
      have hp2:(q:Int).tmod 2=1:=by rw [Int.tmod_eq_emod_of_nonneg (by omega)]; exact hp1
      have HE:Hid (o*o*x=x ^ q):=by have:=HP.out; rwa [if_pos hpar] at this
      have hdoo:dl (o*o)<=536870912:=by
       have h1:o*o<=o*o*x:=Nat.le_mul_of_pos_right _ hx0
       rw [HE.out] at h1
       have:=zaw h1
       omega
      go_wp2_with fail
      refine (zbJ A3 A1 c3 c1 (o*o) x w3 g3 hAx3 hdoo (by omega)).mono ?_
      rintro e w4 ⟨A4,c4,rfl,k1,k2,k3,k4⟩
      rw [HE.out] at k1 k3 ⊢
      have hB4:=onS hB3 k4
      have hAx4:=hAx3.on k4
      have hdq':((dl (x ^ q):Nat):Int)<=4096:=by omega
      obtain ⟨j',hj'⟩:=HB2.out _ rfl
      have HJ':=hid hj'
      clear hj' g3 hAx3 k4 hB3
      go_wp2
      go_roundg (gk - 1)
      case measure=>omega
      case rel=>exact ⟨d / 2,j',x ^ q,A4,c4,by rw [HD2.out],rfl,HJ',by omega,hdq,k1,k2,k3,hAx4,hB4⟩
     ·have hp1:(q:Int) % 2=0:=by omega
      have hp2:(q:Int).tmod 2=0:=by rw [Int.tmod_eq_emod_of_nonneg (by omega)]; exact hp1
      have HE:Hid (o*o=x ^ q):=by have:=HP.out; rwa [if_neg hpar,Nat.mul_one] at this
      rw [HE.out] at g1 g3 ⊢
      have hdq':((dl (x ^ q):Nat):Int)<=4096:=by omega
      obtain ⟨j',hj'⟩:=HB2.out _ rfl
      have HJ':=hid hj'
      clear hj'
      go_wp2
      go_roundg (gk - 1)
      case measure=>omega
      case rel=>exact ⟨d / 2,j',x ^ q,A3,c3,by rw [HD2.out],rfl,HJ',by omega,hdq,g1,g2,g3,hAx3,hB3⟩
def cmpN (x y:Nat):Int:=if x<y then -1 else if y<x then 1 else 0
theorem zcS {x y:Nat} (h:x<y):cmpN x y = -1:=by simp [cmpN,h]
theorem zcm {x y:Nat} (h:y<x):cmpN x y=1:=by unfold cmpN; rw [if_neg (by omega),if_pos h]
theorem zcT {x y:Nat} (h:x=y):cmpN x y=0:=by unfold cmpN; rw [if_neg (by omega),if_neg (by omega)]
theorem zhZ {f g:Nat->Nat} {n k:Nat} (hf:∀ i,i<n->f i<4294967296) (hk:k<n) (he:∀ j,k<j->j<n->f j=g j) (hl:f k<g k):nv f n<nv g n:=by
 induction n with
 | zero=>omega
 | succ n ih =>
  simp only [nv]
  by_cases e:k=n
  ·subst e
   have h1:=zeX (f:=f) (n:=k) fun i hi=>hf i (by omega)
   have h2:(f k+1)*4294967296 ^ k<=g k*4294967296 ^ k:=Nat.mul_le_mul_right _ hl
   rw [Nat.add_mul,Nat.one_mul] at h2
   omega
  ·have h1:=ih (fun i hi=>hf i (by omega)) (by omega) fun j h1 h2=>he j h1 (by omega)
   rw [he n (by omega) (by omega)]
   omega
theorem zgP {x y:Nat} (h:dl x<dl y):x<y:=by
 rcases Nat.lt_or_ge x y with h1 | h1
 ·exact h1
 ·have:=zaw h1; omega
theorem za8 (A A2:Option Addr) (c c2 x y:Nat) (w:World) (h:NatOk w w.heap.size A x) (h2:NatOk w w.heap.size A2 y) (hc:dl x<=c) (hm:c<=maxLen) (hc2:dl y<=c2) (hm2:c2<=maxLen) (hn2:dl y<=1073741824) :
  Calls Tryz.prog 122 #[.slice A (dl x) c,.slice A2 (dl y) c2] w fun e w'=>e=.returned (.int .i64 (cmpN x y))/\Below w.heap.size w w':=by
 go_enter Tryz.func122, Tryz.ntmps122
 go_wp2_with fail
 refine (zbd A c x w h hc hm).mono ?_
 rintro e w1 ⟨rfl,rfl⟩
 go_wp2_with fail
 refine (zbd A2 c2 y w h2 hc2 hm2).mono ?_
 rintro e w1 ⟨rfl,rfl⟩
 by_cases hd:dl x=dl y
 ·obtain ⟨n,hn'⟩:∃ n,n=dl y:=⟨_,rfl⟩
  have hX:nv (dg x) n=x:=by rw [hn',<-hd,zcg]
  have hY:nv (dg y) n=y:=by rw [hn',zcg]
  have HX:=hid hX
  have HY:=hid hY
  have h3:Lims w w.heap.size A n (dg x):=by rw [hn',<-hd]; exact h
  have h4:Lims w w.heap.size A2 n (dg y):=by rw [hn']; exact h2
  rw [hd,<-hn'];rw [<-hn'] at hn2;clear hX hY h h2 hc hc2 hd hn'
  go_wp2
  go_loopg [5] n (fun gg iv wx=>∃ k:Nat,iv=.int .i64 ((k:Nat) - 1:Int)/\k<=n/\k<=gg/\Hid (∀ j,k<=j->j<n->dg x j=dg y j)/\Below w.heap.size w wx)
  case atStart=>exact ⟨n,rfl,by omega,by omega,hid fun j h1 h2=>absurd h1 (by omega),Below.refl _ _⟩
  case round =>
   obtain ⟨k,rfl,hk,hkg,HE,hB⟩:=hrel
   by_cases h0:0<k
   ·obtain ⟨k,rfl⟩:∃ k',k=k'+1:=⟨k - 1,by omega⟩
    have ek:(((k+1:Nat):Int) - 1)=(k:Int):=by omega
    rw [ek]
    obtain ⟨b,o,rfl,hb,e0⟩:=(h3.on hB).at (i:=k) (by omega)
    obtain ⟨b2,o2,rfl,hb2,e2⟩:=(h4.on hB).at (i:=k) (by omega)
    have hk0:(0:Int)<=(k:Int):=by omega
    have hk1:(k:Int)<(n:Int):=by omega
    have he:=HE.out
    by_cases c1:dg x k<dg y k
    ·have HC:=hid (zcS (x:=x) (y:=y) (by have:=zhZ (f:=dg x) (g:=dg y) (n:=n) (k:=k) (fun i _=>zes x i) (by omega) (fun j h1 h2=>he j (by omega) h2) c1; rwa [HX.out,HY.out] at this))
     obtain ⟨u,hu⟩:∃ u,u=dg x k:=⟨_,rfl⟩
     obtain ⟨v,hv⟩:∃ v,v=dg y k:=⟨_,rfl⟩
     rw [<-hu] at e0 c1;rw [<-hv] at e2 c1;clear ek he hu hv
     go_wp2
     go_quiet (fail)
     go_wp2
     go_ret
     exact ⟨zaF HC.out.symm,zai hB _⟩
    ·by_cases c2:dg y k<dg x k
     ·have HC:=hid (zcm (x:=x) (y:=y) (by have:=zhZ (f:=dg y) (g:=dg x) (n:=n) (k:=k) (fun i _=>zes y i) (by omega) (fun j h1 h2=>(he j (by omega) h2).symm) c2; rwa [HX.out,HY.out] at this))
      obtain ⟨u,hu⟩:∃ u,u=dg x k:=⟨_,rfl⟩
      obtain ⟨v,hv⟩:∃ v,v=dg y k:=⟨_,rfl⟩
      rw [<-hu] at e0 c1 c2;rw [<-hv] at e2 c1 c2;clear ek he hu hv
      go_wp2
      go_quiet (fail)
      go_wp2
      go_quiet (fail)
      go_wp2
      go_ret
      exact ⟨zaF HC.out.symm,zai (zai hB _) _⟩
     ·have heq:dg x k=dg y k:=by omega
      have HN:Hid (∀ j,k<=j->j<n->dg x j=dg y j):=fun j h1 h2=>by
       by_cases e:j=k
       ·rw [e]; exact heq
       ·exact he j (by omega) h2
      rw [heq] at e0
      obtain ⟨v,hv⟩:∃ v,v=dg y k:=⟨_,rfl⟩
      rw [<-hv] at e0 e2;clear ek he hv heq c1 c2
      go_wp2
      go_quiet (fail)
      go_wp2
      go_quiet (fail)
      go_wp2
      go_roundg (gk - 1)
      case measure=>omega
      case rel=>exact ⟨k,rfl,by omega,by omega,HN,zai hB _⟩
   ·obtain rfl:k=0:=by omega
    have HC:=hid (zcT (x:=x) (y:=y) (by rw [<-HX.out,<-HY.out]; exact zbB fun i hi=>HE.out i (by omega) hi))
    go_wp2
    go_ret
    exact ⟨zaF HC.out.symm,hB⟩
 ·by_cases hlt:dl x<dl y
  ·have HC:=hid (zcS (zgP hlt))
   have d1:((dl x:Nat):Int)<((dl y:Nat):Int):=by omega
   have d2:(((dl x:Nat):Int) != ((dl y:Nat):Int))=true:=by simp; omega
   clear h h2
   go_wp2
   go_ret
   exact ⟨zaF HC.out.symm,Below.refl _ _⟩
  ·have HC:=hid (zcm (zgP (x:=y) (y:=x) (by omega)))
   have d1:¬ ((dl x:Nat):Int)<((dl y:Nat):Int):=by omega
   have d2:(((dl x:Nat):Int) != ((dl y:Nat):Int))=true:=by simp; omega
   clear h h2
   go_wp2
   go_ret
   exact ⟨zaF HC.out.symm,Below.refl _ _⟩
theorem zeG (A A2:Option Addr) (c c2 x y:Nat) (w:World) (h:NatOk w w.heap.size A x) (h2:NatOk w w.heap.size A2 y) (hn:dl x<=1073741824) (hn2:dl y<=1073741824) :
  Calls Tryz.prog 163 #[.slice A (dl x) c,.slice A2 (dl y) c2] w fun e w'=>e=.returned (.int .i64 (cmpN x y))/\w=w':=by
 obtain ⟨n,hnx,hny,hme,hnb⟩:∃ n:Nat,dl x<=n/\dl y<=n/\max ((dl x:Nat):Int) ((dl y:Nat):Int)=(n:Int)/\n<=1073741824:=by
  by_cases e:dl x<=dl y
  ·exact ⟨dl y,e,Nat.le_refl _,by omega,hn2⟩
  ·exact ⟨dl x,Nat.le_refl _,by omega,by omega,hn⟩
 have hX:nv (padded (dg x) (dl x)) n=x:=by rw [zbl _ hnx,zcg]
 have hY:nv (padded (dg y) (dl y)) n=y:=by rw [zbl _ hny,zcg]
 have HX:=hid hX
 have HY:=hid hY
 have L1:=hid fun i=>zdA A (dl x) c i (dg x) w h (za7 x)
 have L2:=hid fun i=>zdA A2 (dl y) c2 i (dg y) w h2 (za7 y)
 clear hX hY h h2
 go_enter Tryz.func163, Tryz.ntmps163
 go_wp2
 go_loopg [5] n (fun gg iv wx=>∃ k:Nat,iv=.int .i64 ((k:Nat) - 1:Int)/\k<=n/\k<=gg/\Hid (∀ j,k<=j->j<n->padded (dg x) (dl x) j=padded (dg y) (dl y) j)/\w=wx)
 case atStart=>exact ⟨n,rfl,by omega,by omega,hid fun j h1 h2=>absurd h1 (by omega),rfl⟩
 case round =>
  obtain ⟨k,rfl,hk,hkg,HE,rfl⟩:=hrel
  by_cases h0:0<k
  ·obtain ⟨k,rfl⟩:∃ k',k=k'+1:=⟨k - 1,by omega⟩
   have ek:(((k+1:Nat):Int) - 1)=(k:Int):=by omega
   rw [ek]
   have he:=HE.out
   have l1:=L1.out k
   have l2:=L2.out k
   have q1:=za4 (za7 x).out k
   have q2:=za4 (za7 y).out k
   have lt1:padded (dg x) (dl x) k<padded (dg y) (dl y) k->x<y:=fun hh=>by
    have:=zhZ (f:=padded (dg x) (dl x)) (g:=padded (dg y) (dl y)) (n:=n) (k:=k) (fun i _=>za4 (za7 x).out i) (by omega) (fun j h1 h2=>he j (by omega) h2) hh
    rwa [HX.out,HY.out] at this
   have lt2:padded (dg y) (dl y) k<padded (dg x) (dl x) k->y<x:=fun hh=>by
    have:=zhZ (f:=padded (dg y) (dl y)) (g:=padded (dg x) (dl x)) (n:=n) (k:=k) (fun i _=>za4 (za7 y).out i) (by omega) (fun j h1 h2=>(he j (by omega) h2).symm) hh
    rwa [HX.out,HY.out] at this
   have HN:padded (dg x) (dl x) k=padded (dg y) (dl y) k->Hid (∀ j,k<=j->j<n->padded (dg x) (dl x) j=padded (dg y) (dl y) j):=fun heq j h1 h2=>by
    by_cases e:j=k
    ·rw [e]; exact heq
    ·exact he j (by omega) h2
   obtain ⟨u,hu⟩:∃ u,u=padded (dg x) (dl x) k:=⟨_,rfl⟩
   obtain ⟨v,hv⟩:∃ v,v=padded (dg y) (dl y) k:=⟨_,rfl⟩
   rw [<-hu] at l1 q1 lt1 lt2;rw [<-hv] at l2 q2 lt1 lt2;rw [<-hu,<-hv] at HN
   have M1:=hid l1
   have M2:=hid l2
   clear ek he hu hv l1 l2
   by_cases c1:u<v
   ·have HC:=hid (zcS (lt1 c1))
    clear lt1 lt2 HN
    go_wp2_with fail
    refine M1.out.mono ?_
    rintro e w2 ⟨rfl,rfl⟩
    go_wp2_with fail
    refine M2.out.mono ?_
    rintro e w2 ⟨rfl,rfl⟩
    go_wp2
    go_ret
    exact ⟨zaF HC.out.symm,rfl⟩
   ·by_cases c2:v<u
    ·have HC:=hid (zcm (lt2 c2))
     clear lt1 lt2 HN
     go_wp2_with fail
     refine M1.out.mono ?_
     rintro e w2 ⟨rfl,rfl⟩
     go_wp2_with fail
     refine M2.out.mono ?_
     rintro e w2 ⟨rfl,rfl⟩
     go_wp2_with fail
     refine M1.out.mono ?_
     rintro e w2 ⟨rfl,rfl⟩
     go_wp2_with fail
     refine M2.out.mono ?_
     rintro e w2 ⟨rfl,rfl⟩
     go_wp2
     go_ret
     exact ⟨zaF HC.out.symm,rfl⟩
    ·have heq:u=v:=by omega
     have HN2:=HN heq
     subst heq
     clear lt1 lt2 HN c1 c2
     go_wp2_with fail
     refine M1.out.mono ?_
     rintro e w2 ⟨rfl,rfl⟩
     go_wp2_with fail
     refine M2.out.mono ?_
     rintro e w2 ⟨rfl,rfl⟩
     go_wp2_with fail
     refine M1.out.mono ?_
     rintro e w2 ⟨rfl,rfl⟩
     go_wp2_with fail
     refine M2.out.mono ?_
     rintro e w2 ⟨rfl,rfl⟩
     go_wp2
     go_roundg (gk - 1)
     case measure=>omega
     case rel=>exact ⟨k,rfl,by omega,by omega,HN2,rfl⟩
  ·obtain rfl:k=0:=by omega
   have HC:=hid (zcT (x:=x) (y:=y) (by rw [<-HX.out,<-HY.out]; exact zbB fun i hi=>HE.out i (by omega) hi))
   go_wp2
   go_ret
   exact ⟨zaF HC.out.symm,rfl⟩
theorem zgQ {f g o:Nat->Nat} {k bo s:Nat} (hv:nv o k+nv g k=nv f k+bo*4294967296 ^ k) (hf:f k<4294967296) (hg:g k<4294967296) (hb:bo<=1) (hs:s=f k+4294967296 - g k - bo) :
  nv (upd o k (s % 4294967296)) (k+1)+nv g (k+1)=nv f (k+1)+(1 - s / 4294967296)*4294967296 ^ (k+1)/\1 - s / 4294967296<=1/\s / 4294967296<=1:=by
 have e:s % 4294967296+g k+bo=f k+(1 - s / 4294967296)*4294967296:=by omega
 have h1:s / 4294967296<=1:=by omega
 refine ⟨?_,by omega,h1⟩
 simp only [nv]
 rw [zbc (Nat.le_refl _),zaI,Nat.pow_succ]
 generalize s % 4294967296=r at *
 generalize 1 - s / 4294967296=c at *
 grind
theorem ziB {f g o:Nat->Nat} {n bo:Nat} (hv:nv o n+nv g n=nv f n+bo*4294967296 ^ n) (ho:∀ i,i<n->o i<4294967296) (hle:nv g n<=nv f n) (_hb:bo<=1):nv o n=nv f n - nv g n:=by
 have h:=zeX ho
 have h0:bo=0:=by
  rcases Nat.eq_zero_or_pos bo with e | e
  ·exact e
  ·have:1*4294967296 ^ n<=bo*4294967296 ^ n:=Nat.mul_le_mul_right _ e
   omega
 subst h0
 omega
theorem zde (A A2:Option Addr) (c c2 x y:Nat) (w:World) (h:NatOk w w.heap.size A x) (h2:NatOk w w.heap.size A2 y) (hle:y<=x) (hn:dl x<=268435456) :
  Calls Tryz.prog 164 #[.slice A (dl x) c,.slice A2 (dl y) c2] w (NatPost (x - y) w):=by
 obtain ⟨i0,qi0,qz0,qz1,qz2⟩:=info_parts Tryz.infoU32
 have hdl:=zaw hle
 have HX:Hid (nv (padded (dg x) (dl x)) (dl x)=x):=by show _=_; rw [zbl _ (Nat.le_refl _),zcg]
 have HY:Hid (nv (padded (dg y) (dl y)) (dl x)=y):=by show _=_; rw [zbl _ hdl,zcg]
 go_enter Tryz.func164, Tryz.ntmps164
 go_wp2
 go_loopg [7,5,6] (dl x) (fun gg iv ov cv wx=>∃ k bo:Nat,∃ o:Nat->Nat,iv=.int .i64 (k:Nat)/\cv=.int .u64 (bo:Nat)/\dl x<=k+gg/\k<=dl x/\bo<=1/\Below w.heap.size w wx/\Own wx w.heap.size 110 1 ov k (fun i _=>.int .u32 (o i:Nat))/\Hid (∀ i,o i<4294967296)/\Hid (nv o k+nv (padded (dg y) (dl y)) k=nv (padded (dg x) (dl x)) k+bo*4294967296 ^ k))
 case atStart=>exact ⟨0,0,fun _=>0,rfl,rfl,by omega,by omega,by omega,Below.refl _ _,Own.nil _ _ _ _ _,hid fun _=>by show 0<_; omega,hid rfl⟩
 case round =>
  obtain ⟨k,bo,o,rfl,rfl,hkg,hk,hbo,hB,hO,HO,HV⟩:=hrel
  by_cases hlt:k<dl x
  ·have hlt':(k:Int)<((dl x:Nat):Int):=by omega
   have hf1:=za4 (za7 x).out k
   have hg1:=za4 (za7 y).out k
   obtain ⟨s,hs⟩:∃ s,s=padded (dg x) (dl x) k+4294967296 - padded (dg y) (dl y) k - bo:=⟨_,rfl⟩
   obtain ⟨s1,s2,s3⟩:=zgQ HV.out hf1 hg1 hbo hs
   have K1:=hid s1
   have HL1:=hid (zdA A (dl x) c k (dg x) wr (NatOk.on h hB) (za7 x))
   have HL2:=hid (zdA A2 (dl y) c2 k (dg y) wr (NatOk.on h2 hB) (za7 y))
   obtain ⟨u,hu⟩:∃ u,u=padded (dg x) (dl x) k:=⟨_,rfl⟩
   obtain ⟨v,hv⟩:∃ v,v=padded (dg y) (dl y) k:=⟨_,rfl⟩
   rw [<-hu] at hf1 hs HL1;rw [<-hv] at hg1 hs HL2
   have es:((u:Int)+4294967296 - v - bo)=(s:Int):=by omega
   have hO1:Own wr w.heap.size 110 1 u5 k (fun i _=>.int .u32 (upd o k (s % 4294967296) i:Nat)):=hO.congr fun i hi _ _=>by rw [zap (by omega)]
   have N1:Hid (∀ z:Int,z=((s % 4294967296:Nat):Int)->∀ j,j<1->(wr.alloc (Obj.cells #[Value.int .u32 z] 110)).cell? ((⟨wr.heap.size,0,none⟩:Addr).add j)=some (.int .u32 (upd o k (s % 4294967296) k:Nat))):=fun z hz j hj=>by
    obtain rfl:j=0:=by omega
    rw [zaI,hz]
    exact World.cell?_alloc_at _ _ _ _ rfl
   have N2:Hid (∀ j,j<1->(Value.int .u32 (upd o k (s % 4294967296) k:Nat)).oneCell'=true):=fun _ _=>rfl
   have n3:Hid (k+1<=maxLen):=by show _<=_; unfold maxLen; omega
   have n4:Hid ((k+1)*4<=140737488355328):=by show _<=_; omega
   have hQb:Hid (∀ k,u5.ownBlock=some k->w.heap.size<=k):=fun k e=>(hO.lt k e).1
   have K3:Hid (∀ i,upd o k (s % 4294967296) i<4294967296):=fun i=>by
    unfold upd
    split
    ·omega
    ·exact HO.out i
   have K5:Hid ((1 - (s:Int) / 4294967296)=((1 - s / 4294967296:Nat):Int)):=by show _=_; omega
   have K6:Hid ((s:Int) % 4294967296=((s % 4294967296:Nat):Int)):=by show _=_; omega
   have hsb:(s:Int)<=8589934591:=by omega
   have hsz:=hB.size
   have ES:=hid es
   clear hu hv hs s1 es hO
   go_wp2_with fail
   refine HL1.out.mono ?_
   rintro e w2 ⟨rfl,rfl⟩
   go_wp2_with fail
   refine HL2.out.mono ?_
   rintro e w2 ⟨rfl,rfl⟩
   go_upto_region 7 with fail
   rw [ES.out]
   have hs4:(s:Int) / 4294967296<=1:=by omega
   have hs5:(0:Int)<=(s:Int) / 4294967296:=by omega
   have hBA:=hid fun z:Int=>hB.alloc hB.size (Obj.cells #[Value.int .u32 z] 110)
   go_wp2_with (first | (at_builtin; (refine zao _ rfl (.tmp 25) (.tmp 29) _ rfl w.heap.size 110 i0 _ 1 4 Tryz.underlying47 qi0 qz0 qz1 qz2 rfl (by omega) u5 k _ rfl (hO1.alloc _) ⟨wr.heap.size,0,none⟩ 1 rfl (N1.out _ K6.out) N2.out n3.out n4.out (by simp; omega) ?_); intro v' w3 hown3 hg3 hat3))
   have hB3:=(hBA.out _).grown hg3 (by simp; omega) (fun q e=>hQb.out q e)
   go_roundg (gk - 1)
   case measure=>omega
   case rel=>exact ⟨k+1,1 - s / 4294967296,_,by go_num,by rw [K5.out],by omega,by omega,by omega,hB3,hown3,K3,K1⟩
  ·obtain rfl:k=dl x:=by omega
   have HS:Hid (nv o (dl x)=x - y):=by
    have:=ziB HV.out (fun i _=>HO.out i) (by rw [HX.out,HY.out]; exact hle) hbo
    rwa [HX.out,HY.out] at this
   obtain ⟨oa,oc,rfl⟩:=hO.shape
   have hI:Lims wr wr.heap.size oa (dl x) o:=hO.rd rfl
   have hob:Hid (∀ i,i<dl x->o i<4294967296):=fun i _=>HO.out i
   have hcap:dl x<=oc/\oc<=maxLen:=by
    rcases hO with ⟨e1,e2⟩ | ⟨g1,o1,cap,cur,e1,_,_,h3,h4,_⟩
    ·injection e1 with _ _ e3; subst e3; exact ⟨by omega,by unfold maxLen; omega⟩
    ·injection e1 with _ _ e3; subst e3; exact ⟨h3,h4⟩
   go_wp2_with fail
   refine (zaU oa (dl x) oc o wr hI hob hcap.1 hcap.2 (by omega)).mono ?_
   rintro e w2 ⟨A',c',rfl,g1,g2,g3,g4⟩
   rw [HS.out] at g1 g3 ⊢
   have hB2:=onS hB g4
   clear g4 hI hO hB
   go_wp2
   go_ret
   exact ⟨A',c',rfl,g1,g2,g3,hB2⟩
theorem zh0 {f g o:Nat->Nat} {k q ca bo p s:Nat} (hv:nv o k+q*nv g k=nv f k+(ca+bo)*4294967296 ^ k) (hf:f k<4294967296) (hb:bo<=1) (hp:p=q*g k+ca) (hs:s=f k+4294967296 - p % 4294967296 - bo) :
  nv (upd o k (s % 4294967296)) (k+1)+q*nv g (k+1)=nv f (k+1)+(p / 4294967296+(1 - s / 4294967296))*4294967296 ^ (k+1)/\1 - s / 4294967296<=1/\s / 4294967296<=1:=by
 have e:s % 4294967296+p % 4294967296+bo=f k+(1 - s / 4294967296)*4294967296:=by omega
 have e2:p % 4294967296+4294967296*(p / 4294967296)=p:=Nat.mod_add_div _ _
 have h1:s / 4294967296<=1:=by omega
 refine ⟨?_,by omega,h1⟩
 simp only [nv]
 rw [zbc (Nat.le_refl _),zaI,Nat.pow_succ]
 generalize s % 4294967296=r at *
 generalize 1 - s / 4294967296=c at *
 generalize p % 4294967296=pl at *
 generalize p / 4294967296=ph at *
 grind
theorem zj7 (u:Nat->Nat) (m:Nat):nv u (m+3)=nv u m+u m*4294967296 ^ m+(u (m+2)*4294967296+u (m+1))*(4294967296*4294967296 ^ m):=by
 simp only [nv,Nat.pow_succ]
 grind
theorem zj8 (v:Nat->Nat) (m:Nat):nv v (m+2)=nv v m+v m*4294967296 ^ m+v (m+1)*(4294967296*4294967296 ^ m):=by
 simp only [nv,Nat.pow_succ]
 grind
section
variable {x0 u0 u1 u2 y0 v0 v1 P q r:Nat}
theorem zkP (hy:y0<P) (hv0:v0<4294967296) (h:x0+u0*P+(u2*4294967296+u1)*(4294967296*P)<(y0+v0*P+v1*(4294967296*P))*4294967296):u2<=v1:=by
 rcases Nat.lt_or_ge v1 u2 with hlt | hge
 ·exfalso
  have h1:(v1+1)*(4294967296*(4294967296*P))<=u2*(4294967296*(4294967296*P)):=Nat.mul_le_mul_right _ hlt
  have h2:(v0+1)*P<=4294967296*P:=Nat.mul_le_mul_right _ hv0
  grind
 ·exact hge
theorem zf8 (hx:x0<P) (hu0:u0<4294967296) (hv1:0<v1) (hq:q=(u2*4294967296+u1) / v1) :
  x0+u0*P+(u2*4294967296+u1)*(4294967296*P)<(q+1)*(y0+v0*P+v1*(4294967296*P)):=by
 have h1:u2*4294967296+u1<(q+1)*v1:=by
  rw [hq]
  have:=Nat.lt_div_mul_add hv1 (a:=u2*4294967296+u1)
  rw [Nat.add_mul,Nat.one_mul]
  exact this
 have h2:(u2*4294967296+u1+1)*(4294967296*P)<=(q+1)*v1*(4294967296*P):=Nat.mul_le_mul_right _ h1
 have h3:(u0+1)*P<=4294967296*P:=Nat.mul_le_mul_right _ hu0
 have h4:(q+1)*v1*(4294967296*P)<=(q+1)*(y0+v0*P+v1*(4294967296*P)):=by
  rw [Nat.mul_assoc]
  exact Nat.mul_le_mul_left _ (by omega)
 rw [Nat.add_mul _ 1,Nat.one_mul] at h2;rw [Nat.add_mul,Nat.one_mul] at h3
 omega
theorem zgR (hx:x0<P) (ht:q*v1+r=u2*4294967296+u1) (h:r*4294967296+u0<q*v0) :
  x0+u0*P+(u2*4294967296+u1)*(4294967296*P)<q*(y0+v0*P+v1*(4294967296*P)):=by
 have h1:(r*4294967296+u0+1)*P<=q*v0*P:=Nat.mul_le_mul_right _ h
 rw [<-ht]
 have h2:q*(y0+v0*P+v1*(4294967296*P))=q*y0+q*v0*P+q*v1*(4294967296*P):=by grind
 rw [h2]
 have h3:(q*v1+r)*(4294967296*P)=q*v1*(4294967296*P)+r*4294967296*P:=by grind
 rw [h3]
 have h4:(r*4294967296+u0+1)*P=r*4294967296*P+u0*P+P:=by grind
 rw [h4] at h1
 omega
theorem zjd (ht:q*v1+r=u2*4294967296+u1) (hu:u2<=v1) (hu1:u1<4294967296) (hr:4294967296<=r):q<4294967296:=by
 rcases Nat.lt_or_ge q 4294967296 with h | h
 ·exact h
 ·have h1:4294967296*v1<=q*v1:=Nat.mul_le_mul_right _ h
  omega
theorem zh1 (hy:y0<P) (hv0:v0<4294967296) (hv1:0<v1) (hq:q<4294967296) (ht:q*v1+r=u2*4294967296+u1) (h:4294967296<=r∨q*v0<=r*4294967296+u0) :
  q*(y0+v0*P+v1*(4294967296*P))<=x0+u0*P+(u2*4294967296+u1)*(4294967296*P)+(y0+v0*P+v1*(4294967296*P)):=by
 rw [<-ht]
 have h2:q*(y0+v0*P+v1*(4294967296*P))=q*y0+q*v0*P+q*v1*(4294967296*P):=by grind
 rw [h2]
 have h3:(q*v1+r)*(4294967296*P)=q*v1*(4294967296*P)+r*4294967296*P:=by grind
 rw [h3]
 have h5:q*y0<=4294967296*P:=Nat.mul_le_mul (by omega) (by omega)
 rcases h with h | h
 ·have h4:q*v0*P<=4294967295*4294967296*P:=Nat.mul_le_mul_right _ (Nat.mul_le_mul (by omega) (by omega))
  have h6:4294967296*4294967296*P<=r*4294967296*P:=Nat.mul_le_mul_right _ (Nat.mul_le_mul_right _ h)
  omega
 ·have h4:q*v0*P<=(r*4294967296+u0)*P:=Nat.mul_le_mul_right _ h
  rw [Nat.add_mul] at h4
  have h6:1*(4294967296*P)<=v1*(4294967296*P):=Nat.mul_le_mul_right _ hv1
  omega
end
def seg (u:Nat->Nat) (j:Nat):Nat->Nat:=fun i=>u (j+i)
theorem zh2 (u:Nat->Nat) (j k:Nat):nv u (j+k)=nv u j+nv (seg u j) k*4294967296 ^ j:=by
 induction k with
 | zero=>simp [nv]
 | succ k ih =>
  show nv u (j+k+1)=_
  simp only [nv]
  rw [ih,Nat.pow_add]
  unfold seg
  grind
theorem zj9 (u:Nat->Nat) (j k:Nat):nv (seg u j) (k+1)=u j+4294967296*nv (seg u (j+1)) k:=by
 rw [zhM]
 unfold seg
 simp only [Nat.add_zero]
 rw [show (fun i=>u (j+(i+1)))=fun i=>u (j+1+i) from funext fun i=>by rw [show j+(i+1)=j+1+i by omega]]
theorem zje (x n i:Nat) (hn:n<=32):dg (x / 2 ^ n) i=(dg x i+4294967296*dg x (i+1)) / 2 ^ n % 4294967296:=by
 unfold dg
 rw [Nat.div_div_eq_div_mul,Nat.mul_comm,<-Nat.div_div_eq_div_mul,Nat.pow_succ,<-Nat.div_div_eq_div_mul]
 generalize x / 4294967296 ^ i=y
 obtain ⟨d,hd⟩:∃ d,(4294967296:Nat)=2 ^ n*d:=⟨2 ^ (32 - n),by rw [<-Nat.pow_add,show n+(32 - n)=32 by omega]⟩
 have h1:=Nat.mod_add_div y 4294967296
 have h2:=Nat.mod_add_div (y / 4294967296) 4294967296
 have h3:y=y % 4294967296+4294967296*(y / 4294967296 % 4294967296)+2 ^ n*(d*4294967296*(y / 4294967296 / 4294967296)):=by
  have:2 ^ n*(d*4294967296*(y / 4294967296 / 4294967296))=(2 ^ n*d)*4294967296*(y / 4294967296 / 4294967296):=by grind
  rw [this,<-hd]
  omega
 conv=>lhs; rw [h3]
 rw [Nat.add_mul_div_left _ _ (Nat.pow_pos (by omega)),show d*4294967296*(y / 4294967296 / 4294967296)=4294967296*(d*(y / 4294967296 / 4294967296)) by grind,Nat.add_mul_mod_self_left]
theorem zbP (f:Nat->Nat) (k s:Nat):nv (upd f k s) (k+1)=nv f k+s*4294967296 ^ k:=by
 show nv (upd f k s) k+upd f k s k*_=_
 rw [zbc (Nat.le_refl _),zaI]
theorem zcn (o:Nat->Nat) (off k x:Nat):seg (upd o (off+k) x) off=upd (seg o off) k x:=by
 funext i
 unfold seg upd
 by_cases e:i=k
 ·rw [if_pos (by omega),if_pos e]
 ·rw [if_neg (by omega),if_neg e]
theorem zka {X Y V q P u2 cb:Nat} (h:X+q*V=Y+cb*P) (hge:cb<=u2) (hl:Y+u2*P<(q+1)*V):(Y+u2*P) / V=q/\(Y+u2*P) % V=X+(u2 - cb)*P:=by
 obtain ⟨d,rfl⟩:∃ d,u2=cb+d:=⟨u2 - cb,by omega⟩
 rw [Nat.add_sub_cancel_left]
 have e:Y+(cb+d)*P=V*q+(X+d*P):=by
  rw [Nat.add_mul]
  have:=Nat.mul_comm q V
  omega
 rw [Nat.add_mul q 1,Nat.one_mul,Nat.mul_comm q V] at hl
 have hr:X+d*P<V:=by omega
 rw [e]
 exact ⟨by rw [Nat.mul_add_div (by omega),Nat.div_eq_of_lt hr,Nat.add_zero],by rw [Nat.mul_add_mod,Nat.mod_eq_of_lt hr]⟩
theorem zh3 {X Y V q P u2 cb X' cc:Nat} (h:X+q*V=Y+cb*P) (hlt:u2<cb) (hX:X<P) (hle:q*V<=Y+u2*P+V) (hadd:X'+cc*P=X+V) (hX':X'<P) (hV:V<P) :
  cb=u2+1/\cc=1/\1<=q/\(Y+u2*P) / V=q - 1/\(Y+u2*P) % V=X':=by
 obtain ⟨t,rfl⟩:∃ t,cb=u2+1+t:=⟨cb - u2 - 1,by omega⟩
 have e1:(u2+1+t)*P=u2*P+P+t*P:=by rw [Nat.add_mul,Nat.add_mul,Nat.one_mul]
 rw [e1] at h
 have hc1:cc<2:=by
  rcases Nat.lt_or_ge cc 2 with h1 | h1
  ·exact h1
  ·have:2*P<=cc*P:=Nat.mul_le_mul_right _ h1
   omega
 have hc0:cc≠0:=fun e=>by
  subst e
  rw [Nat.zero_mul] at hadd
  omega
 obtain rfl:cc=1:=by omega
 rw [Nat.one_mul] at hadd
 have ht:t=0:=by
  rcases Nat.eq_zero_or_pos t with h1 | h1
  ·exact h1
  ·have:1*P<=t*P:=Nat.mul_le_mul_right _ h1
   omega
 subst ht
 rw [Nat.zero_mul] at h
 have hq:1<=q:=by
  rcases Nat.eq_zero_or_pos q with h1 | h1
  ·subst h1; rw [Nat.zero_mul] at h; omega
  ·exact h1
 obtain ⟨p,rfl⟩:∃ p,q=p+1:=⟨q - 1,by omega⟩
 rw [Nat.add_mul,Nat.one_mul] at h hle;rw [Nat.add_sub_cancel]
 have e:Y+u2*P=V*p+X':=by
  have:=Nat.mul_comm p V
  omega
 have hr:X'<V:=by omega
 rw [e]
 exact ⟨by omega,rfl,hq,by rw [Nat.mul_add_div (by omega),Nat.div_eq_of_lt hr,Nat.add_zero],by rw [Nat.mul_add_mod,Nat.mod_eq_of_lt hr]⟩
theorem zjf {f g o:Nat->Nat} {k c s:Nat} (hv:nv o k+c*4294967296 ^ k=nv f k+nv g k) (hs:s=f k+g k+c) :
  nv (upd o k (s % 4294967296)) (k+1)+s / 4294967296*4294967296 ^ (k+1)=nv f (k+1)+nv g (k+1):=by
 simp only [nv]
 rw [zbc (Nat.le_refl _),zaI]
 have hc:=zbx s k
 subst hs
 grind
theorem zbY (x:Int) (h : -9223372036854775808<=x) (h1:x<9223372036854775808):∃ D:Nat,IntKind.u64.wrap x=(D:Int)/\D<18446744073709551616/\(D:Int) % 4294967296=x % 4294967296/\D / 9223372036854775808=(if x<0 then 1 else 0)/\∀ y:Int,IntKind.u64.wrap ((D:Int) - y)=IntKind.u64.wrap (x - y):=by
 simp only [IntKind.wrap,IntKind.bits,IntKind.signed]
 simp
 refine ⟨(x % 18446744073709551616).toNat,by omega,by omega,by omega,by split <;> omega,fun y=>by omega⟩
theorem zf9 (A:Option Addr) (c x:Nat) (w:World) (h:NatOk w w.heap.size A x) (hc:dl x<=c) (hm:c<=maxLen) (hn:dl x<=1073741824) :
  Calls Tryz.prog 192 #[.slice A (dl x) c] w fun e w'=>∃ A' c',e=.returned (.slice A' (dl x) c')/\Own w' w.heap.size 110 1 (.slice A' (dl x) c') (dl x) (fun i _=>.int .u32 (dg x i:Nat))/\Below w.heap.size w w':=by
 obtain ⟨i0,qi0,qz0,qz1,qz2⟩:=info_parts Tryz.infoU32
 go_enter Tryz.func192, Tryz.ntmps192
 go_wp2_with fail
 refine (zbd A c x w h hc hm).mono ?_
 rintro e w1 ⟨rfl,rfl⟩
 rcases Nat.eq_zero_or_pos (dl x) with h0 | h0
 ·have H0:=hid h0
  rw [h0];clear h0
  go_wp2_with (first | (at_builtin; (refine za6 rfl (.const (.slice none 0 0)) (.tmp 4) _ rfl 110 i0 Tryz.underlying47 qi0 rfl A 0 rfl ?_)))
  go_ret
  exact ⟨none,0,by rw [H0.out]; rfl,by rw [H0.out]; exact Own.nil _ _ _ _ _,Below.refl _ _⟩
 ·have n3:Hid (dl x<=maxLen):=by show _<=_; unfold maxLen; omega
  have n4:Hid (dl x*4<=140737488355328):=by show _<=_; omega
  go_wp2_with (first | (at_builtin; (refine zan rfl (.const (.slice none 0 0)) (.tmp 4) _ rfl 110 i0 _ 1 4 Tryz.underlying47 qi0 qz0 qz1 qz2 rfl (by omega) none rfl A (dl x) (dl x) (fun i _=>.int .u32 (dg x i:Nat)) rfl h h0 (fun _ _ _ _=>rfl) n3.out n4.out ?_); intro cap cur k1 k2 k3 k4))
  go_ret
  have hO:=Own.new (w:=w) (base:=w.heap.size) (e := 110) (Nat.le_refl _) k1 k2 k3 k4
  exact ⟨_,cap,rfl,hO.drew,((Below.refl _ _).alloc (Nat.le_refl _) _).drew⟩
def SubPost (x:Nat) (w:World) (e:Ending) (w':World):Prop :=
 ∃ A c,e=.returned (.tuple #[.slice A (dl x) c,.int .i64 0])/\dl x<=c/\c<=maxLen/\NatOk w' w'.heap.size A x/\Below w.heap.size w w'
theorem Own.cap {w:World} {base e s n:Nat} {A:Option Addr} {c:Nat} {f:Nat->Nat->Value} (h:Own w base e s (.slice A n c) n f):n<=c/\c<=maxLen:=by
 rcases h with ⟨e1,e2⟩ | ⟨g1,o1,cap,cur,e1,_,_,h3,h4,_⟩
 ·injection e1 with _ _ e3; subst e3; exact ⟨by omega,by unfold maxLen; omega⟩
 ·injection e1 with _ _ e3; subst e3; exact ⟨h3,h4⟩
theorem zfG (A A2:Option Addr) (c c2 x y:Nat) (w:World) (h:NatOk w w.heap.size A x) (h2:NatOk w w.heap.size A2 y) (hc:dl x<=c) (hm:c<=maxLen) (hc2:dl y<=c2) (hm2:c2<=maxLen) (hle:y<=x) (hn:dl x<=268435456) :
  Calls Tryz.prog 222 #[.slice A (dl x) c,.slice A2 (dl y) c2] w (SubPost (x - y) w):=by
 have hdl:=zaw hle
 have HX:Hid (nv (dg x) (dl x)=x):=zcg x
 have HY:Hid (nv (padded (dg y) (dl y)) (dl x)=y):=by show _=_; rw [zbl _ hdl,zcg]
 have hcmp:(cmpN x y<0)=False:=by
  rw [eq_iff_iff]
  rcases Nat.lt_or_ge y x with e | e
  ·rw [zcm e]; simp
  ·rw [zcT (by omega)]; simp
 have hcmp':¬ cmpN x y<0:=by rw [hcmp]; simp
 obtain ⟨z,hz⟩:∃ z,z=cmpN x y:=⟨_,rfl⟩
 rw [<-hz] at hcmp'
 have HZ:=hid hz
 clear hz hcmp
 go_enter Tryz.func222, Tryz.ntmps222
 go_wp2_with fail
 refine (za8 A A2 c c2 x y w h h2 hc hm hc2 hm2 (by omega)).mono ?_
 rintro e w1 ⟨rfl,hb1⟩
 rw [<-HZ.out]
 have g1:=h.on hb1
 have g2:=h2.on hb1
 have hB1:=onS (Below.refl _ w) hb1
 clear hb1 h
 go_wp2_with fail
 refine (zf9 A c x w1 g1 hc hm (by omega)).mono ?_
 rintro e w2 ⟨A',c',rfl,hO,hb2⟩
 have g3:=g2.on hb2
 have hO0:Own w2 w.heap.size 110 1 (.slice A' (dl x) c') (dl x) (fun i _=>.int .u32 (dg x i:Nat)):=hO.mono hB1.size
 have hB2:=onS hB1 hb2
 have hcap:=hO.cap
 clear hb2 hB1 g1 g2 hO
 go_wp2
 go_loopg [18,7] (dl x) (fun gg iv cv wx=>∃ k bo:Nat,∃ o:Nat->Nat,iv=.int .i64 (k:Nat)/\cv=.int .u64 (bo:Nat)/\dl x<=k+gg/\k<=dl x/\bo<=1/\Below w.heap.size w wx/\NatOk wx w.heap.size A2 y/\Own wx w.heap.size 110 1 (.slice A' (dl x) c') (dl x) (fun i _=>.int .u32 (o i:Nat))/\Hid (∀ i,o i<4294967296)/\Hid (∀ i,k<=i->o i=dg x i)/\Hid (nv o k+nv (padded (dg y) (dl y)) k=nv (dg x) k+bo*4294967296 ^ k))
 case atStart=>exact ⟨0,0,dg x,rfl,rfl,by omega,by omega,by omega,hB2,Rd.below h2 hB2 (Nat.le_refl _),hO0,hid fun i=>zes x i,hid fun _ _=>rfl,hid rfl⟩
 case round =>
  clear hO0 g3 hB2 h2
  obtain ⟨k,bo,o,rfl,rfl,hkg,hk,hbo,hB,hR,hO,HO,HU,HV⟩:=hrel
  by_cases hlt:k<dl x
  ·obtain ⟨g,og,cap,hv,hg1,hg2,hg3,hg4,hg5⟩:=hO.form (by omega)
   injection hv with hv1 _ hv3
   subst hv1 hv3
   have y0:=hg5 k hlt 0 (by omega)
   rw [Nat.mul_one,Nat.add_zero] at y0
   have z0:=hO.frozen (og+k)
   have hlt':(k:Int)<((dl x:Nat):Int):=by omega
   obtain ⟨u,hu⟩:∃ u,u=o k:=⟨_,rfl⟩
   have q1:=HO.out k
   rw [<-hu] at y0 q1
   obtain ⟨v,hv⟩:∃ v,v=padded (dg y) (dl y) k:=⟨_,rfl⟩
   have q2:=za4 (za7 y).out k
   rw [<-hv] at q2
   obtain ⟨s,hs⟩:∃ s,s=u+4294967296 - v - bo:=⟨_,rfl⟩
   have hs':s=dg x k+4294967296 - padded (dg y) (dl y) k - bo:=by rw [hs,hu,hv,HU.out k (Nat.le_refl _)]
   obtain ⟨s1,s2,s3⟩:=zgQ HV.out (zes x k) (za4 (za7 y).out k) hbo hs'
   have K1:=hid s1
   obtain ⟨D1,d1,d2,d3,d4,d5⟩:=zbY ((u:Int) - bo) (by omega) (by omega)
   obtain ⟨D,e1,e2,e3,e4,e5⟩:=zbY ((u:Int) - bo - v) (by omega) (by omega)
   have e6:=d5 v
   rw [e1] at e6
   have K5:Hid ((D:Int) / 9223372036854775808=((1 - s / 4294967296:Nat):Int)):=by
    show _=_
    split at e4 <;> omega
   have K6:Hid ((D:Int) % 4294967296=((s % 4294967296:Nat):Int)):=by show _=_; omega
   have K2:Hid (∀ z:Int,z=((s % 4294967296:Nat):Int)->Own (wr.setCell ⟨g,og+k,none⟩ (.int .u32 z)) w.heap.size 110 1 (.slice (some ⟨g,og,none⟩) (dl x) c') (dl x) (fun i _=>.int .u32 (upd o k (s % 4294967296) i:Nat))):=fun z hz=>by
    have:=hO.set hlt (show 0<1 by omega) (.int .u32 z)
    rw [Nat.mul_one,Nat.add_zero] at this
    refine this.congr fun i _ j hj=>?_
    unfold upd
    by_cases e:i=k
    ·rw [if_pos ⟨e,by omega⟩,if_pos e,hz]
    ·rw [if_neg (fun c=>e c.1),if_neg e]
   have K3:Hid (∀ i,upd o k (s % 4294967296) i<4294967296):=fun i=>by
    unfold upd
    split
    ·omega
    ·exact HO.out i
   have K4:Hid (∀ i,k+1<=i->upd o k (s % 4294967296) i=dg x i):=fun i hi=>by rw [zap (by omega)]; exact HU.out i (by omega)
   have K7:Hid (∀ z,NatOk (wr.setCell ⟨g,og+k,none⟩ z) w.heap.size A2 y):=fun z=>hR.setCell hg1 z
   have D5:=hid d5
   have hD0:(0:Int)<=D:=by omega
   have hD1:(D:Int)<=18446744073709551615:=by omega
   by_cases hy:k<dl y
   ·have hv2:v=dg y k:=by rw [hv]; unfold padded; rw [if_pos hy]
    obtain ⟨b2,o2,rfl,hb2,t0⟩:=Lims.at hR hy
    rw [<-hv2] at t0
    have hy':(k:Int)<((dl y:Nat):Int):=by omega
    clear hv hu hs hs' s1 s2 s3 e1 d3 d4 d5 e3 e4 e5 hv2 hg5 hO
    go_wp2
    go_roundg (gk - 1)
    case measure=>omega
    case rel=>exact ⟨k+1,1 - s / 4294967296,_,by go_num,by rw [K5.out],by omega,by omega,by omega,hB.setCell hg1 _,K7.out _,K2.out _ K6.out,K3,K4,K1⟩
   ·have hy':¬ (k:Int)<((dl y:Nat):Int):=by omega
    have hv2:v=0:=by rw [hv]; unfold padded; rw [if_neg hy]
    have hDD:D=D1:=by
     rw [hv2] at e1
     have:IntKind.u64.wrap ((u:Int) - bo - ((0:Nat):Int))=IntKind.u64.wrap ((u:Int) - bo):=by congr 1; omega
     rw [this,d1] at e1
     omega
    subst hDD
    clear hv hu hs hs' s1 s2 s3 e1 d3 d4 d5 e3 e4 e5 hv2 hg5 hO e6
    go_wp2
    go_roundg (gk - 1)
    case measure=>omega
    case rel=>exact ⟨k+1,1 - s / 4294967296,_,by go_num,by rw [K5.out],by omega,by omega,by omega,hB.setCell hg1 _,K7.out _,K2.out _ K6.out,K3,K4,K1⟩
  ·obtain rfl:k=dl x:=by omega
   have HS:Hid (nv o (dl x)=x - y):=by
    have:=ziB HV.out (fun i _=>HO.out i) (by rw [HX.out,HY.out]; exact hle) hbo
    rwa [HX.out,HY.out] at this
   have hI:Lims wr wr.heap.size A' (dl x) o:=hO.rd rfl
   have hob:Hid (∀ i,i<dl x->o i<4294967296):=fun i _=>HO.out i
   go_wp2_with fail
   refine (zbk A' (dl x) c' o wr hI hob hcap.1 hcap.2).mono ?_
   rintro e w3 ⟨rfl,hR3,rfl⟩
   rw [HS.out] at hR3 ⊢
   have hd3:dl (x - y)<=dl x:=zaw (by omega)
   go_wp2
   go_ret2
   exact ⟨_,_,rfl,Nat.le_refl _,by unfold maxLen; omega,hR3,hB⟩
end Go.Proofs.YtioagplajkoohaaGreat