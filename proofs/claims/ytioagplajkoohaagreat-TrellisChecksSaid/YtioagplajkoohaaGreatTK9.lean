/- Merged texts of a claim: MKer, Spc, SpOpen, PCode, PDual, NullCnt, ExpN, Dot04, Word12, Syn12, Tab55, RefRight, Nats, Right, RightLaw, Leaders, Between55, LeadersLaw, RecFirst, RecRed, RecFrom, Recover, RefRec, RecLaw, AppMany, Has12, Rest10, ConRow, ConCode, ConTab, ConRec, ConLaw, SeesW, Trel. -/
import Derived.Test.YtioagplajkoohaaGreatTK1
import Derived.Test.YtioagplajkoohaaGreatTK4
import Derived.Test.YtioagplajkoohaaGreatTK5
import Derived.Test.YtioagplajkoohaaGreatTK6
import Derived.Test.YtioagplajkoohaaGreatTK7
import Derived.Test.YtioagplajkoohaaGreatTK8
import Derived.SizedLaws
namespace Go.Proofs.YtioagplajkoohaaGreat
set_option maxRecDepth 100000
set_option maxHeartbeats 32000000
open KA KB KC KE KF
open Go.RowKit
def IndexPost (n:Nat) (f:Nat->Int) (v:Int) (w:World) (e:Ending) (w':World):Prop :=
 ∃ x:Int,e=.returned (.int .i64 x)/\Below w.heap.size w w'/\((x = -1/\∀ i,i<n->f i≠v)∨∃ i:Nat,x=i/\i<n/\f i=v/\∀ j,j<i->f j≠v)
theorem zdK (T:Option Addr) (n d:Nat) (f:Nat->Int) (v:Int) (w:World) (h:IntsR w w.heap.size T n f) (hn:n<=1048576) :
  Calls Tryz.prog 242 #[.slice T n d,.int .i64 v] w (IndexPost n f v w):=by
 have HR:=hid h
 clear h
 go_enter Tryz.func242, Tryz.ntmps242
 go_wp2
 go_loopg [8] n (fun gg iv wx=>∃ i:Nat,iv=.int .i64 (i:Nat)/\i<=n/\n<=i+gg/\Hid (∀ j,j<i->f j≠v)/\wx=w)
 case atStart=>exact ⟨0,rfl,by omega,by omega,fun t ht=>absurd ht (by omega),rfl⟩
 case round =>
  obtain ⟨i,rfl,hi,hig,HA,hwx⟩:=hrel
  subst hwx
  have hi0:(0:Int)<=(i:Int):=by omega
  by_cases hlt:i<n
  ·have hlt':(i:Int)<(n:Int):=by omega
   obtain ⟨b,o,rfl,_,x0⟩:=HR.out.at hlt
   obtain ⟨x,hx⟩:∃ x,x=f i:=⟨_,rfl⟩
   rw [<-hx] at x0
   by_cases he:v=x
   ·have hd:(v == x)=true:=by simpa using he
    have HP:Hid (∃ i2:Nat,(i:Int)=i2/\i2<n/\f i2=v/\∀ j,j<i2->f j≠v):=⟨i,rfl,hlt,by rw [<-hx,he],HA.out⟩
    clear he hx
    go_wp2
    go_ret
    exact ⟨_,rfl,Below.refl _ _,.inr HP.out⟩
   ·have hd:(v == x)=false:=by simpa using he
    have HA2:Hid (∀ j,j<i+1->f j≠v):=fun j hj=>by
     by_cases e:j=i
     ·rw [e,<-hx]; exact fun h=>he h.symm
     ·exact HA.out j (by omega)
    clear he hx
    go_wp2
    go_roundg (gk - 1)
    case measure=>omega
    case rel=>exact ⟨i+1,by go_num,by omega,by omega,HA2,rfl⟩
  ·have hlt':¬ (i:Int)<(n:Int):=by omega
   have HP:Hid (∀ j,j<n->f j≠v):=fun j hj=>HA.out j (by omega)
   go_wp2
   go_ret
   exact ⟨_,rfl,Below.refl _ _,.inl ⟨rfl,HP.out⟩⟩
theorem zcw (T:Option Addr) (n d:Nat) (f:Nat->Int) (v:Int) (w:World) (h:IntsR w w.heap.size T n f) (hn:n<=1048576) :
  Calls Tryz.prog 202 #[.slice T n d,.int .i64 v] w (IffPost (∃ i,i<n/\f i=v) w):=by
 go_enter Tryz.func202, Tryz.ntmps202
 go_wp2_with fail
 refine (zdK T n d f v w h hn).mono ?_
 rintro e w1 ⟨x,rfl,hB,hx⟩
 have HX:=hid hx
 clear hx h
 by_cases hx0:0<=x
 ·have hd:decide (0<=x)=true:=by simpa using hx0
  have HY:Hid (∃ i,i<n/\f i=v):=by
   rcases HX.out with ⟨h1,_⟩ | ⟨i,_,h2,h3,_⟩
   ·omega
   ·exact ⟨i,h2,h3⟩
  clear hx0
  go_wp2
  go_ret
  exact zaT HY.out hB
 ·have hd:decide (0<=x)=false:=by simpa using hx0
  have HY:Hid (¬ ∃ i,i<n/\f i=v):=by
   rcases HX.out with ⟨_,h1⟩ | ⟨i,h1,_,_,_⟩
   ·rintro ⟨i,h2,h3⟩; exact h1 i h2 h3
   ·omega
  clear hx0
  go_wp2
  go_ret
  exact zaq HY.out hB
def MKerPost (P M : Int) (k : Nat) (f : Nat → Int) (cols : Int) (n : Nat) (ln : Nat → Nat) (V : Nat → Nat → Int) (w : World) (e : Ending) (w' : World) : Prop :=
 Below w.heap.size w w'/\∃ v:Int,FirstErr (MatErrs P M k f cols n ln V) v /\
  ((v≠0/\e=.returned (.tuple #[.agg #[.int .i64 0,.slice none 0 0],.int .i64 v])) ∨
   (v=0/\∃ (P' M' C:Nat) (lv:Value) (a:Nat) (W:Nat->Nat->Nat),P=P'/\M=M'/\cols=C/\e=.returned (.tuple #[.agg #[.int .i64 (C:Nat),lv],.int .i64 0]) /\
    MTab w' w.heap.size lv a C W/\NullRel (P' ^ M') (addF P' M') (mulF P' M' fun i=>(f i).toNat) (negF P' M') n C (natT V) a W))
theorem zbZ (P M:Int) (A:Option Addr) (k c:Nat) (f:Nat->Int) (cols:Int) (T:Option Addr) (n d:Nat) (ln:Nat->Nat) (V:Nat->Nat->Int) (w:World) (hr:IntsR w w.heap.size A k f) (h:IntRows w T n ln V) (hc1:1<=cols) :
  Calls Tryz.prog 126 #[.agg #[.int .i64 P,.int .i64 M,.slice A k c],.agg #[.int .i64 cols,.slice T n d]] w (MKerPost P M k f cols n ln V w):=by
 have HR:=hid hr
 have HT:=hid h
 clear hr h
 have rf:=zad (w:=w) (a:=.int .i64 P) (b:=.int .i64 M) (c:=.slice A k c) (T := 24)
 have hB:Below w.heap.size w (w.alloc (.cells #[.int .i64 P,.int .i64 M,.slice A k c] 24)):=(Below.refl _ _).alloc (Nat.le_refl _) _
 have hsz:(w.alloc (.cells #[.int .i64 P,.int .i64 M,.slice A k c] 24)).heap.size=w.heap.size+1:=by simp
 obtain ⟨w0,hw0⟩:∃ W,W=w.alloc (.cells #[.int .i64 P,.int .i64 M,.slice A k c] 24):=⟨_,rfl⟩
 have rm:=zai (w:=w0) (a:=.int .i64 cols) (b:=.slice T n d) (T := 97)
 have kb:Below w0.heap.size w0 (w0.alloc (.cells #[.int .i64 cols,.slice T n d] 97)):=(Below.refl _ _).alloc (Nat.le_refl _) _
 have hsz1:(w0.alloc (.cells #[.int .i64 cols,.slice T n d] 97)).heap.size=w0.heap.size+1:=by simp
 obtain ⟨w1,hw1⟩:∃ W,W=w0.alloc (.cells #[.int .i64 cols,.slice T n d] 97):=⟨_,rfl⟩
 have ro:=zai (w:=w1) (a:=.int .i64 0) (b:=.slice none 0 0) (T := 97)
 have kb2:Below w1.heap.size w1 (w1.alloc (.cells #[.int .i64 0,.slice none 0 0] 97)):=(Below.refl _ _).alloc (Nat.le_refl _) _
 obtain ⟨w2,hw2⟩:∃ W,W=w1.alloc (.cells #[.int .i64 0,.slice none 0 0] 97):=⟨_,rfl⟩
 rw [<-hw0] at hB rf hsz;rw [<-hw1] at rm kb hsz1;rw [<-hw2] at ro kb2;rw [hsz1,hsz] at ro;rw [hsz] at rm;replace rf:=zaa (zaa rf kb) kb2;replace rm:=zaa rm kb2;replace hB:=onS (onS hB kb) kb2
 go_enter Tryz.func126, Tryz.ntmps126
 go_upto_region 1 with fail
 rw [<-hw0,<-hw1,<-hw2];clear hw0 hw1 hw2 kb kb2 hsz hsz1
 obtain ⟨b0,hb0⟩:∃ b,b=w.heap.size:=⟨_,rfl⟩
 obtain ⟨b1,hb1⟩:∃ b,b=w.heap.size+1:=⟨_,rfl⟩
 obtain ⟨b2,hb2⟩:∃ b,b=w.heap.size+1+1:=⟨_,rfl⟩
 have hb2w:w.heap.size<=b2:=by omega
 rw [<-hb0] at rf;rw [<-hb1] at rm;rw [<-hb2] at ro;rw [<-hb2,<-hb1,<-hb0];clear hb0 hb1 hb2
 have q0:=qc0 rf
 have q1:=qc1 rf
 have q2:=qc2 rf
 have p0:=qc0 rm
 have p1:=qc1 rm
 go_wp2_with fail
 have kb3:Below w2.heap.size w2 (w2.alloc (Obj.cells #[.int .i64 cols,.slice T n d] 97)):=(Below.refl _ _).alloc (Nat.le_refl _) _
 have rl:=zai (w:=w2) (a:=.int .i64 cols) (b:=.slice T n d) (T := 97)
 obtain ⟨w3,hw3⟩:∃ W,W=w2.alloc (Obj.cells #[.int .i64 cols,.slice T n d] 97):=⟨_,rfl⟩
 rw [<-hw3] at kb3 rl ⊢;replace hB:=onS hB kb3;replace rf:=zaa rf kb3;replace rm:=zaa rm kb3;replace ro:=zaa ro kb3;clear hw3 kb3 q0 q1 q2 p0 p1
 refine (zeJ P M A k c f cols T n d w2.heap.size 1 ln V w3 (HR.out.on hB) (HT.out.on hB) (rl.cell (i:=0) (by omega)) (rl.cell (i:=1) (by omega))).mono ?_
 rintro e w4 ⟨kb,v,hv,hcase⟩
 replace hB:=onS hB kb;replace rm:=zaa rm kb;replace ro:=zaa ro kb
 have HV:=hid hv
 clear kb rl rf hv
 rcases hcase with ⟨hv0,rfl⟩ | ⟨rfl,g,P,M,rfl,rfl,rfl,hG⟩
 ·have hvn:(v != 0)=true:=by simpa using hv0
  have HV0:=hid hv0
  clear hv0 rm
  have r0:=ro.frozen 0
  have s0:=qc0 ro
  have r1:=ro.frozen 1
  have s1:=qc1 ro
  go_wp2
  clear r0 s0 r1 s1
  generalize hw9:World.setCell _ _ _=w5
  obtain ⟨row9,hg9⟩:=zaS ro hw9.symm
  clear hw9
  have hB9:=hB.grown hg9 hB.size (fun q e=>by injection e with e; omega)
  have e0:=qc0 row9
  have e1:=qc1 row9
  refine bodyPost_ret (v:=.tuple #[.agg #[.int .i64 0,.slice none 0 0],.int .i64 v]) (by simp [results,Tryz.results126, go_sem,e0,e1]) rfl ?_
  exact ⟨hB9,v,HV.out,.inl ⟨HV0.out,rfl⟩⟩
 ·have hok:=HV.out
  rcases hok with ⟨_,h9⟩ | ⟨hgood,⟨_,h9⟩ | ⟨hs,⟨_,h9⟩ | ⟨he,_⟩⟩⟩
  ·cases h9
  ·cases h9
  ·cases h9
  obtain ⟨C,rfl⟩:∃ C:Nat,cols=C:=⟨cols.toNat,by omega⟩
  rw [Int.toNat_natCast,Int.toNat_natCast] at he
  obtain ⟨hm,hlt⟩:=zbV (HT.out.on hB) hs he
  have hC1:0<C:=by omega
  have hC2:C<=1048576:=by have:=hs.2.1; omega
  have hn2:n<=1048576:=by have:=hs.2.2.1; omega
  have p0:=qc0 rm
  have p1:=qc1 rm
  have HOK:=hid hgood.field.1
  have HG:=hid hG
  have HMM:=hid hm
  have HLT:=hid hlt
  have HC:Hid (C<=256):=by show _<=_; have:=hs.2.1; omega
  have HB4:=hid hB
  clear hs he hgood hG hm hlt hB
  go_wp2_with fail
  refine (zcv P M g _ T n d C C (natT V) w4 HG.out HMM.out HLT.out (Nat.le_refl _) hC1 hC2 hn2).mono ?_
  rintro e w5 ⟨lv,pv,a,p,W,rfl,hMT,hP,kb,hE,hR⟩
  have HB5:=hid (onS HB4.out kb)
  have HG5:=hid (HG.out.on kb)
  replace ro:=zaa ro kb;replace rm:=zaa rm kb
  have HE:=hid hE
  have HRO:=hid hR
  obtain ⟨LA,lc,hlv⟩:=hMT.shape
  subst hlv
  obtain ⟨PA,pc,hpv⟩:=hP.shape
  subst hpv
  have HMB:=hid hMT
  have HPB:=hid hP
  have haC:=hE.le_c
  have HRM:=hid rm
  have HRO2:=hid ro
  clear kb hMT hP hE hR HMM HLT HG p0 p1 rm ro
  have p0:=qc0 HRM.out
  have hL:=hid (fieldLaws HOK.out)
  have hP0:0<P:=by have:=HOK.out.1.1; omega
  have HQN:Hid (∀ x,negF P M x<P ^ M):=fun x=>zbf hP0
  have H0:=hid (MTab.nil w5 w5.heap.size C (fun _ _=>0))
  have hmk:=fun W=>zag (P:=Tryz.prog) 22 3 _ 8 Tryz.underlying22 Tryz.infoInt rfl (C:Int) (by omega) (by omega) (by omega) W
  simp only [Int.toNat_natCast] at hmk
  go_wp2
  clear p0
  obtain ⟨nv,hnv⟩:∃ x:Value,x=.slice none 0 0:=⟨_,rfl⟩
  rw [<-hnv] at H0;rw [<-hnv];clear hnv
  go_loopg [10,37] C (fun gg ov cv wx=>∃ (c0 f0:Nat) (fr:Nat->Nat) (NW:Nat->Nat->Nat),cv=.int .i64 (c0:Nat)/\c0<=C/\C<=c0+gg/\f0<=c0/\Hid (NullN (negF P M) C a p W c0 f0 fr NW)/\Hid (MTab wx w5.heap.size ov f0 C NW)/\Hid (Below w5.heap.size w5 wx))
  case atStart=>exact ⟨0,0,fun _=>0,fun _ _=>0,rfl,by omega,by omega,by omega,hid NullN.start,H0,Below.refl _ _⟩
  case round =>
   clear H0
   obtain ⟨c0,f0,fr,NW,rfl,hc,hcg,hfc,HN,HO,HB2⟩:=hrel
   have hc00:(0:Int)<=(c0:Int):=by omega
   obtain ⟨gO,hgO⟩:∃ x,x=gk:=⟨_,rfl⟩
   rw [<-hgO] at hcg
   have p0:wr.cell? ⟨b1,0,none⟩=some (.int .i64 (C:Nat)):=cellS HB2.out (HRM.out.cell (i:=0) (by omega))
   by_cases hcl:c0<C
   ·have hcl':(c0:Int)<(C:Int):=by omega
    go_wp2_with fail
    refine (zcw PA a pc (fun s=>((p s:Nat):Int)) (c0:Int) wr ((show IntsR w5 w5.heap.size PA a (fun s=>((p s:Nat):Int)) from HPB.out.rd rfl).on HB2.out) (by omega)).mono ?_
    rintro e wC ⟨b,rfl,hb,kb⟩
    have HBC:=hid (onS HB2.out kb)
    have HOC:=hid (HO.out.on kb)
    have HBB:=hid hb
    clear kb hb HO HB2 p0
    cases b
    ·have HFREE:Hid (∀ s,s<a->p s≠c0):=fun s hs e=>by have:=HBB.out.2 ⟨s,hs,by rw [e]⟩; cases this
     have p0:wC.cell? ⟨b1,0,none⟩=some (.int .i64 (C:Nat)):=cellS HBC.out (HRM.out.cell (i:=0) (by omega))
     go_upto_region 11 with fail
     have rx:=World.rowIs_made wC (.int .i64 0) C 3
     have kb:=(Below.refl wC.heap.size wC).alloc (Nat.le_refl _) (Obj.cells (madeCells #[Value.int .i64 0] C) 3)
     obtain ⟨w6,hw6⟩:∃ W,W=wC.alloc (Obj.cells (madeCells #[Value.int .i64 0] C) 3):=⟨_,rfl⟩
     obtain ⟨xb,hxb⟩:∃ b,b=wC.heap.size:=⟨_,rfl⟩
     rw [<-hw6] at kb rx ⊢;rw [<-hxb] at rx ⊢
     have hxb1:wC.heap.size<=xb:=by omega
     clear hw6 hxb p0
     have y0:=rx.cell hcl
     have z0:=rx.frozen c0
     have HRX:=hid ((rx.set c0 (.int .i64 1)).congr (g:=fun t=>.int .i64 ((nrow (negF P M) p W c0 0 t:Nat):Int)) fun t _=>by
      show (if t=c0 then Value.int .i64 1 else .int .i64 0)=.int .i64 (((if t=c0 then 1 else 0:Nat)):Int)
      split <;> rfl)
     have HKB:=hid (kb.setCell (p:=⟨xb,c0,none⟩) hxb1 (.int .i64 1))
     clear rx kb
     go_wp2
     clear y0 z0
     obtain ⟨w7,hw7⟩:∃ W,W=w6.setCell ⟨xb,c0,none⟩ (.int .i64 1):=⟨_,rfl⟩
     rw [<-hw7] at HRX HKB ⊢;clear hw7
     go_loopg [51] a (fun gg iv wx=>∃ t:Nat,iv=.int .i64 (t:Nat)/\t<=a/\a<=t+gg/\Hid (wx.rowIs xb 3 C (fun j=>.int .i64 ((nrow (negF P M) p W c0 t j:Nat):Int)))/\Hid (Below wC.heap.size wC wx))
     case atStart=>exact ⟨0,rfl,by omega,by omega,HRX,HKB⟩
     case round =>
      clear HRX HKB
      obtain ⟨t,rfl,ht,htg,HRX,HKB⟩:=hrel
      have ht0:(0:Int)<=(t:Int):=by omega
      by_cases htl:t<a
      ·have htl':(t:Int)<(a:Int):=by omega
       obtain ⟨pb,po,hPA,hpb,x0⟩:=(show IntsR w5 w5.heap.size PA a (fun s=>((p s:Nat):Int)) from HPB.out.rd rfl).at htl
       subst hPA
       obtain ⟨tb,to0,RA,rc,hLA,_,htb,y0,_,hrow⟩:=HMB.out.row htl
       subst hLA
       obtain ⟨rb,ro,hRA,hrb,y1⟩:=(show IntsR w5 w5.heap.size RA C (fun j=>((W t j:Nat):Int)) from hrow.rd rfl).at (i:=c0) hcl
       subst hRA
       clear hrow
       obtain ⟨pt,hpt⟩:∃ x,x=p t:=⟨_,rfl⟩
       obtain ⟨y,hy⟩:∃ y,y=W t c0:=⟨_,rfl⟩
       rw [<-hpt] at x0;rw [<-hy] at y1
       have hptN:pt<C:=by rw [hpt]; exact HE.out.pvlt t htl
       have hptN':(pt:Int)<(C:Int):=by omega
       have hpt0:(0:Int)<=(pt:Int):=by omega
       have HIY:=hid (zay (q:=P ^ M) (x:=y) (by rw [hy]; exact HE.out.lt t (by have:=HE.out.le; omega) c0 hcl))
       have HPT:=hid hpt
       have HY:=hid hy
       clear hpt hy
       have HBX:=hid (onS HBC.out HKB.out)
       replace x0:=cellS HBX.out x0;replace y0:=cellS HBX.out y0;replace y1:=cellS HBX.out y1
       go_wp2_with fail
       refine (zdd (y:Int) (HG5.out.on HBX.out)).mono ?_
       rintro e w8 ⟨rfl,kb⟩
       rw [HIY.out]
       have HRX8:=hid (zaa HRX.out kb)
       have HKB8:=hid (onS HKB.out kb)
       obtain ⟨r,hr⟩:∃ r,r=negF P M y:=⟨_,rfl⟩
       rw [<-hr]
       have HRR:=hid hr
       clear kb hr x0 y0 y1 HRX HKB HBX
       have y0:=HRX8.out.cell hptN
       have z0:=HRX8.out.frozen pt
       have HRX9:=hid ((HRX8.out.set pt (.int .i64 (r:Nat))).congr (g:=fun j=>.int .i64 ((nrow (negF P M) p W c0 (t+1) j:Nat):Int)) fun j _=>by
        show (if j=pt then Value.int .i64 (r:Nat) else .int .i64 (nrow (negF P M) p W c0 t j:Nat))=.int .i64 (((if j=p t then negF P M (W t c0) else nrow (negF P M) p W c0 t j:Nat)):Int)
        rw [HPT.out]
        split
        ·rw [HRR.out,HY.out]
        ·rfl)
       have HKB9:=hid (HKB8.out.setCell (p:=⟨xb,pt,none⟩) hxb1 (.int .i64 (r:Nat)))
       clear HRX8 HKB8
       go_wp2
       go_roundg (gk - 1)
       case measure=>omega
       case rel=>exact ⟨t+1,by go_num,by omega,by omega,HRX9,HKB9⟩
      ·have htl':¬ (t:Int)<(a:Int):=by omega
       have hta:t=a:=by omega
       have HX9:Hid (Own wr w5.heap.size 3 1 (.slice (some ⟨xb,0,none⟩) C C) C (fun j _=>.int .i64 ((nrow (negF P M) p W c0 a j:Nat):Int))):=by
        have h:=zax HRX.out (Nat.le_trans HBC.out.size hxb1) (show C<=maxLen by unfold maxLen; have:=HC.out; omega)
        rw [hta] at h
        exact h
       clear hta
       have HO9:=hid (HOC.out.on HKB.out)
       have HB9:=hid (onS HBC.out HKB.out)
       have kb3:Below wr.heap.size wr (wr.alloc (Obj.cells #[.slice (some ⟨xb,0,none⟩) C C] 22)):=(Below.refl _ _).alloc (Nat.le_refl _) _
       have HXA:=hid (HX9.out.on kb3)
       have HOA:=hid (HO9.out.on kb3)
       have HBA:=hid (onS HB9.out kb3)
       have HZA:=hid HBA.out.size
       have HCA:Hid ((wr.alloc (Obj.cells #[.slice (some ⟨xb,0,none⟩) C C] 22)).cell? ((⟨wr.heap.size,0,none⟩:Addr).add 0)=some (.slice (some ⟨xb,0,none⟩) C C)):=tbox2
       have HL:Hid (f0<=1048576):=by show _<=_; have:=HC.out; omega
       clear kb3 HX9 HO9 HB9 HRX HKB
       go_wp2_with (first | (at_builtin; (refine zaD rfl (.tmp 69) (.tmp 71) rfl HOA.out rfl (ad:=⟨wr.heap.size,0,none⟩) (c:=1) rfl HCA.out rfl HXA.out HZA.out HL.out ?_); intro v9 w9 o1 o2 o3))
       have HN9:=hid (HN.out.next HFREE.out (x:=fun j=>nrow (negF P M) p W c0 a j) (fun j _=>rfl))
       have HO9:=hid o1
       have HB9:=hid (HBA.out.grown o2 HZA.out o3)
       clear o1 o2 o3
       go_wp2
       go_roundg (gO - 1)
       case measure=>omega
       case rel=>exact ⟨c0+1,f0+1,_,_,by go_num,by omega,by omega,by omega,HN9,HO9,HB9⟩
    ·have HIN:Hid (∃ s,s<a/\p s=c0):=by
      obtain ⟨s,hs,e⟩:=HBB.out.1 rfl
      exact ⟨s,hs,by omega⟩
     have HNN:=hid (HN.out.skip HIN.out)
     go_wp2
     go_roundg (gO - 1)
     case measure=>omega
     case rel=>exact ⟨c0+1,f0,fr,NW,by go_num,by omega,by omega,by omega,HNN,HOC,HBC⟩
   ·have hcl':¬ (c0:Int)<(C:Int):=by omega
    have hcC:c0=C:=by omega
    have HNN:Hid (NullN (negF P M) C a p W C f0 fr NW):=by have h:=HN.out; rw [hcC] at h; exact h
    clear hcC
    obtain ⟨OA,oc,hov⟩:=HO.out.shape
    subst hov
    have HNL:Hid (∀ i,i<f0->∀ j,j<C->NW i j<P ^ M):=fun i hi j hj=>by
     rw [HNN.out.row i hi j hj]
     exact zfy hL.out.two HQN.out _ _ _
    have HMR:=hid (HO.out.rd (q:=P ^ M) HOK.out.1.2.2.2 HNL.out)
    have hf2:f0<=1048576:=by have:=HC.out; omega
    go_wp2_with fail
    refine (zcv P M g _ OA f0 oc C C NW wr (HG5.out.on HB2.out) HMR.out HNL.out (Nat.le_refl _) hC1 hC2 hf2).mono ?_
    rintro e w6 ⟨lv2,pv2,a2,p2,W2,rfl,hMT2,hP2,kb,hE2,hR2⟩
    have HREL:Hid (NullRel (P ^ M) (addF P M) (mulF P M fun i=>(f i).toNat) (negF P M) n C (natT V) a2 W2):=⟨a,p,W,f0,fr,NW,p2,HE.out,HRO.out,HNN.out,hE2,hR2⟩
    obtain ⟨LA2,lc2,hlv2⟩:=hMT2.shape
    subst hlv2
    obtain ⟨PA2,pc2,hpv2⟩:=hP2.shape
    subst hpv2
    have hsz5:=HB5.out.size
    have hsz2:=HB2.out.size
    have HM6:=hid (hMT2.mono (Nat.le_trans hsz5 hsz2))
    have HB6:=hid (onS (onS HB5.out HB2.out) kb)
    have ro:=zaa (zaa HRO2.out HB2.out) kb
    have p0:w6.cell? ⟨b1,0,none⟩=some (.int .i64 (C:Nat)):=cellS kb (cellS HB2.out (HRM.out.cell (i:=0) (by omega)))
    clear kb hMT2 hP2 hE2 hR2
    have r0:=ro.frozen 0
    have s0:=qc0 ro
    have r1:=ro.frozen 1
    have s1:=qc1 ro
    go_wp2
    clear r0 s0 r1 s1 p0
    generalize hw9:World.setCell _ _ _=w7
    obtain ⟨row9,hg9⟩:=zaS ro hw9.symm
    clear hw9
    have hB9:=HB6.out.grown hg9 HB6.out.size (fun q e=>by injection e with e; omega)
    have hM9:=HM6.out.kept hg9 ro (by decide) (by decide)
    have e0:=qc0 row9
    have e1:=qc1 row9
    refine bodyPost_ret (v:=.tuple #[.agg #[.int .i64 (C:Nat),.slice LA2 a2 lc2],.int .i64 0]) (by simp [results,Tryz.results126, go_sem,e0,e1]) rfl ?_
    exact ⟨hB9,0,HV.out,.inr ⟨rfl,P,M,C,_,a2,W2,rfl,rfl,rfl,rfl,hM9,HREL.out⟩⟩
theorem zbM (A B:Option Addr) (n m c d:Nat) (f g:Nat->Int) (w:World) (ha:IntsR w w.heap.size A n f) (hb:IntsR w w.heap.size B m g) (hn:n<=1048576) (hm:m<=1048576) :
  Calls Tryz.prog 189 #[.slice A n c,.slice B m d] w (IffPost (EqI n m f g) w):=by
 have HA:=hid ha
 have HB:=hid hb
 clear ha hb
 by_cases hnm:n=m
 ·subst hnm
  have hd:((n:Int) != (n:Int))=false:=by simp
  go_enter Tryz.func189, Tryz.ntmps189
  go_wp2
  go_loopg [13] n (fun gg iv wx=>∃ i:Nat,iv=.int .i64 (i:Nat)/\i<=n/\n<=i+gg/\Hid (∀ t,t<i->f t=g t)/\Hid (Below w.heap.size w wx))
  case atStart=>exact ⟨0,rfl,by omega,by omega,fun t ht=>absurd ht (by omega),Below.refl _ _⟩
  case round =>
   obtain ⟨i,rfl,hi,hig,HE,HW⟩:=hrel
   have hi0:(0:Int)<=(i:Int):=by omega
   by_cases hlt:i<n
   ·have hlt':(i:Int)<(n:Int):=by omega
    obtain ⟨b,o,rfl,_,x0⟩:=(HA.out.on HW.out).at hlt
    obtain ⟨b2,o2,rfl,_,y0⟩:=(HB.out.on HW.out).at hlt
    obtain ⟨x,hx⟩:∃ x,x=f i:=⟨_,rfl⟩
    obtain ⟨y,hy⟩:∃ x,x=g i:=⟨_,rfl⟩
    rw [<-hx] at x0;rw [<-hy] at y0
    by_cases he:x=y
    ·have hd2:(x != y)=false:=by simpa using he
     have HE2:Hid (∀ t,t<i+1->f t=g t):=fun t ht=>by
      by_cases e:t=i
      ·rw [e,<-hx,<-hy,he]
      ·exact HE.out t (by omega)
     clear he hx hy
     go_wp2
     go_quiet (fail)
     go_wp2
     go_roundg (gk - 1)
     case measure=>omega
     case rel=>exact ⟨i+1,by go_num,by omega,by omega,HE2,zac HW.out _⟩
    ·have hd2:(x != y)=true:=by simpa using he
     have HNO:Hid (¬ EqI n n f g):=fun h=>he (by rw [hx,hy]; exact h.2 i hlt)
     clear he hx hy
     go_wp2
     go_quiet (fail)
     go_wp2
     go_ret
     exact zaq HNO.out (zac HW.out _)
   ·have hlt':¬ (i:Int)<(n:Int):=by omega
    have HY:Hid (EqI n n f g):=⟨rfl,fun t ht=>HE.out t (by omega)⟩
    go_wp2
    go_ret
    exact zaT HY.out HW.out
 ·have hd:((n:Int) != (m:Int))=true:=by simp; omega
  have HNO:Hid (¬ EqI n m f g):=fun h=>hnm h.1
  clear hnm
  go_enter Tryz.func189, Tryz.ntmps189
  go_wp2
  go_ret
  exact zaq HNO.out (Below.refl _ _)
theorem zdL (A B:Option Addr) (n m c d:Nat) (ln ln':Nat->Nat) (V W:Nat->Nat->Int) (w:World) (ha:IntRows w A n ln V) (hb:IntRows w B m ln' W) (hn:n<=1048576) (hm:m<=1048576) (hl:∀ i,i<n->ln i<=1048576) (hl2:∀ i,i<m->ln' i<=1048576) :
  Calls Tryz.prog 249 #[.slice A n c,.slice B m d,.func (.func 189) #[] #[]] w (IffPost (EqT n m ln ln' V W) w):=by
 have hcf:∀ (x y:Value) (W:World),(callFunc 189 #[x,y]).run Tryz.prog W=.ok (.enter 189 #[x,y]) W:=fun _ _ _=>by kernel_rfl
 have HA:=hid ha
 have HB:=hid hb
 have HL:=hid hl
 have HL2:=hid hl2
 clear ha hb hl hl2
 by_cases hnm:n=m
 ·subst hnm
  have hd:((n:Int) != (n:Int))=false:=by simp
  go_enter Tryz.func249, Tryz.ntmps249
  go_wp2
  go_loopg [17] n (fun gg iv wx=>∃ i:Nat,iv=.int .i64 (i:Nat)/\i<=n/\n<=i+gg/\Hid (∀ t,t<i->EqI (ln t) (ln' t) (V t) (W t))/\Hid (Below w.heap.size w wx))
  case atStart=>exact ⟨0,rfl,by omega,by omega,fun t ht=>absurd ht (by omega),Below.refl _ _⟩
  case round =>
   obtain ⟨i,rfl,hi,hig,HE,HW⟩:=hrel
   have hi0:(0:Int)<=(i:Int):=by omega
   by_cases hlt:i<n
   ·have hlt':(i:Int)<(n:Int):=by omega
    obtain ⟨b,o,RA,rc,rfl,_,x0,_,_,hrow,_⟩:=(HA.out.on HW.out) i hlt
    obtain ⟨b2,o2,RB,rc2,rfl,_,y0,_,_,hrow2,_⟩:=(HB.out.on HW.out) i hlt
    have H1:=hid hrow
    have H2:=hid hrow2
    clear hrow hrow2
    go_wp2_with fail
    refine (zbM RA RB (ln i) (ln' i) rc rc2 (V i) (W i) wr H1.out H2.out (HL.out i hlt) (HL2.out i hlt)).mono ?_
    rintro e w2 ⟨b,rfl,hb,kb⟩
    have HB2:=hid (onS HW.out kb)
    have HBB:=hid hb
    clear kb hb x0 y0 H1 H2 HW
    cases b
    ·have HNO:Hid (¬ EqT n n ln ln' V W):=fun h=>by have:=HBB.out.2 (h.2 i hlt); cases this
     go_wp2
     go_ret
     exact zaq HNO.out HB2.out
    ·have HE2:Hid (∀ t,t<i+1->EqI (ln t) (ln' t) (V t) (W t)):=fun t ht=>by
      by_cases e:t=i
      ·rw [e]; exact HBB.out.1 rfl
      ·exact HE.out t (by omega)
     go_wp2
     go_roundg (gk - 1)
     case measure=>omega
     case rel=>exact ⟨i+1,by go_num,by omega,by omega,HE2,HB2⟩
   ·have hlt':¬ (i:Int)<(n:Int):=by omega
    have HY:Hid (EqT n n ln ln' V W):=⟨rfl,fun t ht=>HE.out t (by omega)⟩
    go_wp2
    go_ret
    exact zaT HY.out HW.out
 ·have hd:((n:Int) != (m:Int))=true:=by simp; omega
  have HNO:Hid (¬ EqT n m ln ln' V W):=fun h=>hnm h.1
  clear hnm
  go_enter Tryz.func249, Tryz.ntmps249
  go_wp2
  go_ret
  exact zaq HNO.out (Below.refl _ _)
def viewCell (a b c d:Value) (i:Nat):Value:=if i=0 then a else if i=1 then b else if i=2 then c else d
theorem KD.qc0 {w:World} {g:Nat} {T:TypeId} {a b c d:Value} (h:w.rowIs g T 4 (viewCell a b c d)) : w.cell? ⟨g,0,none⟩=some a:=h.cell (i:=0) (by decide)
theorem KD.qc1 {w:World} {g:Nat} {T:TypeId} {a b c d:Value} (h:w.rowIs g T 4 (viewCell a b c d)) : w.cell? ⟨g,1,none⟩=some b:=h.cell (i:=1) (by decide)
theorem KD.qc2 {w:World} {g:Nat} {T:TypeId} {a b c d:Value} (h:w.rowIs g T 4 (viewCell a b c d)) : w.cell? ⟨g,2,none⟩=some c:=h.cell (i:=2) (by decide)
theorem KD.qc3 {w:World} {g:Nat} {T:TypeId} {a b c d:Value} (h:w.rowIs g T 4 (viewCell a b c d)) : w.cell? ⟨g,3,none⟩=some d:=h.cell (i:=3) (by decide)
open KD
theorem ze8 {w:World} {a b c d:Value} {T:TypeId}:(w.alloc (.cells #[a,b,c,d] T)).rowIs w.heap.size T 4 (viewCell a b c d) :=
 ⟨_,zat rfl,rfl,fun i hi=>by
  rcases (show i=0∨i=1∨i=2∨i=3 by omega) with rfl | rfl | rfl | rfl <;> rfl⟩
theorem zcx {w w':World} {g:Nat} {T:TypeId} {f:Nat->Value} {a b c d:Value} (h:w.rowIs g T 4 f) (hw:w'=(((w.setCell ⟨g,0,none⟩ a).setCell ⟨g,1,none⟩ b).setCell ⟨g,2,none⟩ c).setCell ⟨g,3,none⟩ d):w'.rowIs g T 4 (viewCell a b c d)/\w.grownBy w' (some g):=by
 rw [hw]
 refine ⟨((((h.set 0 _).set 1 _).set 2 _).set 3 _).congr fun j hj=>?_,zak (zak (zak (zaK _ _ _ _) _ _) _ _) _ _⟩
 match j,hj with
 | 0,_=>rfl
 | 1,_=>rfl
 | 2,_=>rfl
 | 3,_=>rfl
def SOpenPost (P M : Int) (k : Nat) (f : Nat → Int) (cols : Nat) (T : Option Addr) (n d : Nat) (ln : Nat → Nat) (V : Nat → Nat → Int) (w : World) (e : Ending) (w' : World) : Prop :=
 Below w.heap.size w w'/\∃ v:Int,FirstErr (SpaceErrs P M k f cols n ln V) v /\
  ((v≠0/\e=.returned (.tuple #[.agg #[.pointer none,.int .i64 0,.slice none 0 0,.slice none 0 0],.int .i64 v])) ∨
   (v=0/\∃ (P' M' C g:Nat) (pv:Value) (p:Nat->Nat),P=P'/\M=M'/\cols=C/\e=.returned (.tuple #[.agg #[.pointer (some ⟨g,0,none⟩),.int .i64 (C:Nat),.slice T n d,pv],.int .i64 0]) /\
    GF w' w'.heap.size g P' M' (fun i=>(f i).toNat)/\Own w' w.heap.size 3 1 pv n (fun j _=>.int .i64 (p j:Nat))/\EchN (P' ^ M') n C C n p (natT V)))
theorem ze9 {q n k a:Nat} {p:Nat->Nat} {V W:Nat->Nat->Nat} (hE:EchN q n k k a p W) (h:a=n/\∀ i,i<a->∀ j,j<k->W i j=V i j):EchN q n k k n p V:=by
 obtain ⟨rfl,h2⟩:=h
 exact hE.congr (Nat.le_refl _) h2
theorem zgB (P M:Int) (A:Option Addr) (k c:Nat) (f:Nat->Int) (cols:Nat) (T:Option Addr) (n d:Nat) (ln:Nat->Nat) (V:Nat->Nat->Int) (w:World) (hr:IntsR w w.heap.size A k f) (h:IntRows w T n ln V) (hc1:1<=cols) :
  Calls Tryz.prog 209 #[.agg #[.int .i64 P,.int .i64 M,.slice A k c],.agg #[.int .i64 (cols:Nat),.slice T n d]] w (SOpenPost P M k f cols T n d ln V w):=by
 have HR:=hid hr
 have HT:=hid h
 clear hr h
 have rf:=zad (w:=w) (a:=.int .i64 P) (b:=.int .i64 M) (c:=.slice A k c) (T := 24)
 have hB:Below w.heap.size w (w.alloc (.cells #[.int .i64 P,.int .i64 M,.slice A k c] 24)):=(Below.refl _ _).alloc (Nat.le_refl _) _
 have hsz:(w.alloc (.cells #[.int .i64 P,.int .i64 M,.slice A k c] 24)).heap.size=w.heap.size+1:=by simp
 obtain ⟨w0,hw0⟩:∃ W,W=w.alloc (.cells #[.int .i64 P,.int .i64 M,.slice A k c] 24):=⟨_,rfl⟩
 have rm:=zai (w:=w0) (a:=.int .i64 (cols:Nat)) (b:=.slice T n d) (T := 97)
 have kb:Below w0.heap.size w0 (w0.alloc (.cells #[.int .i64 (cols:Nat),.slice T n d] 97)):=(Below.refl _ _).alloc (Nat.le_refl _) _
 have hsz1:(w0.alloc (.cells #[.int .i64 (cols:Nat),.slice T n d] 97)).heap.size=w0.heap.size+1:=by simp
 obtain ⟨w1,hw1⟩:∃ W,W=w0.alloc (.cells #[.int .i64 (cols:Nat),.slice T n d] 97):=⟨_,rfl⟩
 have ro:=ze8 (w:=w1) (a:=.pointer none) (b:=.int .i64 0) (c:=.slice none 0 0) (d:=.slice none 0 0) (T := 221)
 have kb2:Below w1.heap.size w1 (w1.alloc (.cells #[.pointer none,.int .i64 0,.slice none 0 0,.slice none 0 0] 221)):=(Below.refl _ _).alloc (Nat.le_refl _) _
 obtain ⟨w2,hw2⟩:∃ W,W=w1.alloc (.cells #[.pointer none,.int .i64 0,.slice none 0 0,.slice none 0 0] 221):=⟨_,rfl⟩
 rw [<-hw0] at hB rf hsz;rw [<-hw1] at rm kb hsz1;rw [<-hw2] at ro kb2;rw [hsz1,hsz] at ro;rw [hsz] at rm;replace rf:=zaa (zaa rf kb) kb2;replace rm:=zaa rm kb2;replace hB:=onS (onS hB kb) kb2
 go_enter Tryz.func209, Tryz.ntmps209
 go_upto_region 1 with fail
 rw [<-hw0,<-hw1,<-hw2];clear hw0 hw1 hw2 kb kb2 hsz hsz1
 obtain ⟨b0,hb0⟩:∃ b,b=w.heap.size:=⟨_,rfl⟩
 obtain ⟨b1,hb1⟩:∃ b,b=w.heap.size+1:=⟨_,rfl⟩
 obtain ⟨b2,hb2⟩:∃ b,b=w.heap.size+1+1:=⟨_,rfl⟩
 have hb2w:w.heap.size<=b2:=by omega
 rw [<-hb0] at rf;rw [<-hb1] at rm;rw [<-hb2] at ro;rw [<-hb2,<-hb1,<-hb0];clear hb0 hb1 hb2
 have q0:=qc0 rf
 have q1:=qc1 rf
 have q2:=qc2 rf
 have p0:=qc0 rm
 have p1:=qc1 rm
 go_wp2_with fail
 have hB2:=hB.size
 refine (zdg P M A k c f (cols:Int) T n d ln V w2 (HR.out.on hB) (HT.out.on hB) (by omega)).mono ?_
 rintro e w4 ⟨kb,v,hv,hcase⟩
 replace hB:=onS hB kb;replace rf:=zaa rf kb;replace rm:=zaa rm kb;replace ro:=zaa ro kb
 have HV:=hid hv
 clear kb hv q0 q1 q2 p0 p1
 rcases hcase with ⟨hv0,rfl⟩ | ⟨rfl,P,M,C,lv,pv,a,p,W,rfl,rfl,hCe,rfl,hMT,hP,hE,hRo⟩
 ·have hvn:(v != 0)=true:=by simpa using hv0
  have HV0:=hid hv0
  have HP9:=hid (FirstErr.app (r:=[(RrefN (P.toNat ^ M.toNat) n cols (natT V),5)]) (u:=v) (by simp) (show FirstErr [(GoodF P M k f,1),(ShapeM cols n ln,3),(ElemsM (P.toNat ^ M.toNat) n ln V,2)] v from HV.out) (fun _=>rfl) (fun h=>absurd h hv0))
  clear hv0 rm rf
  go_upto_region 2 with fail
  have kb1:Below w4.heap.size w4 (w4.alloc (Obj.cells #[.int .i64 0,.slice none 0 0] 97)):=(Below.refl _ _).alloc (Nat.le_refl _) _
  obtain ⟨w5,hw5⟩:∃ W,W=w4.alloc (Obj.cells #[.int .i64 0,.slice none 0 0] 97):=⟨_,rfl⟩
  rw [<-hw5] at kb1 ⊢;replace hB:=onS hB kb1;replace ro:=zaa ro kb1;clear hw5 kb1
  have r0:=ro.frozen 0
  have s0:=qc0 ro
  have r1:=ro.frozen 1
  have s1:=qc1 ro
  have r2:=ro.frozen 2
  have s2:=qc2 ro
  have r3:=ro.frozen 3
  have s3:=qc3 ro
  go_wp2
  clear r0 s0 r1 s1 r2 s2 r3 s3
  generalize hw9:World.setCell _ _ _=w6
  obtain ⟨row9,hg9⟩:=zcx ro hw9.symm
  clear hw9
  have hB9:=hB.grown hg9 hB.size (fun q e=>by injection e with e; omega)
  have e0:=qc0 row9
  have e1:=qc1 row9
  have e2:=qc2 row9
  have e3:=qc3 row9
  refine bodyPost_ret (v:=.tuple #[.agg #[.pointer none,.int .i64 0,.slice none 0 0,.slice none 0 0],.int .i64 v]) (by simp [results,Tryz.results209, go_sem,e0,e1,e2,e3]) rfl ?_
  exact ⟨hB9,v,by simpa [SpaceErrs] using HP9.out,.inl ⟨HV0.out,rfl⟩⟩
 ·obtain rfl:C=cols:=by omega
  clear hCe
  have hok:=HV.out
  rcases hok with ⟨_,h9⟩ | ⟨hgood,⟨_,h9⟩ | ⟨hs,⟨_,h9⟩ | ⟨he,_⟩⟩⟩
  ·cases h9
  ·cases h9
  ·cases h9
  rw [Int.toNat_natCast,Int.toNat_natCast] at he
  have HMV:=hid (zbV (HT.out.on hB) hs he).1
  have HLT:=hid (zbV (HT.out.on hB) hs he).2
  have hC2:C<=256:=by have:=hs.2.1; omega
  have hn2:n<=256:=by have:=hs.2.2.1; omega
  have han:=hE.le
  have HGO:=hid hgood
  have HCA:=hid (zdC (fieldLaws hgood.field.1) HLT.out hE hRo)
  have HPP:=hid (fun h=>ze9 (V:=natT V) hE h)
  have HLNS:Hid (∀ i,i<n->ln i=C):=fun i hi=>by have:=hs.2.2.2 i hi; omega
  have HMW0:=hMT.shape
  obtain ⟨LA,lc,hlv⟩:=HMW0
  subst hlv
  obtain ⟨PA,pc,hpv⟩:=hP.shape
  subst hpv
  have hq256:=hgood.field.1.1.2.2.2
  have HMW:=hid (hMT.rd (q:=P ^ M) hq256 fun i hi=>hE.lt i (by omega))
  have HPO:=hid hP
  clear hMT hP hE hRo hs he hgood
  go_upto_region 2 with fail
  have kb1:Below w4.heap.size w4 (w4.alloc (Obj.cells #[.int .i64 (C:Nat),.slice LA a lc] 97)):=(Below.refl _ _).alloc (Nat.le_refl _) _
  have rl:=zai (w:=w4) (a:=.int .i64 (C:Nat)) (b:=.slice LA a lc) (T := 97)
  obtain ⟨w5,hw5⟩:∃ W,W=w4.alloc (Obj.cells #[.int .i64 (C:Nat),.slice LA a lc] 97):=⟨_,rfl⟩
  obtain ⟨b6,hb6⟩:∃ b,b=w4.heap.size:=⟨_,rfl⟩
  rw [<-hw5] at kb1 rl ⊢;rw [<-hb6] at rl ⊢
  have HMW5:=hid (HMW.out.on kb1)
  have HMV5:=hid (HMV.out.on kb1)
  have HPO5:=hid (HPO.out.on kb1)
  replace hB:=onS hB kb1;replace ro:=zaa ro kb1;replace rf:=zaa rf kb1;replace rm:=zaa rm kb1;clear hw5 hb6 kb1 HMW HMV HPO
  have p1:=qc1 rm
  have l1:=qc1 rl
  go_wp2_with fail
  refine (zdL LA T a n lc d (fun _=>C) (fun _=>C) (fun i j=>((W i j:Nat):Int)) (fun i j=>((natT V i j:Nat):Int)) w5 HMW5.out HMV5.out (by omega) (by omega) (fun _ _=>by omega) (fun _ _=>by omega)).mono ?_
  rintro e w6 ⟨b,rfl,hb,kb⟩
  replace hB:=onS hB kb;replace ro:=zaa ro kb;replace rf:=zaa rf kb;replace rm:=zaa rm kb
  have HPO6:=hid (HPO5.out.on kb)
  have HEQ:Hid (EqT a n (fun _=>C) (fun _=>C) (fun i j=>((W i j:Nat):Int)) (fun i j=>((natT V i j:Nat):Int))↔a=n/\∀ i,i<a->∀ j,j<C->W i j=natT V i j):=by
   constructor
   ·intro h
    refine ⟨h.1,fun i hi j hj=>?_⟩
    have:=(h.2 i hi).2 j hj
    simp only at this
    omega
   ·intro h
    refine ⟨h.1,fun i hi=>⟨rfl,fun j hj=>?_⟩⟩
    show ((W i j:Nat):Int)=((natT V i j:Nat):Int)
    rw [h.2 i hi j hj]
  have HBB:=hid (hb.trans HEQ.out)
  have HP9:Hid (∀ u:Int,FirstErr [(RrefN (P ^ M) n C (natT V),5)] u->FirstErr (SpaceErrs (P:Int) (M:Int) k f C n ln V) u):=fun u hu=>by
   refine FirstErr.app (l:=[(GoodF (P:Int) (M:Int) k f,1),(ShapeM (C:Int) n ln,3),(ElemsM ((P:Int).toNat ^ (M:Int).toNat) n ln V,2)]) (by simp) (v:=0) (by simpa [MatErrs] using HV.out) (fun h=>absurd rfl h) fun _=>?_
   rw [Int.toNat_natCast,Int.toNat_natCast]
   exact hu
  clear kb hb p1 l1 rl HMW5 HMV5 HPO5 HEQ
  cases b
  ·have HNO:Hid (¬ RrefN (P ^ M) n C (natT V)):=fun h=>by have:=HBB.out.2 (HCA.out.1 h); cases this
   have r0:=ro.frozen 0
   have s0:=qc0 ro
   have r1:=ro.frozen 1
   have s1:=qc1 ro
   have r2:=ro.frozen 2
   have s2:=qc2 ro
   have r3:=ro.frozen 3
   have s3:=qc3 ro
   go_wp2
   clear r0 s0 r1 s1 r2 s2 r3 s3
   generalize hw9:World.setCell _ _ _=w7
   obtain ⟨row9,hg9⟩:=zcx ro hw9.symm
   clear hw9
   have hB9:=hB.grown hg9 hB.size (fun q e=>by injection e with e; omega)
   have e0:=qc0 row9
   have e1:=qc1 row9
   have e2:=qc2 row9
   have e3:=qc3 row9
   refine bodyPost_ret (v:=.tuple #[.agg #[.pointer none,.int .i64 0,.slice none 0 0,.slice none 0 0],.int .i64 5]) (by simp [results,Tryz.results209, go_sem,e0,e1,e2,e3]) rfl ?_
   exact ⟨hB9,5,HP9.out 5 (.inl ⟨HNO.out,rfl⟩),.inl ⟨by omega,rfl⟩⟩
  ·have HYES:=hid (HBB.out.1 rfl)
   have q0:=qc0 rf
   have q1:=qc1 rf
   have q2:=qc2 rf
   have hb26:b2<w6.heap.size:=ro.lt
   go_wp2_with fail
   refine (zdf (P:Int) (M:Int) A k c f w6 (HR.out.on hB)).mono ?_
   rintro e w7 ⟨kb,hN⟩
   replace hB:=onS hB kb;replace ro:=zaa ro kb;replace rm:=zaa rm kb
   have HPO7:=hid (HPO6.out.on kb)
   clear kb q0 q1 q2 rf HPO6
   rcases hN with ⟨hno,_⟩ | ⟨_,g,P',M',hPe,hMe,rfl,hgw,hG⟩
   ·exact absurd HGO.out hno
   obtain rfl:P=P':=by omega
   obtain rfl:M=M':=by omega
   have HG:=hid hG
   have hgl:=hG
   clear hG hPe hMe hgw
   have p0:=qc0 rm
   have p1:=qc1 rm
   have r0:=ro.frozen 0
   have s0:=qc0 ro
   have r1:=ro.frozen 1
   have s1:=qc1 ro
   have r2:=ro.frozen 2
   have s2:=qc2 ro
   have r3:=ro.frozen 3
   have s3:=qc3 ro
   clear hgl
   go_wp2
   clear r0 s0 r1 s1 r2 s2 r3 s3 p0 p1
   generalize hw9:World.setCell _ _ _=w8
   obtain ⟨row9,hg9⟩:=zcx ro hw9.symm
   clear hw9
   have hB9:=hB.grown hg9 hB.size (fun q e=>by injection e with e; omega)
   have hP9:=HPO7.out.kept hg9 (zau ro HPO7.out (by decide))
   have hG9:=(HG.out.grown hg9 hb26).gf
   have e0:=qc0 row9
   have e1:=qc1 row9
   have e2:=qc2 row9
   have e3:=qc3 row9
   have han2:a=n:=HYES.out.1
   have hpiv:=HPP.out HYES.out
   subst han2
   refine bodyPost_ret (v:=.tuple #[.agg #[.pointer (some ⟨g,0,none⟩),.int .i64 (C:Nat),.slice T a d,.slice PA a pc],.int .i64 0]) (by simp [results,Tryz.results209, go_sem,e0,e1,e2,e3]) rfl ?_
   exact ⟨hB9,0,HP9.out 0 (.inr ⟨⟨p,hpiv⟩,rfl⟩),.inr ⟨rfl,P,M,C,g,_,p,rfl,rfl,rfl,rfl,hG9,hP9.mono hB2,hpiv⟩⟩
theorem zfW (P M:Int) (A:Option Addr) (k c:Nat) (f:Nat->Int) (cols:Nat) (T:Option Addr) (n d:Nat) (ln:Nat->Nat) (V:Nat->Nat->Int) (w:World) (hr:IntsR w w.heap.size A k f) (h:IntRows w T n ln V) (hc1:1<=cols) :
  Calls Tryz.prog 144 #[.agg #[.int .i64 P,.int .i64 M,.slice A k c],.agg #[.int .i64 (cols:Nat),.slice T n d]] w (ErrsPost (SpaceErrs P M k f cols n ln V) w):=by
 have HR:=hid hr
 have HT:=hid h
 clear hr h
 have rf:=zad (w:=w) (a:=.int .i64 P) (b:=.int .i64 M) (c:=.slice A k c) (T := 24)
 have hB:Below w.heap.size w (w.alloc (.cells #[.int .i64 P,.int .i64 M,.slice A k c] 24)):=(Below.refl _ _).alloc (Nat.le_refl _) _
 have hsz:(w.alloc (.cells #[.int .i64 P,.int .i64 M,.slice A k c] 24)).heap.size=w.heap.size+1:=by simp
 obtain ⟨w0,hw0⟩:∃ W,W=w.alloc (.cells #[.int .i64 P,.int .i64 M,.slice A k c] 24):=⟨_,rfl⟩
 have rm:=zai (w:=w0) (a:=.int .i64 (cols:Nat)) (b:=.slice T n d) (T := 97)
 have kb:Below w0.heap.size w0 (w0.alloc (.cells #[.int .i64 (cols:Nat),.slice T n d] 97)):=(Below.refl _ _).alloc (Nat.le_refl _) _
 obtain ⟨w1,hw1⟩:∃ W,W=w0.alloc (.cells #[.int .i64 (cols:Nat),.slice T n d] 97):=⟨_,rfl⟩
 rw [<-hw0] at hB rf hsz;rw [<-hw1] at rm kb;rw [hsz] at rm;replace rf:=zaa rf kb;replace hB:=onS hB kb
 go_enter Tryz.func144, Tryz.ntmps144
 go_upto_region 1 with fail
 rw [<-hw0,<-hw1];clear hw0 hw1 kb hsz
 have q0:=qc0 rf
 have q1:=qc1 rf
 have q2:=qc2 rf
 have p0:=qc0 rm
 have p1:=qc1 rm
 go_wp2_with fail
 refine (zgB P M A k c f cols T n d ln V w1 (HR.out.on hB) (HT.out.on hB) hc1).mono ?_
 rintro e w2 ⟨kb,v,hv,hcase⟩
 have HB:=hid (onS hB kb)
 have HV:=hid hv
 clear kb hv q0 q1 q2 p0 p1 rf rm hB
 rcases hcase with ⟨hv0,rfl⟩ | ⟨rfl,P,M,C,g,pv,p,rfl,rfl,_,rfl,_,hP,_⟩
 ·clear hv0
  go_wp2
  go_ret
  exact errsPost HV.out (HB.out.alloc HB.out.size _)
 ·obtain ⟨PA,pc,hpv⟩:=hP.shape
  subst hpv
  clear hP
  go_wp2
  go_ret
  exact errsPost HV.out (HB.out.alloc HB.out.size _)
def LenOk (N:Int):Prop:=1<=N/\N<=64
theorem zfa (N:Int) (w:World):Calls Tryz.prog 143 #[.int .i64 N] w (ErrsPost [(LenOk N,4)] w):=by
 by_cases h1:N<1
 ·have hd:decide (N<1)=true:=by simpa using h1
  have hno:Hid (FirstErr [(LenOk N,4)] 4):=.inl ⟨fun h=>by have:=h.1; have:=h.2; omega,rfl⟩
  go_enter Tryz.func143, Tryz.ntmps143
  go_wp2
  go_ret
  exact errsPost hno.out (Below.refl _ _)
 ·have hd:decide (N<1)=false:=by simpa using h1
  by_cases h2:64<N
  ·have hd2:decide (64<N)=true:=by simpa using h2
   have hno:Hid (FirstErr [(LenOk N,4)] 4):=.inl ⟨fun h=>by have:=h.1; have:=h.2; omega,rfl⟩
   go_enter Tryz.func143, Tryz.ntmps143
   go_wp2
   go_ret
   exact errsPost hno.out (Below.refl _ _)
  ·have hd2:decide (64<N)=false:=by simpa using h2
   have hyes:Hid (FirstErr [(LenOk N,4)] 0):=.inr ⟨⟨by omega,by omega⟩,rfl⟩
   go_enter Tryz.func143, Tryz.ntmps143
   go_wp2
   go_ret
   exact errsPost hyes.out (Below.refl _ _)
theorem zeh (P M N:Int) (A T:Option Addr) (k c n d:Nat) (w:World) :
  Calls Tryz.prog 127 #[.agg #[.int .i64 P,.int .i64 M,.slice A k c,.int .i64 N,.slice T n d]] w fun e w'=>e=.returned (.agg #[.int .i64 N,.slice T n d])/\Below w.heap.size w w':=by
 have rf:=zav (w:=w) (a:=.int .i64 P) (b:=.int .i64 M) (c:=.slice A k c) (d:=.int .i64 N) (e:=.slice T n d) (T := 27)
 have hB:Below w.heap.size w (w.alloc (.cells #[.int .i64 P,.int .i64 M,.slice A k c,.int .i64 N,.slice T n d] 27)):=(Below.refl _ _).alloc (Nat.le_refl _) _
 have hsz:(w.alloc (.cells #[.int .i64 P,.int .i64 M,.slice A k c,.int .i64 N,.slice T n d] 27)).heap.size=w.heap.size+1:=by simp
 obtain ⟨w0,hw0⟩:∃ W,W=w.alloc (.cells #[.int .i64 P,.int .i64 M,.slice A k c,.int .i64 N,.slice T n d] 27):=⟨_,rfl⟩
 have ro:=zai (w:=w0) (a:=.int .i64 0) (b:=.slice none 0 0) (T := 97)
 have kb:Below w0.heap.size w0 (w0.alloc (.cells #[.int .i64 0,.slice none 0 0] 97)):=(Below.refl _ _).alloc (Nat.le_refl _) _
 obtain ⟨w1,hw1⟩:∃ W,W=w0.alloc (.cells #[.int .i64 0,.slice none 0 0] 97):=⟨_,rfl⟩
 rw [<-hw0] at hB rf hsz;rw [<-hw1] at ro kb;rw [hsz] at ro;replace rf:=zaa rf kb;replace hB:=onS hB kb
 go_enter Tryz.func127, Tryz.ntmps127
 go_upto_region 1 with fail
 rw [<-hw0,<-hw1];clear hw0 hw1 kb hsz
 have q3:=qc3 rf
 have q4:=qc4 rf
 have r0:=ro.frozen 0
 have s0:=qc0 ro
 have r1:=ro.frozen 1
 have s1:=qc1 ro
 go_wp2
 clear r0 s0 r1 s1 q3 q4 rf
 generalize hw9:World.setCell _ _ _=w2
 obtain ⟨row9,hg9⟩:=zaS ro hw9.symm
 clear hw9
 have hB9:=hB.grown hg9 hB.size (fun q e=>by injection e with e; omega)
 have e0:=qc0 row9
 have e1:=qc1 row9
 refine bodyPost_ret (v:=.agg #[.int .i64 N,.slice T n d]) (by simp [results,Tryz.results127, go_sem,e0,e1]) rfl ?_
 exact ⟨rfl,hB9⟩
theorem zfX (P M:Int) (A:Option Addr) (k c:Nat) (f:Nat->Int) (N:Int) (T:Option Addr) (n d:Nat) (ln:Nat->Nat) (V:Nat->Nat->Int) (w:World) (hr:IntsR w w.heap.size A k f) (h:IntRows w T n ln V) :
  Calls Tryz.prog 62 #[.agg #[.int .i64 P,.int .i64 M,.slice A k c,.int .i64 N,.slice T n d]] w (ErrsPost (CodeErrs P M k f N n ln V) w):=by
 have HR:=hid hr
 have HT:=hid h
 clear hr h
 have rf:=zav (w:=w) (a:=.int .i64 P) (b:=.int .i64 M) (c:=.slice A k c) (d:=.int .i64 N) (e:=.slice T n d) (T := 27)
 have hB:Below w.heap.size w (w.alloc (.cells #[.int .i64 P,.int .i64 M,.slice A k c,.int .i64 N,.slice T n d] 27)):=(Below.refl _ _).alloc (Nat.le_refl _) _
 obtain ⟨w1,hw1⟩:∃ W,W=w.alloc (.cells #[.int .i64 P,.int .i64 M,.slice A k c,.int .i64 N,.slice T n d] 27):=⟨_,rfl⟩
 rw [<-hw1] at hB rf
 go_enter Tryz.func62, Tryz.ntmps62
 go_upto_region 1 with fail
 rw [<-hw1];clear hw1
 have q0:=qc0 rf
 have q1:=qc1 rf
 have q2:=qc2 rf
 go_wp2_with fail
 refine (ze7 P M A k c f w1 (HR.out.on hB)).mono ?_
 rintro e w2 ⟨v,rfl,hv,kb⟩
 replace hB:=onS hB kb;replace rf:=zaa rf kb;clear kb q0 q1 q2
 rcases hv with ⟨rfl,hgood⟩ | ⟨rfl,hno⟩
 ·have HGO:=hid hgood
  clear hgood
  have q3:=qc3 rf
  go_wp2_with fail
  refine (zfa N w2).mono ?_
  rintro e w3 ⟨v,rfl,hv,kb⟩
  replace hB:=onS hB kb;replace rf:=zaa rf kb;clear kb q3
  rcases hv with ⟨hno,rfl⟩ | ⟨hN,hv0⟩
  ·have hf:Hid (FirstErr (CodeErrs P M k f N n ln V) 4):=.inr ⟨HGO.out,.inl ⟨hno,rfl⟩⟩
   clear hno
   go_wp2
   go_ret
   exact errsPost hf.out hB
  ·have hv0:v=0:=hv0
   subst hv0
   have hN:1<=N/\N<=64:=hN
   obtain ⟨C,rfl⟩:∃ C:Nat,N=C:=⟨N.toNat,by omega⟩
   have HNR:=hid hN
   have hC1:1<=C:=by omega
   clear hN
   have q0:=qc0 rf
   have q1:=qc1 rf
   have q2:=qc2 rf
   have q3:=qc3 rf
   have q4:=qc4 rf
   go_wp2
   refine wp_region_held_drew (S:=fun w'=>w'.cell? ⟨w.heap.size,0,none⟩=some (.int .i64 P)/\w'.cell? ⟨w.heap.size,1,none⟩=some (.int .i64 M)/\w'.cell? ⟨w.heap.size,2,none⟩=some (.slice A k c)/\w'.cell? ⟨w.heap.size,3,none⟩=some (.int .i64 (C:Nat))/\w'.cell? ⟨w.heap.size,4,none⟩=some (.slice T n d)) (by kernel_rfl) ⟨cellS (Below.refl _ _).drew q0,cellS (Below.refl _ _).drew q1,cellS (Below.refl _ _).drew q2,cellS (Below.refl _ _).drew q3,cellS (Below.refl _ _).drew q4⟩ (fun hHeld=>?_)
   obtain ⟨w4,hw⟩:∃ W,W=World.drew w3:=⟨_,rfl⟩
   have kb:Below w3.heap.size w3 w4:=by rw [hw]; exact (Below.refl _ _).drew
   rw [<-hw] at hHeld ⊢;clear hw;replace hB:=onS hB kb;replace rf:=zaa rf kb;clear kb q0 q1 q2 q3 q4
   refine tkq 0 (h:=tkq 1 (h:=tkq 2 (h:=rdq 3 (h:=fun K hK=>?_))))
   go_simp
   go_wp2_with fail
   refine (zeh P M (C:Int) A T k c n d w4).mono ?_
   rintro e w5 ⟨rfl,kb⟩
   replace hB:=onS hB kb;replace rf:=zaa rf kb;clear kb
   refine bkq hK ⟨qc0 rf,qc1 rf,qc2 rf,qc3 rf,qc4 rf⟩ (h:=fun hHeld=>?_)
   clear hK K
   refine rdq 4 (h:=fun K hK=>?_)
   go_simp
   go_wp2_with fail
   refine (zfW P M A k c f C T n d ln V w5 (HR.out.on hB) (HT.out.on hB) hC1).mono ?_
   rintro e w6 ⟨v,rfl,hv,kb⟩
   replace hB:=onS hB kb;replace rf:=zaa rf kb
   have hf:Hid (FirstErr (CodeErrs P M k f (C:Int) n ln V) v):=by
    rcases hv with ⟨hno,_⟩ | ⟨_,hv⟩
    ·exact absurd HGO.out hno
    ·refine .inr ⟨HGO.out,.inr ⟨HNR.out,?_⟩⟩
     rw [Int.toNat_natCast]
     exact hv
   clear kb hv
   refine bkq hK ⟨qc0 rf,qc1 rf,qc2 rf,qc3 rf,qc4 rf⟩ (h:=fun hHeld=>?_)
   clear hK K
   refine tkq 5 (h:=?_)
   refine wpAnyH_done (by kernel_rfl) ?_ _
   clear hHeld
   go_wp2
   go_ret
   exact errsPost hf.out hB
 ·have hf:Hid (FirstErr (CodeErrs P M k f N n ln V) 1):=.inl ⟨hno,rfl⟩
  clear hno
  go_wp2
  go_ret
  exact errsPost hf.out hB
theorem zfY {w:World} {g:Nat} {T:TypeId} {a b c:Value} (v:Value) (h:w.rowIs g T 3 (fldCell a b c)):(w.setCell ⟨g,2,none⟩ v).rowIs g T 3 (fldCell a b v):=(h.set 2 v).congr fun j hj=>by
 match j,hj with
 | 0,_=>rfl
 | 1,_=>rfl
 | 2,_=>rfl
theorem zhv (P M:Int) (A:Option Addr) (k c:Nat) (f:Nat->Int) (w:World) (h:IntsR w w.heap.size A k f) (hkc:k<=c) (hk:k<=1048576) :
  Calls Tryz.prog 203 #[.agg #[.int .i64 P,.int .i64 M,.slice A k c]] w (FieldPost P M k f w):=by
 have HR:=hid h
 clear h
 have rf:=zad (w:=w) (a:=.int .i64 P) (b:=.int .i64 M) (c:=.slice A k c) (T := 24)
 have hB:Below w.heap.size w (w.alloc (.cells #[.int .i64 P,.int .i64 M,.slice A k c] 24)):=(Below.refl _ _).alloc (Nat.le_refl _) _
 have hsz:(w.alloc (.cells #[.int .i64 P,.int .i64 M,.slice A k c] 24)).heap.size=w.heap.size+1:=by simp
 obtain ⟨w0,hw0⟩:∃ W,W=w.alloc (.cells #[.int .i64 P,.int .i64 M,.slice A k c] 24):=⟨_,rfl⟩
 have rm:=zad (w:=w0) (a:=.int .i64 0) (b:=.int .i64 0) (c:=.slice none 0 0) (T := 24)
 have kb:Below w0.heap.size w0 (w0.alloc (.cells #[.int .i64 0,.int .i64 0,.slice none 0 0] 24)):=(Below.refl _ _).alloc (Nat.le_refl _) _
 obtain ⟨w1,hw1⟩:∃ W,W=w0.alloc (.cells #[.int .i64 0,.int .i64 0,.slice none 0 0] 24):=⟨_,rfl⟩
 rw [<-hw0] at hB rf hsz;rw [<-hw1] at rm kb;rw [hsz] at rm;replace rf:=zaa rf kb;replace hB:=onS hB kb
 go_enter Tryz.func203, Tryz.ntmps203
 go_upto_region 1 with fail
 rw [<-hw0,<-hw1];clear hw0 hw1 kb hsz
 have q2:=qc2 rf
 go_wp2_with fail
 refine (zbm A k c f w1 (HR.out.on hB) hkc hk).mono ?_
 rintro e w2 ⟨A2,c2,rfl,hO,kb⟩
 have hB1:=hB.size
 replace hB:=onS hB kb;replace rf:=zaa rf kb;replace rm:=zaa rm kb
 have HO:=hid (hO.mono hB1)
 clear kb q2 hO hB1
 have r2:=rf.frozen 2
 have s2:=qc2 rf
 go_upto_region 2 with fail
 clear r2 s2
 have rf3:=zfY (.slice A2 k c2) rf
 have rm3:=rm.setOther (a:=⟨w.heap.size,2,none⟩) (by simp) (.slice A2 k c2)
 have hO3:=HO.out.setCell (a:=⟨w.heap.size,2,none⟩) (fun e=>(zau rf HO.out (by decide)).elim (fun h=>by rw [h] at e; cases e) fun h=>h e) (.slice A2 k c2)
 have hB3:=hB.setCell (p:=⟨w.heap.size,2,none⟩) (Nat.le_refl _) (.slice A2 k c2)
 obtain ⟨w3,hw3⟩:∃ W,W=w2.setCell ⟨w.heap.size,2,none⟩ (.slice A2 k c2):=⟨_,rfl⟩
 rw [<-hw3] at rf3 rm3 hO3 hB3 ⊢;clear hw3 rf rm HO hB
 have HO3:=hid hO3
 clear hO3
 have q0:=qc0 rf3
 have q1:=qc1 rf3
 have q2:=qc2 rf3
 have r0:=rm3.frozen 0
 have s0:=qc0 rm3
 have r1:=rm3.frozen 1
 have s1:=qc1 rm3
 have r2:=rm3.frozen 2
 have s2:=qc2 rm3
 go_wp2
 clear r0 s0 r1 s1 r2 s2 q0 q1 q2
 generalize hw9:World.setCell _ _ _=w4
 obtain ⟨row9,hg9⟩:=zfx rm3 hw9.symm
 clear hw9
 have hB9:=hB3.grown hg9 hB3.size (fun q e=>by injection e with e; omega)
 have hO9:=HO3.out.kept hg9 (zau rm3 HO3.out (by decide))
 have e0:=qc0 row9
 have e1:=qc1 row9
 have e2:=qc2 row9
 refine bodyPost_ret (v:=.agg #[.int .i64 P,.int .i64 M,.slice A2 k c2]) (by simp [results,Tryz.results203, go_sem,e0,e1,e2]) rfl ?_
 exact ⟨_,rfl,hO9,hB9⟩
def OfPost (P M N:Int) (k n:Nat) (f:Nat->Int) (T:Option Addr) (d:Nat) (w:World) (e:Ending) (w':World):Prop :=
 ∃ v,e=.returned (.tuple #[.agg #[.int .i64 P,.int .i64 M,v,.int .i64 N,.slice T n d],.int .i64 0])/\Own w' w.heap.size 3 1 v k (fun j _=>.int .i64 (f j))/\Below w.heap.size w w'
theorem zh3 (P M N:Int) (A:Option Addr) (k c:Nat) (f:Nat->Int) (T:Option Addr) (n d:Nat) (w:World) (h:IntsR w w.heap.size A k f) (hkc:k<=c) (hk:k<=1048576) :
  Calls Tryz.prog 128 #[.agg #[.int .i64 P,.int .i64 M,.slice A k c],.agg #[.int .i64 N,.slice T n d],.int .i64 0] w (OfPost P M N k n f T d w):=by
 have HR:=hid h
 clear h
 have rf:=zad (w:=w) (a:=.int .i64 P) (b:=.int .i64 M) (c:=.slice A k c) (T := 24)
 have hB:Below w.heap.size w (w.alloc (.cells #[.int .i64 P,.int .i64 M,.slice A k c] 24)):=(Below.refl _ _).alloc (Nat.le_refl _) _
 have hsz:(w.alloc (.cells #[.int .i64 P,.int .i64 M,.slice A k c] 24)).heap.size=w.heap.size+1:=by simp
 obtain ⟨w0,hw0⟩:∃ W,W=w.alloc (.cells #[.int .i64 P,.int .i64 M,.slice A k c] 24):=⟨_,rfl⟩
 have rm:=zai (w:=w0) (a:=.int .i64 N) (b:=.slice T n d) (T := 97)
 have kb:Below w0.heap.size w0 (w0.alloc (.cells #[.int .i64 N,.slice T n d] 97)):=(Below.refl _ _).alloc (Nat.le_refl _) _
 have hsz1:(w0.alloc (.cells #[.int .i64 N,.slice T n d] 97)).heap.size=w0.heap.size+1:=by simp
 obtain ⟨w1,hw1⟩:∃ W,W=w0.alloc (.cells #[.int .i64 N,.slice T n d] 97):=⟨_,rfl⟩
 have ro:=zav (w:=w1) (a:=.int .i64 0) (b:=.int .i64 0) (c:=.slice none 0 0) (d:=.int .i64 0) (e:=.slice none 0 0) (T := 27)
 have kb2:Below w1.heap.size w1 (w1.alloc (.cells #[.int .i64 0,.int .i64 0,.slice none 0 0,.int .i64 0,.slice none 0 0] 27)):=(Below.refl _ _).alloc (Nat.le_refl _) _
 obtain ⟨w2,hw2⟩:∃ W,W=w1.alloc (.cells #[.int .i64 0,.int .i64 0,.slice none 0 0,.int .i64 0,.slice none 0 0] 27):=⟨_,rfl⟩
 rw [<-hw0] at hB rf hsz;rw [<-hw1] at rm kb hsz1;rw [<-hw2] at ro kb2;rw [hsz1,hsz] at ro;rw [hsz] at rm;replace rf:=zaa (zaa rf kb) kb2;replace rm:=zaa rm kb2;replace hB:=onS (onS hB kb) kb2
 go_enter Tryz.func128, Tryz.ntmps128
 go_upto_region 1 with fail
 rw [<-hw0,<-hw1,<-hw2];clear hw0 hw1 hw2 kb kb2 hsz hsz1
 obtain ⟨b0,hb0⟩:∃ b,b=w.heap.size:=⟨_,rfl⟩
 obtain ⟨b1,hb1⟩:∃ b,b=w.heap.size+1:=⟨_,rfl⟩
 obtain ⟨b2,hb2⟩:∃ b,b=w.heap.size+1+1:=⟨_,rfl⟩
 have hb2w:w.heap.size<=b2:=by omega
 rw [<-hb0] at rf;rw [<-hb1] at rm;rw [<-hb2] at ro;rw [<-hb2,<-hb1,<-hb0];clear hb0 hb1 hb2
 go_wp2
 refine wp_region_held_drew (S:=fun w'=>w'.cell? ⟨b0,0,none⟩=some (.int .i64 P)/\w'.cell? ⟨b0,1,none⟩=some (.int .i64 M)/\w'.cell? ⟨b0,2,none⟩=some (.slice A k c)/\w'.cell? ⟨b1,0,none⟩=some (.int .i64 N)/\w'.cell? ⟨b1,1,none⟩=some (.slice T n d)) (by kernel_rfl) ⟨cellS (Below.refl _ _).drew (rf.cell (i:=0) (by omega)),cellS (Below.refl _ _).drew (rf.cell (i:=1) (by omega)),cellS (Below.refl _ _).drew (rf.cell (i:=2) (by omega)),cellS (Below.refl _ _).drew (rm.cell (i:=0) (by omega)),cellS (Below.refl _ _).drew (rm.cell (i:=1) (by omega))⟩ (fun hHeld=>?_)
 obtain ⟨w3,hw⟩:∃ W,W=World.drew w2:=⟨_,rfl⟩
 have kb:Below w2.heap.size w2 w3:=by rw [hw]; exact (Below.refl _ _).drew
 rw [<-hw] at hHeld ⊢;clear hw;replace hB:=onS hB kb;replace rf:=zaa rf kb;replace rm:=zaa rm kb;replace ro:=zaa ro kb;clear kb
 refine tkq 0 (h:=tkq 2 (h:=tkq 3 (h:=tkq 4 (h:=tkq 5 (h:=rdq 1 (h:=fun K hK=>?_))))))
 go_simp
 go_wp2_with fail
 refine (zhv P M A k c f w3 (HR.out.on hB) hkc hk).mono ?_
 rintro e w4 ⟨v,rfl,hO,kb⟩
 have hB3:=hB.size
 replace hB:=onS hB kb;replace rf:=zaa rf kb;replace rm:=zaa rm kb;replace ro:=zaa ro kb
 obtain ⟨A2,c2,hv⟩:=hO.shape
 subst hv
 have HO:=hid (hO.mono hB3)
 clear kb hO hB3
 refine bkq hK ⟨qc0 rf,qc1 rf,qc2 rf,qc0 rm,qc1 rm⟩ (h:=fun hHeld=>?_)
 clear hK K
 refine tkq 6 (h:=rdq 7 (h:=fun K hK=>?_))
 have r0:=ro.frozen 0
 have s0:=qc0 ro
 have r1:=ro.frozen 1
 have s1:=qc1 ro
 have r2:=ro.frozen 2
 have s2:=qc2 ro
 have r3:=ro.frozen 3
 have s3:=qc3 ro
 have r4:=ro.frozen 4
 have s4:=qc4 ro
 go_simp
 clear r0 s0 r1 s1 r2 s2 r3 s3 r4 s4
 generalize hw9:World.setCell _ _ _=w5
 obtain ⟨row9,hg9⟩:=zcq ro hw9.symm
 clear hw9
 have hB9:=hB.grown hg9 hB.size (fun q e=>by injection e with e; omega)
 have hO9:=HO.out.kept hg9 (zau ro HO.out (by decide))
 have hf0:=rf.lt
 have hm0:=rm.lt
 have hnf:b0≠b2:=fun e=>by
  obtain ⟨cs,h1,_⟩:=rf
  obtain ⟨cs',h2,_⟩:=ro
  rw [e,h2] at h1
  injection h1 with h1
  injection h1 with _ h1
  exact absurd h1 (by decide)
 have hnm:b1≠b2:=fun e=>by
  obtain ⟨cs,h1,_⟩:=rm
  obtain ⟨cs',h2,_⟩:=ro
  rw [e,h2] at h1
  injection h1 with h1
  injection h1 with _ h1
  exact absurd h1 (by decide)
 have rf9:=zah rf hg9 hnf
 have rm9:=zah rm hg9 hnm
 clear ro rf rm hg9 hf0 hm0 hnf hnm HO hB
 have e0:=qc0 row9
 have e1:=qc1 row9
 have e2:=qc2 row9
 have e3:=qc3 row9
 have e4:=qc4 row9
 refine bkq hK ⟨qc0 rf9,qc1 rf9,qc2 rf9,qc0 rm9,qc1 rm9⟩ (h:=fun hHeld=>?_)
 clear hK K
 refine tkq 8 (h:=?_)
 refine wpAnyH_done (by kernel_rfl) ?_ _
 clear hHeld
 go_wp2
 refine bodyPost_ret (v:=.tuple #[.agg #[.int .i64 P,.int .i64 M,.slice A2 k c2,.int .i64 N,.slice T n d],.int .i64 0]) (by simp [results,Tryz.results128, go_sem,e0,e1,e2,e3,e4]) rfl ?_
 exact ⟨_,rfl,hO9,hB9⟩
def CDualPost (P M:Int) (k:Nat) (f:Nat->Int) (N:Int) (n:Nat) (ln:Nat->Nat) (V:Nat->Nat->Int) (w:World) (e:Ending) (w':World):Prop :=
 Below w.heap.size w w'/\∃ v:Int,FirstErr (CodeErrs P M k f N n ln V) v /\
  ((v≠0/\e=.returned (.tuple #[.agg #[.int .i64 0,.int .i64 0,.slice none 0 0,.int .i64 0,.slice none 0 0],.int .i64 v])) ∨
   (v=0/\∃ P' M' N':Nat,P=P'/\M=M'/\N=N'/\DualPost P' M' (fun i=>(f i).toNat) k n N' (natT V) w e w'))
theorem zgC (P M:Int) (A:Option Addr) (k c:Nat) (f:Nat->Int) (N:Int) (T:Option Addr) (n d:Nat) (ln:Nat->Nat) (V:Nat->Nat->Int) (w:World) (hr:IntsR w w.heap.size A k f) (h:IntRows w T n ln V) (hkc:k<=c) :
  Calls Tryz.prog 50 #[.agg #[.int .i64 P,.int .i64 M,.slice A k c,.int .i64 N,.slice T n d]] w (CDualPost P M k f N n ln V w):=by
 have HR:=hid hr
 have HT:=hid h
 clear hr h
 have rf:=zav (w:=w) (a:=.int .i64 P) (b:=.int .i64 M) (c:=.slice A k c) (d:=.int .i64 N) (e:=.slice T n d) (T := 27)
 have hB:Below w.heap.size w (w.alloc (.cells #[.int .i64 P,.int .i64 M,.slice A k c,.int .i64 N,.slice T n d] 27)):=(Below.refl _ _).alloc (Nat.le_refl _) _
 have hsz:(w.alloc (.cells #[.int .i64 P,.int .i64 M,.slice A k c,.int .i64 N,.slice T n d] 27)).heap.size=w.heap.size+1:=by simp
 obtain ⟨w0,hw0⟩:∃ W,W=w.alloc (.cells #[.int .i64 P,.int .i64 M,.slice A k c,.int .i64 N,.slice T n d] 27):=⟨_,rfl⟩
 have ro:=zav (w:=w0) (a:=.int .i64 0) (b:=.int .i64 0) (c:=.slice none 0 0) (d:=.int .i64 0) (e:=.slice none 0 0) (T := 27)
 have kb:Below w0.heap.size w0 (w0.alloc (.cells #[.int .i64 0,.int .i64 0,.slice none 0 0,.int .i64 0,.slice none 0 0] 27)):=(Below.refl _ _).alloc (Nat.le_refl _) _
 obtain ⟨w1,hw1⟩:∃ W,W=w0.alloc (.cells #[.int .i64 0,.int .i64 0,.slice none 0 0,.int .i64 0,.slice none 0 0] 27):=⟨_,rfl⟩
 rw [<-hw0] at hB rf hsz;rw [<-hw1] at ro kb;rw [hsz] at ro;replace rf:=zaa rf kb;replace hB:=onS hB kb
 go_enter Tryz.func50, Tryz.ntmps50
 go_upto_region 1 with fail
 rw [<-hw0,<-hw1];clear hw0 hw1 kb hsz
 obtain ⟨b0,hb0⟩:∃ b,b=w.heap.size:=⟨_,rfl⟩
 obtain ⟨b2,hb2⟩:∃ b,b=w.heap.size+1:=⟨_,rfl⟩
 have hb2w:w.heap.size<=b2:=by omega
 have hb02:b0≠b2:=by omega
 rw [<-hb0] at rf;rw [<-hb2] at ro;rw [<-hb2,<-hb0];clear hb0 hb2
 have q0:=qc0 rf
 have q1:=qc1 rf
 have q2:=qc2 rf
 have q3:=qc3 rf
 have q4:=qc4 rf
 go_wp2_with fail
 refine (zfX P M A k c f N T n d ln V w1 (HR.out.on hB) (HT.out.on hB)).mono ?_
 rintro e w2 ⟨v,rfl,hv,kb⟩
 replace hB:=onS hB kb;replace rf:=zaa rf kb;replace ro:=zaa ro kb
 have HV:=hid hv
 clear kb hv q0 q1 q2 q3 q4
 by_cases hv0:v=0
 ·subst hv0
  obtain ⟨P,M,N,rfl,rfl,rfl,hC⟩:=zc7 (HR.out.on hB) (HT.out.on hB) HV.out
  have HC:=hid hC
  have hN1:=hC.ln1
  have hk8:=hC.k_le
  clear hC
  have HKE:Hid (∀ {v:Int},FirstErr (MatErrs (P:Int) (M:Int) k f (N:Int) n ln V) v->v=0):=by
   have hh:=HV.out
   rcases hh with ⟨_,h9⟩ | ⟨h1,⟨_,h9⟩ | ⟨_,⟨_,h9⟩ | ⟨h3,⟨_,h9⟩ | ⟨h4,_⟩⟩⟩⟩
   ·cases h9
   ·cases h9
   ·cases h9
   ·cases h9
   intro v hf
   rcases hf with ⟨h,_⟩ | ⟨_,⟨h,_⟩ | ⟨_,⟨h,_⟩ | ⟨_,hf⟩⟩⟩
   ·exact absurd h1 h
   ·exact absurd h3 h
   ·exact absurd h4 h
   ·exact hf
  obtain ⟨w9,hw9⟩:∃ W,W=w2:=⟨_,rfl⟩
  go_wp2
  clear hw9 w9
  go_cut [5,6] (fun v5 v6 wx=>∃ (mb:Nat) (lv:Value) (a:Nat) (W:Nat->Nat->Nat),v5=.pointer (some ⟨mb,0,none⟩)/\v6=.int .i64 0/\wx.rowIs mb 97 2 (matCell (.int .i64 (N:Nat)) lv)/\MTab wx w.heap.size lv a N W/\NullRel (P ^ M) (addF P M) (mulF P M fun i=>(f i).toNat) (negF P M) n N (natT V) a W/\wx.rowIs b0 27 5 (codCell (.int .i64 (P:Nat)) (.int .i64 (M:Nat)) (.slice A k c) (.int .i64 (N:Nat)) (.slice T n d))/\wx.rowIs b2 27 5 (codCell (.int .i64 0) (.int .i64 0) (.slice none 0 0) (.int .i64 0) (.slice none 0 0))/\Below w.heap.size w wx)
  case first =>
   refine wp_region_held_drew (S:=fun w'=>w'.cell? ⟨b0,0,none⟩=some (.int .i64 (P:Nat))/\w'.cell? ⟨b0,1,none⟩=some (.int .i64 (M:Nat))/\w'.cell? ⟨b0,2,none⟩=some (.slice A k c)/\w'.cell? ⟨b0,3,none⟩=some (.int .i64 (N:Nat))/\w'.cell? ⟨b0,4,none⟩=some (.slice T n d)) (by kernel_rfl) ⟨cellS (Below.refl _ _).drew (rf.cell (i:=0) (by omega)),cellS (Below.refl _ _).drew (rf.cell (i:=1) (by omega)),cellS (Below.refl _ _).drew (rf.cell (i:=2) (by omega)),cellS (Below.refl _ _).drew (rf.cell (i:=3) (by omega)),cellS (Below.refl _ _).drew (rf.cell (i:=4) (by omega))⟩ (fun hHeld=>?_)
   obtain ⟨w3,hw⟩:∃ W,W=World.drew w2:=⟨_,rfl⟩
   have kb:Below w2.heap.size w2 w3:=by rw [hw]; exact (Below.refl _ _).drew
   rw [<-hw] at hHeld ⊢;clear hw;replace rf:=zaa rf kb;replace ro:=zaa ro kb;replace hB:=onS hB kb;clear kb
   refine tkq 0 (h:=tkq 1 (h:=tkq 2 (h:=?_)))
   refine rdq2 3 8 (h:=fun K hK=>?_) (h2:=fun K hK=>?_)
   ·go_simp
    go_wp2_with fail
    refine (zeh (P:Int) (M:Int) (N:Int) A T k c n d w3).mono ?_
    rintro e w4 ⟨rfl,kb⟩
    replace rf:=zaa rf kb;replace ro:=zaa ro kb;replace hB:=onS hB kb;clear kb
    refine bkq hK ⟨qc0 rf,qc1 rf,qc2 rf,qc3 rf,qc4 rf⟩ (h:=fun hHeld=>?_)
    clear hK K
    refine rdq2 4 8 (h:=fun K hK=>?_) (h2:=fun K hK=>?_)
    ·go_simp
     go_wp2_with fail
     have hBs:=hB.size
     refine (zbZ (P:Int) (M:Int) A k c f (N:Int) T n d ln V w4 (HR.out.on hB) (HT.out.on hB) (by omega)).mono ?_
     rintro e w5 ⟨kb,v,hv,hcase⟩
     obtain rfl:=HKE.out hv
     rcases hcase with ⟨h0,_⟩ | ⟨_,P',M',C',lv,a,W,hPe,hMe,hCe,rfl,hM,hrel⟩
     ·exact absurd rfl h0
     obtain rfl:P=P':=by omega
     obtain rfl:M=M':=by omega
     obtain rfl:N=C':=by omega
     replace hM:=hM.mono hBs
     obtain ⟨LA,lc,hlv⟩:=hM.shape
     subst hlv
     clear hPe hMe hCe hv;replace rf:=zaa rf kb;replace ro:=zaa ro kb;replace hB:=onS hB kb;clear kb
     refine bkq hK ⟨qc0 rf,qc1 rf,qc2 rf,qc3 rf,qc4 rf⟩ (h:=fun hHeld=>?_)
     clear hK K
     refine tkq 5 (h:=tkq 6 (h:=tkq 7 (h:=?_)))
     refine rdq 8 (h:=fun K hK=>?_)
     go_simp
     obtain ⟨w6,hw⟩:∃ W,W=World.alloc w5 (Obj.cells #[.int .i64 0,.slice none 0 0] 97):=⟨_,rfl⟩
     have kb:Below w5.heap.size w5 w6:=by rw [hw]; exact (Below.refl _ _).alloc (Nat.le_refl _) _
     have rb:w6.rowIs w5.heap.size 97 2 (matCell (.int .i64 0) (.slice none 0 0)):=by rw [hw]; exact zai
     have hmw:w.heap.size<=w5.heap.size:=hB.size
     have hm0:b0≠w5.heap.size:=by have:=rf.lt; omega
     have hm2:b2≠w5.heap.size:=by have:=ro.lt; omega
     rw [<-hw];clear hw
     obtain ⟨mb,hb⟩:∃ b,b=w5.heap.size:=⟨_,rfl⟩
     rw [<-hb] at rb hmw hm0 hm2 ⊢;clear hb;replace rf:=zaa rf kb;replace ro:=zaa ro kb;replace hB:=onS hB kb;replace hM:=hM.on kb;clear kb
     refine bkq hK ⟨qc0 rf,qc1 rf,qc2 rf,qc3 rf,qc4 rf⟩ (h:=fun hHeld=>?_)
     clear hK K
     refine rdq 9 (h:=fun K hK=>?_)
     have r0:=rb.frozen 0
     have s0:=qc0 rb
     have r1:=rb.frozen 1
     have s1:=qc1 rb
     go_simp
     clear r0 s0 r1 s1
     generalize hw9:World.setCell _ _ _=w7
     obtain ⟨row9,hg9⟩:=zaS rb hw9.symm
     clear hw9
     replace hM:=hM.kept hg9 rb (by decide) (by decide)
     replace hB:=hB.grown hg9 hB.size (fun q e=>by injection e with e; omega)
     replace rf:=zah rf hg9 hm0;replace ro:=zah ro hg9 hm2;clear hg9 rb
     refine bkq hK ⟨qc0 rf,qc1 rf,qc2 rf,qc3 rf,qc4 rf⟩ (h:=fun hHeld=>?_)
     clear hK K
     refine tkq 10 (h:=?_)
     refine wpAnyH_done (by kernel_rfl) ?_ _
     clear hHeld
     go_wp2
     go_meet
     exact ⟨mb,_,a,W,rfl,rfl,row9,hM,hrel,rf,ro,hB⟩
    ·go_simp
     obtain ⟨w5,hw⟩:∃ W,W=World.alloc w4 (Obj.cells #[.int .i64 0,.slice none 0 0] 97):=⟨_,rfl⟩
     have kb:Below w4.heap.size w4 w5:=by rw [hw]; exact (Below.refl _ _).alloc (Nat.le_refl _) _
     have rb:w5.rowIs w4.heap.size 97 2 (matCell (.int .i64 0) (.slice none 0 0)):=by rw [hw]; exact zai
     have hmw:w.heap.size<=w4.heap.size:=hB.size
     have hm0:b0≠w4.heap.size:=by have:=rf.lt; omega
     have hm2:b2≠w4.heap.size:=by have:=ro.lt; omega
     rw [<-hw];clear hw
     obtain ⟨mb,hb⟩:∃ b,b=w4.heap.size:=⟨_,rfl⟩
     rw [<-hb] at rb hmw hm0 hm2 ⊢;clear hb;replace rf:=zaa rf kb;replace ro:=zaa ro kb;replace hB:=onS hB kb;clear kb
     refine bkq hK ⟨qc0 rf,qc1 rf,qc2 rf,qc3 rf,qc4 rf⟩ (h:=fun hHeld=>?_)
     clear hK K
     refine rdq 4 (h:=fun K hK=>?_)
     go_simp
     go_wp2_with fail
     have hBs:=hB.size
     refine (zbZ (P:Int) (M:Int) A k c f (N:Int) T n d ln V w5 (HR.out.on hB) (HT.out.on hB) (by omega)).mono ?_
     rintro e w6 ⟨kb,v,hv,hcase⟩
     obtain rfl:=HKE.out hv
     rcases hcase with ⟨h0,_⟩ | ⟨_,P',M',C',lv,a,W,hPe,hMe,hCe,rfl,hM,hrel⟩
     ·exact absurd rfl h0
     obtain rfl:P=P':=by omega
     obtain rfl:M=M':=by omega
     obtain rfl:N=C':=by omega
     replace hM:=hM.mono hBs
     obtain ⟨LA,lc,hlv⟩:=hM.shape
     subst hlv
     clear hPe hMe hCe hv;replace rf:=zaa rf kb;replace ro:=zaa ro kb;replace rb:=zaa rb kb;replace hB:=onS hB kb;clear kb
     refine bkq hK ⟨qc0 rf,qc1 rf,qc2 rf,qc3 rf,qc4 rf⟩ (h:=fun hHeld=>?_)
     clear hK K
     refine tkq 5 (h:=tkq 6 (h:=tkq 7 (h:=?_)))
     refine rdq 9 (h:=fun K hK=>?_)
     have r0:=rb.frozen 0
     have s0:=qc0 rb
     have r1:=rb.frozen 1
     have s1:=qc1 rb
     go_simp
     clear r0 s0 r1 s1
     generalize hw9:World.setCell _ _ _=w7
     obtain ⟨row9,hg9⟩:=zaS rb hw9.symm
     clear hw9
     replace hM:=hM.kept hg9 rb (by decide) (by decide)
     replace hB:=hB.grown hg9 hB.size (fun q e=>by injection e with e; omega)
     replace rf:=zah rf hg9 hm0;replace ro:=zah ro hg9 hm2;clear hg9 rb
     refine bkq hK ⟨qc0 rf,qc1 rf,qc2 rf,qc3 rf,qc4 rf⟩ (h:=fun hHeld=>?_)
     clear hK K
     refine tkq 10 (h:=?_)
     refine wpAnyH_done (by kernel_rfl) ?_ _
     clear hHeld
     go_wp2
     go_meet
     exact ⟨mb,_,a,W,rfl,rfl,row9,hM,hrel,rf,ro,hB⟩
   ·go_simp
    obtain ⟨w4,hw⟩:∃ W,W=World.alloc w3 (Obj.cells #[.int .i64 0,.slice none 0 0] 97):=⟨_,rfl⟩
    have kb:Below w3.heap.size w3 w4:=by rw [hw]; exact (Below.refl _ _).alloc (Nat.le_refl _) _
    have rb:w4.rowIs w3.heap.size 97 2 (matCell (.int .i64 0) (.slice none 0 0)):=by rw [hw]; exact zai
    have hmw:w.heap.size<=w3.heap.size:=hB.size
    have hm0:b0≠w3.heap.size:=by have:=rf.lt; omega
    have hm2:b2≠w3.heap.size:=by have:=ro.lt; omega
    rw [<-hw];clear hw
    obtain ⟨mb,hb⟩:∃ b,b=w3.heap.size:=⟨_,rfl⟩
    rw [<-hb] at rb hmw hm0 hm2 ⊢;clear hb;replace rf:=zaa rf kb;replace ro:=zaa ro kb;replace hB:=onS hB kb;clear kb
    refine bkq hK ⟨qc0 rf,qc1 rf,qc2 rf,qc3 rf,qc4 rf⟩ (h:=fun hHeld=>?_)
    clear hK K
    refine rdq 3 (h:=fun K hK=>?_)
    go_simp
    go_wp2_with fail
    refine (zeh (P:Int) (M:Int) (N:Int) A T k c n d w4).mono ?_
    rintro e w5 ⟨rfl,kb⟩
    replace rf:=zaa rf kb;replace ro:=zaa ro kb;replace rb:=zaa rb kb;replace hB:=onS hB kb;clear kb
    refine bkq hK ⟨qc0 rf,qc1 rf,qc2 rf,qc3 rf,qc4 rf⟩ (h:=fun hHeld=>?_)
    clear hK K
    refine rdq 4 (h:=fun K hK=>?_)
    go_simp
    go_wp2_with fail
    have hBs:=hB.size
    refine (zbZ (P:Int) (M:Int) A k c f (N:Int) T n d ln V w5 (HR.out.on hB) (HT.out.on hB) (by omega)).mono ?_
    rintro e w6 ⟨kb,v,hv,hcase⟩
    obtain rfl:=HKE.out hv
    rcases hcase with ⟨h0,_⟩ | ⟨_,P',M',C',lv,a,W,hPe,hMe,hCe,rfl,hM,hrel⟩
    ·exact absurd rfl h0
    obtain rfl:P=P':=by omega
    obtain rfl:M=M':=by omega
    obtain rfl:N=C':=by omega
    replace hM:=hM.mono hBs
    obtain ⟨LA,lc,hlv⟩:=hM.shape
    subst hlv
    clear hPe hMe hCe hv;replace rf:=zaa rf kb;replace ro:=zaa ro kb;replace rb:=zaa rb kb;replace hB:=onS hB kb;clear kb
    refine bkq hK ⟨qc0 rf,qc1 rf,qc2 rf,qc3 rf,qc4 rf⟩ (h:=fun hHeld=>?_)
    clear hK K
    refine tkq 5 (h:=tkq 6 (h:=tkq 7 (h:=?_)))
    refine rdq 9 (h:=fun K hK=>?_)
    have r0:=rb.frozen 0
    have s0:=qc0 rb
    have r1:=rb.frozen 1
    have s1:=qc1 rb
    go_simp
    clear r0 s0 r1 s1
    generalize hw9:World.setCell _ _ _=w7
    obtain ⟨row9,hg9⟩:=zaS rb hw9.symm
    clear hw9
    replace hM:=hM.kept hg9 rb (by decide) (by decide)
    replace hB:=hB.grown hg9 hB.size (fun q e=>by injection e with e; omega)
    replace rf:=zah rf hg9 hm0;replace ro:=zah ro hg9 hm2;clear hg9 rb
    refine bkq hK ⟨qc0 rf,qc1 rf,qc2 rf,qc3 rf,qc4 rf⟩ (h:=fun hHeld=>?_)
    clear hK K
    refine tkq 10 (h:=?_)
    refine wpAnyH_done (by kernel_rfl) ?_ _
    clear hHeld
    go_wp2
    go_meet
    exact ⟨mb,_,a,W,rfl,rfl,row9,hM,hrel,rf,ro,hB⟩
  case rest =>
   clear hB rf ro
   obtain ⟨mb,lv,a,W,rfl,rfl,rm,hM,hrel,rf,ro,hB⟩:=hcut
   have HM:=hid hM
   have HREL:=hid hrel
   obtain ⟨LA,lc,hlv⟩:=hM.shape
   subst hlv
   clear hM hrel
   have q0:=qc0 rf
   have q1:=qc1 rf
   have q2:=qc2 rf
   have m0:=qc0 rm
   have m1:=qc1 rm
   go_wp2_with fail
   refine (zh3 (P:Int) (M:Int) (N:Int) A k c f LA a lc wc (HR.out.on hB) hkc (by omega)).mono ?_
   rintro e w5 ⟨v,rfl,hO,kb⟩
   have hBs:=hB.size
   replace hB:=onS hB kb;replace ro:=zaa ro kb
   have HM5:=hid (HM.out.on kb)
   obtain ⟨A2,c2,hv⟩:=hO.shape
   subst hv
   have HO:=hid (hO.mono hBs)
   clear kb hO hBs q0 q1 q2 m0 m1 rf rm HM
   have r0:=ro.frozen 0
   have s0:=qc0 ro
   have r1:=ro.frozen 1
   have s1:=qc1 ro
   have r2:=ro.frozen 2
   have s2:=qc2 ro
   have r3:=ro.frozen 3
   have s3:=qc3 ro
   have r4:=ro.frozen 4
   have s4:=qc4 ro
   go_wp2
   clear r0 s0 r1 s1 r2 s2 r3 s3 r4 s4
   generalize hw9:World.setCell _ _ _=w6
   obtain ⟨row9,hg9⟩:=zcq ro hw9.symm
   clear hw9
   have hB9:=hB.grown hg9 hB.size (fun q e=>by injection e with e; omega)
   have hO9:=HO.out.kept hg9 (zau ro HO.out (by decide))
   have hM9:=HM5.out.kept hg9 ro (by decide) (by decide)
   have e0:=qc0 row9
   have e1:=qc1 row9
   have e2:=qc2 row9
   have e3:=qc3 row9
   have e4:=qc4 row9
   refine bodyPost_ret (v:=.tuple #[.agg #[.int .i64 (P:Nat),.int .i64 (M:Nat),.slice A2 k c2,.int .i64 (N:Nat),.slice LA a lc],.int .i64 0]) (by simp [results,Tryz.results50, go_sem,e0,e1,e2,e3,e4]) rfl ?_
   refine ⟨hB9,0,HV.out,.inr ⟨rfl,P,M,N,rfl,rfl,rfl,_,_,a,W,rfl,hO9.congr fun j hj q _=>?_,hM9,hB9,HREL.out⟩⟩
   have hg:=HV.out
   rcases hg with ⟨_,h9⟩ | ⟨⟨P',M',h1,h2,h3,h4,h5⟩,_⟩
   ·cases h9
   rcases h5 with ⟨_,e⟩ | ⟨_,e,h,_⟩
   ·omega
   ·have:=h j (by omega)
    show Value.int .i64 (f j)=.int .i64 (((f j).toNat:Nat):Int)
    rw [show (((f j).toNat:Nat):Int)=f j by omega]
 ·have hvn:(v != 0)=true:=by simpa using hv0
  have HV0:=hid hv0
  clear hv0 rf
  have r0:=ro.frozen 0
  have s0:=qc0 ro
  have r1:=ro.frozen 1
  have s1:=qc1 ro
  have r2:=ro.frozen 2
  have s2:=qc2 ro
  have r3:=ro.frozen 3
  have s3:=qc3 ro
  have r4:=ro.frozen 4
  have s4:=qc4 ro
  go_wp2
  clear r0 s0 r1 s1 r2 s2 r3 s3 r4 s4
  generalize hw9:World.setCell _ _ _=w6
  obtain ⟨row9,hg9⟩:=zcq ro hw9.symm
  clear hw9
  have hB9:=hB.grown hg9 hB.size (fun q e=>by injection e with e; omega)
  have e0:=qc0 row9
  have e1:=qc1 row9
  have e2:=qc2 row9
  have e3:=qc3 row9
  have e4:=qc4 row9
  refine bodyPost_ret (v:=.tuple #[.agg #[.int .i64 0,.int .i64 0,.slice none 0 0,.int .i64 0,.slice none 0 0],.int .i64 v]) (by simp [results,Tryz.results50, go_sem,e0,e1,e2,e3,e4]) rfl ?_
  exact ⟨hB9,v,HV.out,.inl ⟨HV0.out,rfl⟩⟩
section
variable {q n k:Nat} {add mul:Nat->Nat->Nat} {V:Nat->Nat->Nat}
theorem zdh (hL:FieldLaws q add mul) {a s j:Nat} {c:Nat->Nat} (hc:∀ i,i<a->c i<q) (hs:s<a) (h1:V s j=1) (h0:∀ t,t<a->t≠s->V t j=0):spE add mul V c a j=c s:=by
 have key:∀ t,t<=a->spE add mul V c t j=if s<t then c s else 0:=by
  intro t
  induction t with
  | zero=>intro _; rfl
  | succ t ih =>
   intro ht
   show add (spE add mul V c t j) (mul (c t) (V t j))=_
   rw [ih (by omega)]
   by_cases e:t=s
   ·subst e
    rw [if_neg (by omega),if_pos (by omega),h1,hL.mulOne (hc t hs),hL.zeroAdd _ (hc t hs)]
   ·rw [h0 t (by omega) e,hL.mulZero (hc t (by omega))]
    by_cases e2:s<t
    ·rw [if_pos e2,if_pos (by omega),hL.addZero (hc s hs)]
    ·rw [if_neg e2,if_neg (by omega),hL.addZero (by have:=hL.two; omega)]
 rw [key a (Nat.le_refl _),if_pos hs]
theorem zh4 (hL:FieldLaws q add mul) {U W:Nat->Nat->Nat} {f a N:Nat} {fr p:Nat->Nat} (hf:∀ u,u<f->fr u<N) (hp:∀ s,s<a->p s<N)
  (u1:∀ s,s<f->U s (fr s)=1) (u0:∀ s,s<f->∀ t,t<f->t≠s->U t (fr s)=0) (w1:∀ s,s<a->W s (p s)=1) (w0:∀ s,s<a->∀ t,t<a->t≠s->W t (p s)=0)
  (hS:SameSp q add mul N f a U W):f<=a:=by
 have hq:=hL.two
 have hle:q ^ f<=q ^ a:=by
  refine pigeon (f:=fun i=>code q (fun s=>spE add mul U (msgD q f i) f (p s)) a) (fun i _=>zfo fun s _=>zd8 hL _ _ _) fun i i' hi hi' e=>?_
  have e1:=zg9 (fun s _=>zd8 hL _ _ _) (fun s _=>zd8 hL _ _ _) e
  have hin:∀ i,InSp q add mul a N W (spE add mul U (msgD q f i) f):=fun i=>(hS _).1 ⟨msgD q f i,fun _ _=>zfA (by omega),fun _ _=>rfl⟩
  obtain ⟨c,hc,ec⟩:=hin i
  obtain ⟨d,hd,ed⟩:=hin i'
  have ecd:∀ s,s<a->c s=d s:=fun s hs=>by
   have:=e1 s hs
   rw [ec _ (hp s hs),ed _ (hp s hs),zdh hL hc hs (w1 s hs) (w0 s hs),zdh hL hd hs (w1 s hs) (w0 s hs)] at this
   exact this
  have em:∀ u,u<f->msgD q f i u=msgD q f i' u:=fun u hu=>by
   have h1:=zdh (V:=U) hL (fun t _=>zfA (q:=q) (n:=f) (x:=i) (t:=t) (by omega)) hu (u1 u hu) (u0 u hu)
   have h2:=zdh (V:=U) hL (fun t _=>zfA (q:=q) (n:=f) (x:=i') (t:=t) (by omega)) hu (u1 u hu) (u0 u hu)
   rw [<-h1,<-h2,ec _ (hf u hu),ed _ (hf u hu)]
   exact zc3 a fun s hs=>⟨ecd s hs,rfl⟩
  refine zhX (by omega) hi hi' fun t ht=>?_
  have:=em (f - 1 - t) (by omega)
  unfold msgD at this
  rwa [show f - 1 - (f - 1 - t)=t by omega] at this
 exact (Nat.pow_le_pow_iff_right hq).1 hle
theorem NullRel.count {neg:Nat->Nat} {N a2:Nat} {W2:Nat->Nat->Nat} (hL:FieldLaws q add mul) (hneg:∀ x,x<q->neg x<q/\add x (neg x)=0) (hV:RrefN q n N V) (h:NullRel q add mul neg n N V a2 W2):n+a2=N:=by
 obtain ⟨pv,hv⟩:=hV
 obtain ⟨a,p,W,f,fr,Nn,p2,hE,hR,hN,hE2,hR2⟩:=h
 have hq:=hL.two
 have hle:=hE.le
 obtain ⟨hs,hWl⟩:=hR.sp hL hv.lt
 have hNl:∀ u,u<f->∀ j,j<N->Nn u j<q:=fun u hu j hj=>by
  rw [hN.row u hu j hj]
  have hfu:=hN.lt u hu
  rcases hN.cover j hj with ⟨s,hs,e⟩ | ⟨v,hv,e⟩
  ·rw [<-e,zeC a hE.inc hs]
   exact (hneg _ (hWl s (by omega) _ hfu)).1
  ·rw [zbc a fun s hs e2=>hN.ne v hv s hs (e2.trans e.symm)]
   split <;> omega
 obtain ⟨hs2,-⟩:=hR2.sp hL hNl
 have ea:n=a:=(zbU hL hv hE.top fun x=>(hs x).trans (hE.sp_top hL x)).1
 have hle2:=hE2.le
 have u1:∀ s,s<f->Nn s (fr s)=1:=fun s hs=>by rw [hN.row s hs _ (hN.lt s hs),zbc a (hN.ne s hs),if_pos rfl]
 have u0:∀ s,s<f->∀ t,t<f->t≠s->Nn t (fr s)=0:=fun s hs t ht hne=>by
  rw [hN.row t ht _ (hN.lt s hs),zbc a (hN.ne s hs),if_neg]
  intro e
  rcases Nat.lt_or_gt_of_ne hne with h1 | h1
  ·have:=hN.inc t s h1 hs; omega
  ·have:=hN.inc s t h1 ht; omega
 have w0:∀ s,s<a2->∀ t,t<a2->t≠s->W2 t (p2 s)=0:=fun s hs t ht hne=>hE2.zero s hs t (by omega) hne
 have hS:SameSp q add mul N f a2 Nn W2:=fun x=>(hs2 x).trans (hE2.sp_top hL x)
 have f1:f<=a2:=zh4 hL hN.lt hE2.pvlt u1 u0 hE2.one w0 hS
 have f3:a+f<=N:=by
  refine pigeon (f:=fun i=>if i<a then p i else fr (i - a)) (fun i hi=>?_) fun i j hi hj e=>?_
  ·show (if i<a then p i else fr (i - a))<N
   split
   ·rename_i h; exact hE.pvlt i h
   ·exact hN.lt _ (by omega)
  ·have e':(if i<a then p i else fr (i - a))=(if j<a then p j else fr (j - a)):=e
   by_cases h1:i<a
   ·rw [if_pos h1] at e'
    by_cases h2:j<a
    ·rw [if_pos h2] at e'
     rcases Nat.lt_trichotomy i j with h3 | h3 | h3
     ·have:=hE.inc i j h3 h2; omega
     ·exact h3
     ·have:=hE.inc j i h3 h1; omega
    ·rw [if_neg h2] at e'
     exact absurd e' (hN.ne _ (by omega) _ h1)
   ·rw [if_neg h1] at e'
    by_cases h2:j<a
    ·rw [if_pos h2] at e'
     exact absurd e'.symm (hN.ne _ (by omega) _ h2)
    ·rw [if_neg h2] at e'
     rcases Nat.lt_trichotomy (i - a) (j - a) with h3 | h3 | h3
     ·have:=hN.inc _ _ h3 (by omega); omega
     ·omega
     ·have:=hN.inc _ _ h3 (by omega); omega
 have f4:N<=a+f:=by
  have hch:∀ j,∃ i,j<N->i<a+f/\(if i<a then p i else fr (i - a))=j:=fun j=>by
   by_cases hj:j<N
   ·rcases hN.cover j hj with ⟨s,hs,e⟩ | ⟨u,hu,e⟩
    ·exact ⟨s,fun _=>⟨by omega,by rw [if_pos hs]; exact e⟩⟩
    ·exact ⟨a+u,fun _=>⟨by omega,by rw [if_neg (by omega),show a+u - a=u by omega]; exact e⟩⟩
   ·exact ⟨0,fun h=>absurd h hj⟩
  obtain ⟨g,hg⟩:=Classical.skolem.1 hch
  refine pigeon (f:=g) (fun j hj=>(hg j hj).1) fun i j hi hj e=>?_
  have h1:=(hg i hi).2
  have h2:=(hg j hj).2
  rw [e] at h1
  omega
 omega
theorem NullRel.same {neg:Nat->Nat} {N a2 a3:Nat} {W2 W3:Nat->Nat->Nat} (hL:FieldLaws q add mul) (hneg:∀ x,x<q->neg x<q/\add x (neg x)=0) (hV:∀ i,i<n->∀ j,j<N->V i j<q) (h:NullRel q add mul neg n N V a2 W2) (h3:NullRel q add mul neg n N V a3 W3) :
  a2=a3/\∀ s,s<a2->∀ j,j<N->W2 s j=W3 s j:=by
 have hq:0<q:=by have:=hL.two; omega
 obtain ⟨iA,iM,iN,i0,i1,F,ha,hm,h0,h1⟩:=zgo hL
 have O:OnEl q add mul:=⟨F,ha,hm,h0,h1⟩
 obtain ⟨p2,e2⟩:=h.rref
 obtain ⟨p3,e3⟩:=h3.rref
 have hp2:=fun x=>NullRel.perp (x:=x) hq O hL hneg hV h
 have hp3:=fun x=>NullRel.perp (x:=x) hq O hL hneg hV h3
 have hS:SameSp q add mul N a2 a3 W2 W3:=fun x=>by
  constructor
  ·intro hx
   have hl:∀ j,j<N->x j<q:=fun j hj=>hx.lt hL hj
   exact (zaF hq F hL ha hm h0 e3.lt hl).2 ((hp3 _).1 ((hp2 _).2 ((zaF hq F hL ha hm h0 e2.lt hl).1 hx)))
  ·intro hx
   have hl:∀ j,j<N->x j<q:=fun j hj=>hx.lt hL hj
   exact (zaF hq F hL ha hm h0 e2.lt hl).2 ((hp2 _).1 ((hp3 _).2 ((zaF hq F hL ha hm h0 e3.lt hl).1 hx)))
 obtain ⟨g1,-,g3⟩:=zbU hL e2 e3 hS
 exact ⟨g1,g3⟩
end
def WordErrs (q N l:Nat) (u:Nat->Int):List (Prop × Int):=[(l=N,4),(AllIn q l u,2)]
def SynPost (P M:Nat) (m:Nat->Nat) (N n:Nat) (V:Nat->Nat->Nat) (l:Nat) (u:Nat->Int) (w:World) (e:Ending) (w':World):Prop :=
 Below w.heap.size w w'/\∃ v:Int,FirstErr (WordErrs (P ^ M) N l u) v/\((v≠0/\e=.returned (.tuple #[.slice none 0 0,.int .i64 v])) ∨
  (v=0/\∃ (a:Nat) (W:Nat->Nat->Nat) (s:Value),NullRel (P ^ M) (addF P M) (mulF P M m) (negF P M) n N V a W/\e=.returned (.tuple #[s,.int .i64 0]) /\
   Own w' w.heap.size 3 1 s a (fun i _=>.int .i64 (dotN (addF P M) (mulF P M m) (fun j=>(u j).toNat) (W i) N:Nat))))
open Go.ChangeShapes Go.WideShapes Go.ChangeAt
section
variable {H:Type} {enc:TypeId × Value->H} {P:Program} {w:World} {base:Nat} {spare:Nat->Bool} {held:Bool} {cs:List Value} {t e s:Nat}
def SeesW (enc:TypeId × Value->H) (P:Program) (w:World) (base:Nat) (spare:Nat->Bool) (held:Bool) (t:TypeId) (cs:List Value):Prop :=
 ∃ fuel d p,DataW.trod enc P w base spare held fuel t cs=some (d,p)/\∀ x ∈ d.weights P t,x<=140737488351232
theorem SeesW.sees (h:SeesW enc P w base spare held t cs):Sees enc P w base spare held t cs:=by
 obtain ⟨fuel,d,p,h,_⟩:=h
 exact ⟨fuel,(d,p),h⟩
theorem zdi {l:List (DataW H)} {d:DataW H} {x:Nat} (hd:d ∈ l) (hx:x ∈ d.weights P e):x ∈ DataW.weightsAll P e l:=by
 induction l with
 | nil=>cases hd
 | cons a r ih =>
  unfold DataW.weightsAll
  rw [List.mem_append]
  rcases List.mem_cons.1 hd with rfl | h
  ·exact .inl hx
  ·exact .inr (ih h)
theorem zb0 (ht:P.underlying t=some (.slice e)) (hC:P.cellsOf e=s) (hs:0<s) {B:Nat} (hB:P.bytesOf e=B) (h:SeesW enc P w base spare held t cs) :
  ∃ (A:Option Addr) (n c:Nat) (f:Nat->Nat->Value),cs=[.slice A n c]/\n<=c/\c<=maxLen/\n*B<=140737488351232/\Rd w w.heap.size A n s f/\∀ i,i<n->SeesW enc P w base spare held e ((List.range s).map (f i)):=by
 obtain ⟨fuel,d,p,h,hw⟩:=h
 rcases Go.Deep.open_slice ht h with ⟨rfl,_⟩ | ⟨a,len,cap,m,n,D,Pl,rfl,hb,hl,hm,hmm,hx,hi⟩
 ·exact ⟨none,0,0,fun _ _=>undef,rfl,Nat.le_refl _,Nat.zero_le _,by omega,fun i hi=>absurd hi (by omega),fun i hi=>absurd hi (by omega)⟩
 ·have hlm:len<=m:=by rw [hmm]; split <;> omega
  have hx1:=congrArg Prod.fst hx
  subst hx1
  have hw1:(len+(m - len))*B<=140737488351232:=hw _ (by unfold DataW.weights; rw [ht]; simp [hB])
  refine ⟨some a,len,cap,fun i j=>(w.cell? (a.add (i*s+j))).getD undef,rfl,hl,hm,Nat.le_trans (Nat.mul_le_mul_right _ (Nat.le_add_right _ _)) hw1,fun i hi'=>?_,fun i hi'=>?_⟩
  ·obtain ⟨cs',hc,_⟩:=hi i (by omega)
   rw [hC] at hc
   obtain ⟨_,hlen,hat⟩:=World.cells?_some hc
   have h0:=hat 0 hs
   rw [List.getElem?_eq_getElem (by omega),Go.Deep.add_add] at h0
   have hlt:=World.block_lt_of_cell? _ _ h0
   obtain ⟨ab,ao,sp⟩:=a
   have hsp0:w.cell? ((⟨ab,ao,sp⟩:Addr).add (i*s+0))=some (cs'[0]'(by omega)):=h0
   by_cases hz:i*s=0
   ·have:(⟨ab,ao,sp⟩:Addr).add (i*s+0)=⟨ab,ao,sp⟩:=by unfold Addr.add; rw [if_pos (by omega)]
    rw [this] at hsp0 hlt
    obtain rfl:sp=none:=World.cell?_spot hsp0
    refine ⟨ab,ao,rfl,hlt,fun j hj=>?_⟩
    have hj':=hat j hj
    rw [Go.Deep.add_add,zbh] at hj'
    show w.cell? ⟨ab,ao+i*s+j,none⟩=some ((w.cell? ((⟨ab,ao,none⟩:Addr).add (i*s+j))).getD undef)
    rw [zbh,hj',List.getElem?_eq_getElem (by omega)]
    rw [show ao+i*s+j=ao+(i*s+j) by omega,hj',List.getElem?_eq_getElem (by omega)]
    rfl
   ·obtain ⟨cs0,hc0,_⟩:=hi 0 (by omega)
    rw [hC] at hc0
    obtain ⟨_,hlen0,hat0⟩:=World.cells?_some hc0
    have k0:=hat0 0 hs
    rw [List.getElem?_eq_getElem (by omega),Go.Deep.add_add] at k0
    have:(⟨ab,ao,sp⟩:Addr).add (0*s+0)=⟨ab,ao,sp⟩:=by unfold Addr.add; rw [if_pos (by omega)]
    rw [this] at k0
    obtain rfl:sp=none:=World.cell?_spot k0
    refine ⟨ab,ao,rfl,World.block_lt_of_cell? _ _ k0,fun j hj=>?_⟩
    have hj':=hat j hj
    rw [Go.Deep.add_add,zbh] at hj'
    show w.cell? ⟨ab,ao+i*s+j,none⟩=some ((w.cell? ((⟨ab,ao,none⟩:Addr).add (i*s+j))).getD undef)
    rw [zbh]
    rw [show ao+i*s+j=ao+(i*s+j) by omega,hj',List.getElem?_eq_getElem (by omega)]
    rfl
  ·obtain ⟨cs',hc,htr⟩:=hi i (by omega)
   rw [hC] at hc
   obtain ⟨_,hlen,hat⟩:=World.cells?_some hc
   refine ⟨n,D i,Pl i,?_,fun x hx=>hw _ (by
    unfold DataW.weights
    rw [ht]
    refine List.mem_cons_of_mem _ (List.mem_append.2 (.inl (zdi (List.mem_map.2 ⟨i,List.mem_range.2 hi',rfl⟩) hx))))⟩
   have:(List.range s).map (fun j=>(w.cell? (a.add (i*s+j))).getD undef)=cs':=by
    apply List.ext_getElem
    ·simp [hlen]
    ·intro j h1 h2
     have:=hat j (by omega)
     rw [Go.Deep.add_add,List.getElem?_eq_getElem h2] at this
     simp [this]
   rw [this]
   exact htr
theorem zfZ {fs:Array Field} (ht:P.underlying t=some (.struct fs)) (h:SeesW enc P w base spare held t cs) (i T off m:Nat)
  (hi:∃ f,fs[i]?=some f/\f.type=T/\f.offset=off) (hC:P.cellsOf T=m):SeesW enc P w base spare held T ((cs.drop off).take m):=by
 obtain ⟨f,hf,rfl,rfl⟩:=hi
 subst hC
 obtain ⟨fuel,d,p,h,hw⟩:=h
 obtain ⟨xs,n,_,hx,hlen,hxl,hg⟩:=DataW.trod_struct ht h
 have hlt:i<xs.length:=by rw [hxl]; exact (Array.getElem?_eq_some_iff.1 hf).1
 refine ⟨n,xs[i].1,xs[i].2,(hg i f hf).trans (List.getElem?_eq_getElem hlt),fun x hx2=>hw x ?_⟩
 have hx1:=congrArg Prod.fst hx
 subst hx1
 unfold DataW.weights
 rw [ht]
 refine DataW.weights_mem_each (j:=i) (t:=f.type) (d:=xs[i].1) ?_ ?_ x hx2
 ·simp [hf]
 ·simp [hlt]
end
structure Trel where
 nw:Nat
 W:Nat->Int
 n:Nat
 el:Nat->Nat
 fr:Nat->Nat->Int
 lb:Nat->Nat->Int
 «to»:Nat->Nat->Int
def Trel.edge (T:Trel) (i j k:Nat):Value:=if k=0 then .int .i64 (T.fr i j) else if k=1 then .int .i64 (T.lb i j) else .int .i64 (T.to i j)
def InI64 (x:Int):Prop := -9223372036854775808<=x/\x<=9223372036854775807
def Trel.Secs (T:Trel) (w:World) (B:Option Addr):Prop :=
 ∀ i,i<T.n->∃ b off E c,B=some ⟨b,off,none⟩/\b<w.heap.size/\w.cell? ⟨b,off+i,none⟩=some (.slice E (T.el i) c)/\T.el i<=c/\c<=maxLen/\Rd w w.heap.size E (T.el i) 3 (T.edge i) /\
  ∀ j,j<T.el i->InI64 (T.fr i j)/\InI64 (T.lb i j)/\InI64 (T.to i j)
def Trel.Reads (T:Trel) (w:World) (A B:Option Addr):Prop :=
 IntsR w w.heap.size A T.nw T.W/\(∀ i,i<T.nw->InI64 (T.W i))/\T.Secs w B/\T.nw<=140737488351232/\T.n<=140737488351232/\∀ i,i<T.n->T.el i<=140737488351232
section
variable {T:Trel} {w w':World} {A B:Option Addr}
theorem Trel.Secs.on (h:T.Secs w B) (hb:Below w.heap.size w w'):T.Secs w' B:=fun i hi=>by
 obtain ⟨b,off,E,c,e,h1,h2,h3,h4,h5,h6⟩:=h i hi
 exact ⟨b,off,E,c,e,Nat.lt_of_lt_of_le h1 hb.size,(hb.cell (p:=⟨b,_,none⟩) h1).trans h2,h3,h4,(Rd.below h5 hb (Nat.le_refl _)).mono hb.size,h6⟩
theorem Trel.Reads.on (h:T.Reads w A B) (hb:Below w.heap.size w w'):T.Reads w' A B:=⟨h.1.on hb,h.2.1,h.2.2.1.on hb,h.2.2.2⟩
theorem Trel.Reads.width (h:T.Reads w A B) {i:Nat} (hi:i<T.nw):∃ b off,A=some ⟨b,off,none⟩/\b<w.heap.size/\w.cell? ⟨b,off+i,none⟩=some (.int .i64 (T.W i))/\InI64 (T.W i):=by
 obtain ⟨b,off,e,h1,h2⟩:=h.1.at hi
 exact ⟨b,off,e,h1,h2,h.2.1 i hi⟩
theorem Trel.Reads.sec (h:T.Reads w A B) {i:Nat} (hi:i<T.n):∃ b off E c,B=some ⟨b,off,none⟩/\b<w.heap.size/\w.cell? ⟨b,off+i,none⟩=some (.slice E (T.el i) c)/\T.el i<=c/\c<=maxLen/\Rd w w.heap.size E (T.el i) 3 (T.edge i) /\
  ∀ j,j<T.el i->InI64 (T.fr i j)/\InI64 (T.lb i j)/\InI64 (T.to i j):=h.2.2.1 i hi
theorem zby {E:Option Addr} {i j m:Nat} (h:Rd w w.heap.size E m 3 (T.edge i)) (hj:j<m) :
  ∃ b off,E=some ⟨b,off,none⟩/\b<w.heap.size/\w.cell? ⟨b,off+j*3,none⟩=some (.int .i64 (T.fr i j))/\w.cell? ⟨b,off+j*3+1,none⟩=some (.int .i64 (T.lb i j))/\w.cell? ⟨b,off+j*3+2,none⟩=some (.int .i64 (T.to i j)):=Rd.at3 h hj
end
section
variable {H:Type} {enc:TypeId × Value->H} {w:World} {base:Nat} {spare:Nat->Bool} {held:Bool} {cs:List Value}
theorem zgD (h:Sees enc Tryz.prog w base spare held 148 cs):∃ a b c:Int,cs=[.int .i64 a,.int .i64 b,.int .i64 c]/\InI64 a/\InI64 b/\InI64 c:=by
 obtain ⟨hl,_⟩:=zbp Tryz.underlying148 h
 match cs,hl.trans (show Tryz.prog.cellsOf 148 = 3 by kernel_rfl) with
 | [c0,c1,c2],_ =>
  have hc:Tryz.prog.cellsOf 3 = 1:=by kernel_rfl
  have g0:=zbE Tryz.underlying148 h 0 3 0 1 ⟨_,rfl,rfl,rfl⟩ hc
  have g1:=zbE Tryz.underlying148 h 1 3 1 1 ⟨_,rfl,rfl,rfl⟩ hc
  have g2:=zbE Tryz.underlying148 h 2 3 2 1 ⟨_,rfl,rfl,rfl⟩ hc
  obtain ⟨a,ha,wa⟩:=zbg Tryz.underlying3 g0
  obtain ⟨b,hb,wb⟩:=zbg Tryz.underlying3 g1
  obtain ⟨c,hc,wc⟩:=zbg Tryz.underlying3 g2
  simp at ha hb hc
  subst ha hb hc
  exact ⟨a,b,c,rfl,zeR wa,zeR wb,zeR wc⟩
theorem zf0 (h:SeesW enc Tryz.prog w base spare held 149 cs):∃ (A:Option Addr) (n c:Nat) (x y z:Nat->Int),cs=[.slice A n c]/\n<=c/\c<=maxLen/\n<=140737488351232 /\
  Rd w w.heap.size A n 3 (fun j k=>if k=0 then .int .i64 (x j) else if k=1 then .int .i64 (y j) else .int .i64 (z j))/\∀ j,j<n->InI64 (x j)/\InI64 (y j)/\InI64 (z j):=by
 obtain ⟨A,n,c,f,hcs,h1,h2,hn,hr,hf⟩:=zb0 (B:=24) Tryz.underlying149 (show Tryz.prog.cellsOf 148 = 3 by kernel_rfl) (by omega) (by kernel_rfl) h
 have key:∀ i,i<n->∃ a b c:Int,(f i 0=.int .i64 a/\f i 1=.int .i64 b/\f i 2=.int .i64 c)/\InI64 a/\InI64 b/\InI64 c:=by
  intro i hi
  obtain ⟨a,b,c,e,wa,wb,wc⟩:=zgD (hf i hi).sees
  have e':[f i 0,f i 1,f i 2]=[.int .i64 a,.int .i64 b,.int .i64 c]:=e
  simp only [List.cons.injEq,and_true] at e'
  exact ⟨a,b,c,e',wa,wb,wc⟩
 refine ⟨A,n,c,fun i=>intOf (f i 0),fun i=>intOf (f i 1),fun i=>intOf (f i 2),hcs,h1,h2,by omega,fun i hi=>?_,fun i hi=>?_⟩
 ·obtain ⟨a,b,c,⟨ea,eb,ec⟩,_⟩:=key i hi
  obtain ⟨bl,off,hA,hb,hc⟩:=hr i hi
  refine ⟨bl,off,hA,hb,fun j hj=>?_⟩
  rw [hc j hj]
  match j,hj with
  | 0,_=>show some (f i 0)=some (Value.int .i64 (intOf (f i 0))); rw [ea]; rfl
  | 1,_=>show some (f i 1)=some (Value.int .i64 (intOf (f i 1))); rw [eb]; rfl
  | 2,_=>show some (f i 2)=some (Value.int .i64 (intOf (f i 2))); rw [ec]; rfl
 ·obtain ⟨a,b,c,⟨ea,eb,ec⟩,wa,wb,wc⟩:=key i hi
  show InI64 (intOf (f i 0))/\InI64 (intOf (f i 1))/\InI64 (intOf (f i 2))
  rw [ea,eb,ec]
  exact ⟨wa,wb,wc⟩
theorem zgE (h:SeesW enc Tryz.prog w base spare held 74 cs):∃ (T:Trel) (A B:Option Addr) (c d:Nat),cs=[.slice A T.nw c,.slice B T.n d]/\T.Reads w A B/\T.nw<=c/\T.n<=d/\c<=maxLen/\d<=maxLen:=by
 obtain ⟨hl,_⟩:=zbp Tryz.underlying74 h.sees
 match cs,hl.trans (show Tryz.prog.cellsOf 74 = 2 by kernel_rfl) with
 | [c0, c1], _ =>
  have g0:=zfZ Tryz.underlying74 h 0 22 0 1 ⟨_,rfl,rfl,rfl⟩ (by kernel_rfl)
  have g1:=zfZ Tryz.underlying74 h 1 72 1 1 ⟨_,rfl,rfl,rfl⟩ (by kernel_rfl)
  obtain ⟨A,m,c,g,e0,h1,h2,hx,hw⟩:=zcN Tryz.underlying22 Tryz.underlying3 (by kernel_rfl) g0.sees
  obtain ⟨_,m2,_,_,e2,_,_,hm8,_⟩:=zb0 (B:=8) Tryz.underlying22 (show Tryz.prog.cellsOf 3 = 1 by kernel_rfl) (by omega) (by kernel_rfl) g0
  obtain ⟨B,n,d,f,e1,h3,h4,hn24,hr,hf⟩:=zb0 (B:=24) Tryz.underlying72 (show Tryz.prog.cellsOf 149 = 1 by kernel_rfl) (by omega) (by kernel_rfl) g1
  simp at e0 e1 e2
  subst e0 e1
  obtain ⟨_,rfl,_⟩:_/\m=m2/\_:=by simpa using e2
  have key:∀ i,∃ t:Option Addr × Nat × Nat × (Nat->Int) × (Nat->Int) × (Nat->Int),i<n->f i 0=.slice t.1 t.2.1 t.2.2.1/\t.2.1<=t.2.2.1/\t.2.2.1<=maxLen/\t.2.1<=140737488351232 /\
    Rd w w.heap.size t.1 t.2.1 3 (fun j k=>if k=0 then .int .i64 (t.2.2.2.1 j) else if k=1 then .int .i64 (t.2.2.2.2.1 j) else .int .i64 (t.2.2.2.2.2 j))/\∀ j,j<t.2.1->InI64 (t.2.2.2.1 j)/\InI64 (t.2.2.2.2.1 j)/\InI64 (t.2.2.2.2.2 j):=by
   intro i
   by_cases hi:i<n
   ·obtain ⟨E,m',c',x,y,z,e,k1,k2,k5,k3,k4⟩:=zf0 (hf i hi)
    have e':[f i 0]=[.slice E m' c']:=e
    simp only [List.cons.injEq,and_true] at e'
    exact ⟨(E,m',c',x,y,z),fun _=>⟨e',k1,k2,k5,k3,k4⟩⟩
   ·exact ⟨(none,0,0,fun _=>0,fun _=>0,fun _=>0),fun h=>absurd h hi⟩
  obtain ⟨t,key⟩:=Classical.axiomOfChoice key
  refine ⟨⟨m,g,n,fun i=>(t i).2.1,fun i=>(t i).2.2.2.1,fun i=>(t i).2.2.2.2.1,fun i=>(t i).2.2.2.2.2⟩,A,B,c,d,rfl,⟨hx,fun i hi=>zeR (hw i hi),fun i hi=>?_,(by show m<=_; omega),(by show n<=_; omega),fun i hi=>(key i hi).2.2.2.1⟩,h1,h3,h2,h4⟩
  obtain ⟨k0,k1,k2,_,k3,k4⟩:=key i hi
  obtain ⟨b,off,e,hb,hc⟩:=hr i hi
  have hc0:=hc 0 (by omega)
  rw [k0] at hc0
  exact ⟨b,off,_,_,e,hb,by simpa using hc0,k1,k2,k3,k4⟩
end
def Trel.sumW (T:Trel):Nat->Int
 | 0=>0
 | k+1=>T.sumW k+T.W k
def Trel.sumE (T:Trel):Nat->Nat
 | 0=>0
 | k+1=>T.sumE k+T.el k
def Trel.inside (T:Trel) (i j:Nat):Prop:=0<=T.fr i j/\T.fr i j<T.W i/\0<=T.to i j/\T.to i j<T.W (i+1)
instance (T:Trel) (i j:Nat):Decidable (T.inside i j):=by unfold Trel.inside; exact inferInstance
def Trel.shapeE (T:Trel):Int :=
 if 64<T.n∨T.nw≠T.n+1 then 3
 else if ¬ ∀ i,i<T.nw->1<=T.W i then 6
 else if 65536<T.sumW T.nw then 8
 else if 262144<T.sumE T.n then 8
 else if ¬ ∀ i,i<T.n->∀ j,j<T.el i->T.inside i j then 6
 else 0
structure Trel.Shape (T:Trel):Prop where
 n64:T.n<=64
 nw:T.nw=T.n+1
 w1:∀ i,i<=T.n->1<=T.W i
 sW:T.sumW (T.n+1)<=65536
 sE:T.sumE T.n<=262144
 ins:∀ i,i<T.n->∀ j,j<T.el i->T.inside i j
theorem Trel.shape_of {T:Trel} (h:T.shapeE=0):T.Shape:=by
 unfold Trel.shapeE at h
 by_cases h1:64<T.n∨T.nw≠T.n+1
 ·rw [if_pos h1] at h; omega
 rw [if_neg h1] at h
 by_cases h2:∀ i,i<T.nw->1<=T.W i
 ·rw [if_neg (by simpa using h2)] at h
  by_cases h3:65536<T.sumW T.nw
  ·rw [if_pos h3] at h; omega
  rw [if_neg h3] at h
  by_cases h4:262144<T.sumE T.n
  ·rw [if_pos h4] at h; omega
  rw [if_neg h4] at h
  by_cases h5:∀ i,i<T.n->∀ j,j<T.el i->T.inside i j
  ·have hnw:T.nw=T.n+1:=by omega
   exact ⟨by omega,hnw,fun i hi=>h2 i (by omega),by rw [<-hnw]; omega,by omega,h5⟩
  ·rw [if_pos h5] at h; omega
 ·rw [if_pos h2] at h; omega
theorem Trel.sumW_mono {T:Trel} {m:Nat} (h:∀ i,i<m->1<=T.W i):∀ k d,k+d<=m->T.sumW k+d<=T.sumW (k+d):=by
 intro k d
 induction d with
 | zero=>intro _; simp
 | succ d ih =>
  intro hk
  have h1:=ih (by omega)
  have h2:=h (k+d) (by omega)
  show T.sumW k+((d+1:Nat):Int)<=T.sumW (k+d)+T.W (k+d)
  omega
theorem Trel.sumE_mono {T:Trel}:∀ k d,T.sumE k<=T.sumE (k+d):=by
 intro k d
 induction d with
 | zero=>exact Nat.le_refl _
 | succ d ih=>exact Nat.le_trans ih (Nat.le_add_right _ _)
theorem Trel.Shape.wid {T:Trel} (h:T.Shape) {i:Nat} (hi:i<=T.n):1<=T.W i/\T.W i<=65536:=by
 have h1:=h.w1 i hi
 have h2:=Trel.sumW_mono (m:=T.n+1) (fun i hi=>h.w1 i (by omega)) 0 i (by omega)
 have h3:=Trel.sumW_mono (m:=T.n+1) (fun i hi=>h.w1 i (by omega)) (i+1) (T.n - i) (by omega)
 rw [show i+1+(T.n - i)=T.n+1 by omega] at h3
 have h4:=h.sW
 have h5:T.sumW (i+1)=T.sumW i+T.W i:=rfl
 simp [Trel.sumW] at h2
 omega
theorem Trel.Shape.elb {T:Trel} (h:T.Shape) {i:Nat} (hi:i<T.n):T.el i<=262144:=by
 have h3:=Trel.sumE_mono (T:=T) (i+1) (T.n - (i+1))
 rw [show i+1+(T.n - (i+1))=T.n by omega] at h3
 have h4:=h.sE
 have h5:T.sumE (i+1)=T.sumE i+T.el i:=rfl
 omega
end Go.Proofs.YtioagplajkoohaaGreat