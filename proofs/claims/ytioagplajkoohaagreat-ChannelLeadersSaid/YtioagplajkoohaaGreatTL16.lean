/- Merged texts of a claim: MKer, Spc, SpOpen, PCode, PDual, NullCnt, ExpN, Dot04, Word12, Syn12. -/
import Derived.Test.YtioagplajkoohaaGreatTL1
import Derived.Test.YtioagplajkoohaaGreatTL5
import Derived.Test.YtioagplajkoohaaGreatTL6
import Derived.Test.YtioagplajkoohaaGreatTL12
import Derived.Test.YtioagplajkoohaaGreatTL13
import Derived.Test.YtioagplajkoohaaGreatTL14
import Derived.Test.YtioagplajkoohaaGreatTL15
namespace Go.Proofs.YtioagplajkoohaaGreat
set_option maxRecDepth 100000
set_option maxHeartbeats 32000000
open KA KB KC KE KF
open Go.RowKit
def IndexPost (n:Nat) (f:Nat->Int) (v:Int) (w:World) (e:Ending) (w':World):Prop :=
 ∃ x:Int,e=.returned (.int .i64 x)/\Below w.heap.size w w'/\((x = -1/\∀ i,i<n->f i≠v)∨∃ i:Nat,x=i/\i<n/\f i=v/\∀ j,j<i->f j≠v)
theorem zfn (T:Option Addr) (n d:Nat) (f:Nat->Int) (v:Int) (w:World) (h:IntsR w w.heap.size T n f) (hn:n<=1048576) :
  Calls Tryz.prog 242 #[.slice T n d,.int .i64 v] w (IndexPost n f v w):=by
 have HR:=hid h
 clear h
 go_enter Tryz.func242, Tryz.ntmps242
 go_wp2
 go_loopg [8] n (fun gg iv wx=>∃ i:Nat,iv=.int .i64 (i:Nat)/\i<=n/\n<=i+gg/\Hid (∀ j,j<i->f j≠v)/\wx=w)
 case atStart=>exact ⟨0,rfl,by omega,by omega,fun t ht=>absurd ht (by omega),rfl⟩
 case round =>
  obtain ⟨i,rfl,hi,hig,HA,hwx⟩:=hrel
  subst hwx
  have hi0:(0:Int)<=(i:Int):=by omega
  by_cases hlt:i<n
  ·have hlt':(i:Int)<(n:Int):=by omega
   obtain ⟨b,o,rfl,_,x0⟩:=HR.out.at hlt
   obtain ⟨x,hx⟩:∃ x,x=f i:=⟨_,rfl⟩
   rw [<-hx] at x0
   by_cases he:v=x
   ·have hd:(v == x)=true:=by simpa using he
    have HP:Hid (∃ i2:Nat,(i:Int)=i2/\i2<n/\f i2=v/\∀ j,j<i2->f j≠v):=⟨i,rfl,hlt,by rw [<-hx,he],HA.out⟩
    clear he hx
    go_wp2
    go_ret
    exact ⟨_,rfl,Below.refl _ _,.inr HP.out⟩
   ·have hd:(v == x)=false:=by simpa using he
    have HA2:Hid (∀ j,j<i+1->f j≠v):=fun j hj=>by
     by_cases e:j=i
     ·rw [e,<-hx]; exact fun h=>he h.symm
     ·exact HA.out j (by omega)
    clear he hx
    go_wp2
    go_roundg (gk - 1)
    case measure=>omega
    case rel=>exact ⟨i+1,by go_num,by omega,by omega,HA2,rfl⟩
  ·have hlt':¬ (i:Int)<(n:Int):=by omega
   have HP:Hid (∀ j,j<n->f j≠v):=fun j hj=>HA.out j (by omega)
   go_wp2
   go_ret
   exact ⟨_,rfl,Below.refl _ _,.inl ⟨rfl,HP.out⟩⟩
theorem zdJ (T:Option Addr) (n d:Nat) (f:Nat->Int) (v:Int) (w:World) (h:IntsR w w.heap.size T n f) (hn:n<=1048576) :
  Calls Tryz.prog 202 #[.slice T n d,.int .i64 v] w (IffPost (∃ i,i<n/\f i=v) w):=by
 go_enter Tryz.func202, Tryz.ntmps202
 go_wp2_with fail
 refine (zfn T n d f v w h hn).mono ?_
 rintro e w1 ⟨x,rfl,hB,hx⟩
 have HX:=hid hx
 clear hx h
 by_cases hx0:0<=x
 ·have hd:decide (0<=x)=true:=by simpa using hx0
  have HY:Hid (∃ i,i<n/\f i=v):=by
   rcases HX.out with ⟨h1,_⟩ | ⟨i,_,h2,h3,_⟩
   ·omega
   ·exact ⟨i,h2,h3⟩
  clear hx0
  go_wp2
  go_ret
  exact zbm HY.out hB
 ·have hd:decide (0<=x)=false:=by simpa using hx0
  have HY:Hid (¬ ∃ i,i<n/\f i=v):=by
   rcases HX.out with ⟨_,h1⟩ | ⟨i,h1,_,_,_⟩
   ·rintro ⟨i,h2,h3⟩; exact h1 i h2 h3
   ·omega
  clear hx0
  go_wp2
  go_ret
  exact zaI HY.out hB
def MKerPost (P M : Int) (k : Nat) (f : Nat → Int) (cols : Int) (n : Nat) (ln : Nat → Nat) (V : Nat → Nat → Int) (w : World) (e : Ending) (w' : World) : Prop :=
 Below w.heap.size w w'/\∃ v:Int,FirstErr (MatErrs P M k f cols n ln V) v /\
  ((v≠0/\e=.returned (.tuple #[.agg #[.int .i64 0,.slice none 0 0],.int .i64 v])) ∨
   (v=0/\∃ (P' M' C:Nat) (lv:Value) (a:Nat) (W:Nat->Nat->Nat),P=P'/\M=M'/\cols=C/\e=.returned (.tuple #[.agg #[.int .i64 (C:Nat),lv],.int .i64 0]) /\
    MTab w' w.heap.size lv a C W/\NullRel (P' ^ M') (addF P' M') (mulF P' M' fun i=>(f i).toNat) (negF P' M') n C (natT V) a W))
theorem zc3 (P M:Int) (A:Option Addr) (k c:Nat) (f:Nat->Int) (cols:Int) (T:Option Addr) (n d:Nat) (ln:Nat->Nat) (V:Nat->Nat->Int) (w:World) (hr:IntsR w w.heap.size A k f) (h:IntRows w T n ln V) (hc1:1<=cols) :
  Calls Tryz.prog 126 #[.agg #[.int .i64 P,.int .i64 M,.slice A k c],.agg #[.int .i64 cols,.slice T n d]] w (MKerPost P M k f cols n ln V w):=by
 have HR:=hid hr
 have HT:=hid h
 clear hr h
 have rf:=zaf (w:=w) (a:=.int .i64 P) (b:=.int .i64 M) (c:=.slice A k c) (T := 24)
 have hB:Below w.heap.size w (w.alloc (.cells #[.int .i64 P,.int .i64 M,.slice A k c] 24)):=(Below.refl _ _).alloc (Nat.le_refl _) _
 have hsz:(w.alloc (.cells #[.int .i64 P,.int .i64 M,.slice A k c] 24)).heap.size=w.heap.size+1:=by simp
 obtain ⟨w0,hw0⟩:∃ W,W=w.alloc (.cells #[.int .i64 P,.int .i64 M,.slice A k c] 24):=⟨_,rfl⟩
 have rm:=zax (w:=w0) (a:=.int .i64 cols) (b:=.slice T n d) (T := 97)
 have kb:Below w0.heap.size w0 (w0.alloc (.cells #[.int .i64 cols,.slice T n d] 97)):=(Below.refl _ _).alloc (Nat.le_refl _) _
 have hsz1:(w0.alloc (.cells #[.int .i64 cols,.slice T n d] 97)).heap.size=w0.heap.size+1:=by simp
 obtain ⟨w1,hw1⟩:∃ W,W=w0.alloc (.cells #[.int .i64 cols,.slice T n d] 97):=⟨_,rfl⟩
 have ro:=zax (w:=w1) (a:=.int .i64 0) (b:=.slice none 0 0) (T := 97)
 have kb2:Below w1.heap.size w1 (w1.alloc (.cells #[.int .i64 0,.slice none 0 0] 97)):=(Below.refl _ _).alloc (Nat.le_refl _) _
 obtain ⟨w2,hw2⟩:∃ W,W=w1.alloc (.cells #[.int .i64 0,.slice none 0 0] 97):=⟨_,rfl⟩
 rw [<-hw0] at hB rf hsz;rw [<-hw1] at rm kb hsz1;rw [<-hw2] at ro kb2;rw [hsz1,hsz] at ro;rw [hsz] at rm;replace rf:=zaa (zaa rf kb) kb2;replace rm:=zaa rm kb2;replace hB:=onS (onS hB kb) kb2
 go_enter Tryz.func126, Tryz.ntmps126
 go_upto_region 1 with fail
 rw [<-hw0,<-hw1,<-hw2];clear hw0 hw1 hw2 kb kb2 hsz hsz1
 obtain ⟨b0,hb0⟩:∃ b,b=w.heap.size:=⟨_,rfl⟩
 obtain ⟨b1,hb1⟩:∃ b,b=w.heap.size+1:=⟨_,rfl⟩
 obtain ⟨b2,hb2⟩:∃ b,b=w.heap.size+1+1:=⟨_,rfl⟩
 have hb2w:w.heap.size<=b2:=by omega
 rw [<-hb0] at rf;rw [<-hb1] at rm;rw [<-hb2] at ro;rw [<-hb2,<-hb1,<-hb0];clear hb0 hb1 hb2
 have q0:=qc0 rf
 have q1:=qc1 rf
 have q2:=qc2 rf
 have p0:=qc0 rm
 have p1:=qc1 rm
 go_wp2_with fail
 have kb3:Below w2.heap.size w2 (w2.alloc (Obj.cells #[.int .i64 cols,.slice T n d] 97)):=(Below.refl _ _).alloc (Nat.le_refl _) _
 have rl:=zax (w:=w2) (a:=.int .i64 cols) (b:=.slice T n d) (T := 97)
 obtain ⟨w3,hw3⟩:∃ W,W=w2.alloc (Obj.cells #[.int .i64 cols,.slice T n d] 97):=⟨_,rfl⟩
 rw [<-hw3] at kb3 rl ⊢;replace hB:=onS hB kb3;replace rf:=zaa rf kb3;replace rm:=zaa rm kb3;replace ro:=zaa ro kb3;clear hw3 kb3 q0 q1 q2 p0 p1
 refine (zgw P M A k c f cols T n d w2.heap.size 1 ln V w3 (HR.out.on hB) (HT.out.on hB) (rl.cell (i:=0) (by omega)) (rl.cell (i:=1) (by omega))).mono ?_
 rintro e w4 ⟨kb,v,hv,hcase⟩
 replace hB:=onS hB kb;replace rm:=zaa rm kb;replace ro:=zaa ro kb
 have HV:=hid hv
 clear kb rl rf hv
 rcases hcase with ⟨hv0,rfl⟩ | ⟨rfl,g,P,M,rfl,rfl,rfl,hG⟩
 ·have hvn:(v != 0)=true:=by simpa using hv0
  have HV0:=hid hv0
  clear hv0 rm
  have r0:=ro.frozen 0
  have s0:=qc0 ro
  have r1:=ro.frozen 1
  have s1:=qc1 ro
  go_wp2
  clear r0 s0 r1 s1
  generalize hw9:World.setCell _ _ _=w5
  obtain ⟨row9,hg9⟩:=zbh ro hw9.symm
  clear hw9
  have hB9:=hB.grown hg9 hB.size (fun q e=>by injection e with e; omega)
  have e0:=qc0 row9
  have e1:=qc1 row9
  refine bodyPost_ret (v:=.tuple #[.agg #[.int .i64 0,.slice none 0 0],.int .i64 v]) (by simp [results,Tryz.results126, go_sem,e0,e1]) rfl ?_
  exact ⟨hB9,v,HV.out,.inl ⟨HV0.out,rfl⟩⟩
 ·have hok:=HV.out
  rcases hok with ⟨_,h9⟩ | ⟨hgood,⟨_,h9⟩ | ⟨hs,⟨_,h9⟩ | ⟨he,_⟩⟩⟩
  ·cases h9
  ·cases h9
  ·cases h9
  obtain ⟨C,rfl⟩:∃ C:Nat,cols=C:=⟨cols.toNat,by omega⟩
  rw [Int.toNat_natCast,Int.toNat_natCast] at he
  obtain ⟨hm,hlt⟩:=zcT (HT.out.on hB) hs he
  have hC1:0<C:=by omega
  have hC2:C<=1048576:=by have:=hs.2.1; omega
  have hn2:n<=1048576:=by have:=hs.2.2.1; omega
  have p0:=qc0 rm
  have p1:=qc1 rm
  have HOK:=hid hgood.field.1
  have HG:=hid hG
  have HMM:=hid hm
  have HLT:=hid hlt
  have HC:Hid (C<=256):=by show _<=_; have:=hs.2.1; omega
  have HB4:=hid hB
  clear hs he hgood hG hm hlt hB
  go_wp2_with fail
  refine (zdI P M g _ T n d C C (natT V) w4 HG.out HMM.out HLT.out (Nat.le_refl _) hC1 hC2 hn2).mono ?_
  rintro e w5 ⟨lv,pv,a,p,W,rfl,hMT,hP,kb,hE,hR⟩
  have HB5:=hid (onS HB4.out kb)
  have HG5:=hid (HG.out.on kb)
  replace ro:=zaa ro kb;replace rm:=zaa rm kb
  have HE:=hid hE
  have HRO:=hid hR
  obtain ⟨LA,lc,hlv⟩:=hMT.shape
  subst hlv
  obtain ⟨PA,pc,hpv⟩:=hP.shape
  subst hpv
  have HMB:=hid hMT
  have HPB:=hid hP
  have haC:=hE.le_c
  have HRM:=hid rm
  have HRO2:=hid ro
  clear kb hMT hP hE hR HMM HLT HG p0 p1 rm ro
  have p0:=qc0 HRM.out
  have hL:=hid (fieldLaws HOK.out)
  have hP0:0<P:=by have:=HOK.out.1.1; omega
  have HQN:Hid (∀ x,negF P M x<P ^ M):=fun x=>zbS hP0
  have H0:=hid (MTab.nil w5 w5.heap.size C (fun _ _=>0))
  have hmk:=fun W=>zan (P:=Tryz.prog) 22 3 _ 8 Tryz.underlying22 Tryz.infoInt rfl (C:Int) (by omega) (by omega) (by omega) W
  simp only [Int.toNat_natCast] at hmk
  go_wp2
  clear p0
  obtain ⟨nv,hnv⟩:∃ x:Value,x=.slice none 0 0:=⟨_,rfl⟩
  rw [<-hnv] at H0;rw [<-hnv];clear hnv
  go_loopg [10,37] C (fun gg ov cv wx=>∃ (c0 f0:Nat) (fr:Nat->Nat) (NW:Nat->Nat->Nat),cv=.int .i64 (c0:Nat)/\c0<=C/\C<=c0+gg/\f0<=c0/\Hid (NullN (negF P M) C a p W c0 f0 fr NW)/\Hid (MTab wx w5.heap.size ov f0 C NW)/\Hid (Below w5.heap.size w5 wx))
  case atStart=>exact ⟨0,0,fun _=>0,fun _ _=>0,rfl,by omega,by omega,by omega,hid NullN.start,H0,Below.refl _ _⟩
  case round =>
   clear H0
   obtain ⟨c0,f0,fr,NW,rfl,hc,hcg,hfc,HN,HO,HB2⟩:=hrel
   have hc00:(0:Int)<=(c0:Int):=by omega
   obtain ⟨gO,hgO⟩:∃ x,x=gk:=⟨_,rfl⟩
   rw [<-hgO] at hcg
   have p0:wr.cell? ⟨b1,0,none⟩=some (.int .i64 (C:Nat)):=cellS HB2.out (HRM.out.cell (i:=0) (by omega))
   by_cases hcl:c0<C
   ·have hcl':(c0:Int)<(C:Int):=by omega
    go_wp2_with fail
    refine (zdJ PA a pc (fun s=>((p s:Nat):Int)) (c0:Int) wr ((show IntsR w5 w5.heap.size PA a (fun s=>((p s:Nat):Int)) from HPB.out.rd rfl).on HB2.out) (by omega)).mono ?_
    rintro e wC ⟨b,rfl,hb,kb⟩
    have HBC:=hid (onS HB2.out kb)
    have HOC:=hid (HO.out.on kb)
    have HBB:=hid hb
    clear kb hb HO HB2 p0
    cases b
    ·have HFREE:Hid (∀ s,s<a->p s≠c0):=fun s hs e=>by have:=HBB.out.2 ⟨s,hs,by rw [e]⟩; cases this
     have p0:wC.cell? ⟨b1,0,none⟩=some (.int .i64 (C:Nat)):=cellS HBC.out (HRM.out.cell (i:=0) (by omega))
     go_upto_region 11 with fail
     have rx:=World.rowIs_made wC (.int .i64 0) C 3
     have kb:=(Below.refl wC.heap.size wC).alloc (Nat.le_refl _) (Obj.cells (madeCells #[Value.int .i64 0] C) 3)
     obtain ⟨w6,hw6⟩:∃ W,W=wC.alloc (Obj.cells (madeCells #[Value.int .i64 0] C) 3):=⟨_,rfl⟩
     obtain ⟨xb,hxb⟩:∃ b,b=wC.heap.size:=⟨_,rfl⟩
     rw [<-hw6] at kb rx ⊢;rw [<-hxb] at rx ⊢
     have hxb1:wC.heap.size<=xb:=by omega
     clear hw6 hxb p0
     have y0:=rx.cell hcl
     have z0:=rx.frozen c0
     have HRX:=hid ((rx.set c0 (.int .i64 1)).congr (g:=fun t=>.int .i64 ((nrow (negF P M) p W c0 0 t:Nat):Int)) fun t _=>by
      show (if t=c0 then Value.int .i64 1 else .int .i64 0)=.int .i64 (((if t=c0 then 1 else 0:Nat)):Int)
      split <;> rfl)
     have HKB:=hid (kb.setCell (p:=⟨xb,c0,none⟩) hxb1 (.int .i64 1))
     clear rx kb
     go_wp2
     clear y0 z0
     obtain ⟨w7,hw7⟩:∃ W,W=w6.setCell ⟨xb,c0,none⟩ (.int .i64 1):=⟨_,rfl⟩
     rw [<-hw7] at HRX HKB ⊢;clear hw7
     go_loopg [51] a (fun gg iv wx=>∃ t:Nat,iv=.int .i64 (t:Nat)/\t<=a/\a<=t+gg/\Hid (wx.rowIs xb 3 C (fun j=>.int .i64 ((nrow (negF P M) p W c0 t j:Nat):Int)))/\Hid (Below wC.heap.size wC wx))
     case atStart=>exact ⟨0,rfl,by omega,by omega,HRX,HKB⟩
     case round =>
      clear HRX HKB
      obtain ⟨t,rfl,ht,htg,HRX,HKB⟩:=hrel
      have ht0:(0:Int)<=(t:Int):=by omega
      by_cases htl:t<a
      ·have htl':(t:Int)<(a:Int):=by omega
       obtain ⟨pb,po,hPA,hpb,x0⟩:=(show IntsR w5 w5.heap.size PA a (fun s=>((p s:Nat):Int)) from HPB.out.rd rfl).at htl
       subst hPA
       obtain ⟨tb,to0,RA,rc,hLA,_,htb,y0,_,hrow⟩:=HMB.out.row htl
       subst hLA
       obtain ⟨rb,ro,hRA,hrb,y1⟩:=(show IntsR w5 w5.heap.size RA C (fun j=>((W t j:Nat):Int)) from hrow.rd rfl).at (i:=c0) hcl
       subst hRA
       clear hrow
       obtain ⟨pt,hpt⟩:∃ x,x=p t:=⟨_,rfl⟩
       obtain ⟨y,hy⟩:∃ y,y=W t c0:=⟨_,rfl⟩
       rw [<-hpt] at x0;rw [<-hy] at y1
       have hptN:pt<C:=by rw [hpt]; exact HE.out.pvlt t htl
       have hptN':(pt:Int)<(C:Int):=by omega
       have hpt0:(0:Int)<=(pt:Int):=by omega
       have HIY:=hid (zaH (q:=P ^ M) (x:=y) (by rw [hy]; exact HE.out.lt t (by have:=HE.out.le; omega) c0 hcl))
       have HPT:=hid hpt
       have HY:=hid hy
       clear hpt hy
       have HBX:=hid (onS HBC.out HKB.out)
       replace x0:=cellS HBX.out x0;replace y0:=cellS HBX.out y0;replace y1:=cellS HBX.out y1
       go_wp2_with fail
       refine (zeE (y:Int) (HG5.out.on HBX.out)).mono ?_
       rintro e w8 ⟨rfl,kb⟩
       rw [HIY.out]
       have HRX8:=hid (zaa HRX.out kb)
       have HKB8:=hid (onS HKB.out kb)
       obtain ⟨r,hr⟩:∃ r,r=negF P M y:=⟨_,rfl⟩
       rw [<-hr]
       have HRR:=hid hr
       clear kb hr x0 y0 y1 HRX HKB HBX
       have y0:=HRX8.out.cell hptN
       have z0:=HRX8.out.frozen pt
       have HRX9:=hid ((HRX8.out.set pt (.int .i64 (r:Nat))).congr (g:=fun j=>.int .i64 ((nrow (negF P M) p W c0 (t+1) j:Nat):Int)) fun j _=>by
        show (if j=pt then Value.int .i64 (r:Nat) else .int .i64 (nrow (negF P M) p W c0 t j:Nat))=.int .i64 (((if j=p t then negF P M (W t c0) else nrow (negF P M) p W c0 t j:Nat)):Int)
        rw [HPT.out]
        split
        ·rw [HRR.out,HY.out]
        ·rfl)
       have HKB9:=hid (HKB8.out.setCell (p:=⟨xb,pt,none⟩) hxb1 (.int .i64 (r:Nat)))
       clear HRX8 HKB8
       go_wp2
       go_roundg (gk - 1)
       case measure=>omega
       case rel=>exact ⟨t+1,by go_num,by omega,by omega,HRX9,HKB9⟩
      ·have htl':¬ (t:Int)<(a:Int):=by omega
       have hta:t=a:=by omega
       have HX9:Hid (Own wr w5.heap.size 3 1 (.slice (some ⟨xb,0,none⟩) C C) C (fun j _=>.int .i64 ((nrow (negF P M) p W c0 a j:Nat):Int))):=by
        have h:=za6 HRX.out (Nat.le_trans HBC.out.size hxb1) (show C<=maxLen by unfold maxLen; have:=HC.out; omega)
        rw [hta] at h
        exact h
       clear hta
       have HO9:=hid (HOC.out.on HKB.out)
       have HB9:=hid (onS HBC.out HKB.out)
       have kb3:Below wr.heap.size wr (wr.alloc (Obj.cells #[.slice (some ⟨xb,0,none⟩) C C] 22)):=(Below.refl _ _).alloc (Nat.le_refl _) _
       have HXA:=hid (HX9.out.on kb3)
       have HOA:=hid (HO9.out.on kb3)
       have HBA:=hid (onS HB9.out kb3)
       have HZA:=hid HBA.out.size
       have HCA:Hid ((wr.alloc (Obj.cells #[.slice (some ⟨xb,0,none⟩) C C] 22)).cell? ((⟨wr.heap.size,0,none⟩:Addr).add 0)=some (.slice (some ⟨xb,0,none⟩) C C)):=tbox2
       have HL:Hid (f0<=1048576):=by show _<=_; have:=HC.out; omega
       clear kb3 HX9 HO9 HB9 HRX HKB
       go_wp2_with (first | (at_builtin; (refine zaK rfl (.tmp 69) (.tmp 71) rfl HOA.out rfl (ad:=⟨wr.heap.size,0,none⟩) (c:=1) rfl HCA.out rfl HXA.out HZA.out HL.out ?_); intro v9 w9 o1 o2 o3))
       have HN9:=hid (HN.out.next HFREE.out (x:=fun j=>nrow (negF P M) p W c0 a j) (fun j _=>rfl))
       have HO9:=hid o1
       have HB9:=hid (HBA.out.grown o2 HZA.out o3)
       clear o1 o2 o3
       go_wp2
       go_roundg (gO - 1)
       case measure=>omega
       case rel=>exact ⟨c0+1,f0+1,_,_,by go_num,by omega,by omega,by omega,HN9,HO9,HB9⟩
    ·have HIN:Hid (∃ s,s<a/\p s=c0):=by
      obtain ⟨s,hs,e⟩:=HBB.out.1 rfl
      exact ⟨s,hs,by omega⟩
     have HNN:=hid (HN.out.skip HIN.out)
     go_wp2
     go_roundg (gO - 1)
     case measure=>omega
     case rel=>exact ⟨c0+1,f0,fr,NW,by go_num,by omega,by omega,by omega,HNN,HOC,HBC⟩
   ·have hcl':¬ (c0:Int)<(C:Int):=by omega
    have hcC:c0=C:=by omega
    have HNN:Hid (NullN (negF P M) C a p W C f0 fr NW):=by have h:=HN.out; rw [hcC] at h; exact h
    clear hcC
    obtain ⟨OA,oc,hov⟩:=HO.out.shape
    subst hov
    have HNL:Hid (∀ i,i<f0->∀ j,j<C->NW i j<P ^ M):=fun i hi j hj=>by
     rw [HNN.out.row i hi j hj]
     exact zhr hL.out.two HQN.out _ _ _
    have HMR:=hid (HO.out.rd (q:=P ^ M) HOK.out.1.2.2.2 HNL.out)
    have hf2:f0<=1048576:=by have:=HC.out; omega
    go_wp2_with fail
    refine (zdI P M g _ OA f0 oc C C NW wr (HG5.out.on HB2.out) HMR.out HNL.out (Nat.le_refl _) hC1 hC2 hf2).mono ?_
    rintro e w6 ⟨lv2,pv2,a2,p2,W2,rfl,hMT2,hP2,kb,hE2,hR2⟩
    have HREL:Hid (NullRel (P ^ M) (addF P M) (mulF P M fun i=>(f i).toNat) (negF P M) n C (natT V) a2 W2):=⟨a,p,W,f0,fr,NW,p2,HE.out,HRO.out,HNN.out,hE2,hR2⟩
    obtain ⟨LA2,lc2,hlv2⟩:=hMT2.shape
    subst hlv2
    obtain ⟨PA2,pc2,hpv2⟩:=hP2.shape
    subst hpv2
    have hsz5:=HB5.out.size
    have hsz2:=HB2.out.size
    have HM6:=hid (hMT2.mono (Nat.le_trans hsz5 hsz2))
    have HB6:=hid (onS (onS HB5.out HB2.out) kb)
    have ro:=zaa (zaa HRO2.out HB2.out) kb
    have p0:w6.cell? ⟨b1,0,none⟩=some (.int .i64 (C:Nat)):=cellS kb (cellS HB2.out (HRM.out.cell (i:=0) (by omega)))
    clear kb hMT2 hP2 hE2 hR2
    have r0:=ro.frozen 0
    have s0:=qc0 ro
    have r1:=ro.frozen 1
    have s1:=qc1 ro
    go_wp2
    clear r0 s0 r1 s1 p0
    generalize hw9:World.setCell _ _ _=w7
    obtain ⟨row9,hg9⟩:=zbh ro hw9.symm
    clear hw9
    have hB9:=HB6.out.grown hg9 HB6.out.size (fun q e=>by injection e with e; omega)
    have hM9:=HM6.out.kept hg9 ro (by decide) (by decide)
    have e0:=qc0 row9
    have e1:=qc1 row9
    refine bodyPost_ret (v:=.tuple #[.agg #[.int .i64 (C:Nat),.slice LA2 a2 lc2],.int .i64 0]) (by simp [results,Tryz.results126, go_sem,e0,e1]) rfl ?_
    exact ⟨hB9,0,HV.out,.inr ⟨rfl,P,M,C,_,a2,W2,rfl,rfl,rfl,rfl,hM9,HREL.out⟩⟩
theorem zeI (A B:Option Addr) (n m c d:Nat) (f g:Nat->Int) (w:World) (ha:IntsR w w.heap.size A n f) (hb:IntsR w w.heap.size B m g) (hn:n<=1048576) (hm:m<=1048576) :
  Calls Tryz.prog 189 #[.slice A n c,.slice B m d] w (IffPost (EqI n m f g) w):=by
 have HA:=hid ha
 have HB:=hid hb
 clear ha hb
 by_cases hnm:n=m
 ·subst hnm
  have hd:((n:Int) != (n:Int))=false:=by simp
  go_enter Tryz.func189, Tryz.ntmps189
  go_wp2
  go_loopg [13] n (fun gg iv wx=>∃ i:Nat,iv=.int .i64 (i:Nat)/\i<=n/\n<=i+gg/\Hid (∀ t,t<i->f t=g t)/\Hid (Below w.heap.size w wx))
  case atStart=>exact ⟨0,rfl,by omega,by omega,fun t ht=>absurd ht (by omega),Below.refl _ _⟩
  case round =>
   obtain ⟨i,rfl,hi,hig,HE,HW⟩:=hrel
   have hi0:(0:Int)<=(i:Int):=by omega
   by_cases hlt:i<n
   ·have hlt':(i:Int)<(n:Int):=by omega
    obtain ⟨b,o,rfl,_,x0⟩:=(HA.out.on HW.out).at hlt
    obtain ⟨b2,o2,rfl,_,y0⟩:=(HB.out.on HW.out).at hlt
    obtain ⟨x,hx⟩:∃ x,x=f i:=⟨_,rfl⟩
    obtain ⟨y,hy⟩:∃ x,x=g i:=⟨_,rfl⟩
    rw [<-hx] at x0;rw [<-hy] at y0
    by_cases he:x=y
    ·have hd2:(x != y)=false:=by simpa using he
     have HE2:Hid (∀ t,t<i+1->f t=g t):=fun t ht=>by
      by_cases e:t=i
      ·rw [e,<-hx,<-hy,he]
      ·exact HE.out t (by omega)
     clear he hx hy
     go_wp2
     go_quiet (fail)
     go_wp2
     go_roundg (gk - 1)
     case measure=>omega
     case rel=>exact ⟨i+1,by go_num,by omega,by omega,HE2,zaj HW.out _⟩
    ·have hd2:(x != y)=true:=by simpa using he
     have HNO:Hid (¬ EqI n n f g):=fun h=>he (by rw [hx,hy]; exact h.2 i hlt)
     clear he hx hy
     go_wp2
     go_quiet (fail)
     go_wp2
     go_ret
     exact zaI HNO.out (zaj HW.out _)
   ·have hlt':¬ (i:Int)<(n:Int):=by omega
    have HY:Hid (EqI n n f g):=⟨rfl,fun t ht=>HE.out t (by omega)⟩
    go_wp2
    go_ret
    exact zbm HY.out HW.out
 ·have hd:((n:Int) != (m:Int))=true:=by simp; omega
  have HNO:Hid (¬ EqI n m f g):=fun h=>hnm h.1
  clear hnm
  go_enter Tryz.func189, Tryz.ntmps189
  go_wp2
  go_ret
  exact zaI HNO.out (Below.refl _ _)
theorem zfo (A B:Option Addr) (n m c d:Nat) (ln ln':Nat->Nat) (V W:Nat->Nat->Int) (w:World) (ha:IntRows w A n ln V) (hb:IntRows w B m ln' W) (hn:n<=1048576) (hm:m<=1048576) (hl:∀ i,i<n->ln i<=1048576) (hl2:∀ i,i<m->ln' i<=1048576) :
  Calls Tryz.prog 249 #[.slice A n c,.slice B m d,.func (.func 189) #[] #[]] w (IffPost (EqT n m ln ln' V W) w):=by
 have hcf:∀ (x y:Value) (W:World),(callFunc 189 #[x,y]).run Tryz.prog W=.ok (.enter 189 #[x,y]) W:=fun _ _ _=>by kernel_rfl
 have HA:=hid ha
 have HB:=hid hb
 have HL:=hid hl
 have HL2:=hid hl2
 clear ha hb hl hl2
 by_cases hnm:n=m
 ·subst hnm
  have hd:((n:Int) != (n:Int))=false:=by simp
  go_enter Tryz.func249, Tryz.ntmps249
  go_wp2
  go_loopg [17] n (fun gg iv wx=>∃ i:Nat,iv=.int .i64 (i:Nat)/\i<=n/\n<=i+gg/\Hid (∀ t,t<i->EqI (ln t) (ln' t) (V t) (W t))/\Hid (Below w.heap.size w wx))
  case atStart=>exact ⟨0,rfl,by omega,by omega,fun t ht=>absurd ht (by omega),Below.refl _ _⟩
  case round =>
   obtain ⟨i,rfl,hi,hig,HE,HW⟩:=hrel
   have hi0:(0:Int)<=(i:Int):=by omega
   by_cases hlt:i<n
   ·have hlt':(i:Int)<(n:Int):=by omega
    obtain ⟨b,o,RA,rc,rfl,_,x0,_,_,hrow,_⟩:=(HA.out.on HW.out) i hlt
    obtain ⟨b2,o2,RB,rc2,rfl,_,y0,_,_,hrow2,_⟩:=(HB.out.on HW.out) i hlt
    have H1:=hid hrow
    have H2:=hid hrow2
    clear hrow hrow2
    go_wp2_with fail
    refine (zeI RA RB (ln i) (ln' i) rc rc2 (V i) (W i) wr H1.out H2.out (HL.out i hlt) (HL2.out i hlt)).mono ?_
    rintro e w2 ⟨b,rfl,hb,kb⟩
    have HB2:=hid (onS HW.out kb)
    have HBB:=hid hb
    clear kb hb x0 y0 H1 H2 HW
    cases b
    ·have HNO:Hid (¬ EqT n n ln ln' V W):=fun h=>by have:=HBB.out.2 (h.2 i hlt); cases this
     go_wp2
     go_ret
     exact zaI HNO.out HB2.out
    ·have HE2:Hid (∀ t,t<i+1->EqI (ln t) (ln' t) (V t) (W t)):=fun t ht=>by
      by_cases e:t=i
      ·rw [e]; exact HBB.out.1 rfl
      ·exact HE.out t (by omega)
     go_wp2
     go_roundg (gk - 1)
     case measure=>omega
     case rel=>exact ⟨i+1,by go_num,by omega,by omega,HE2,HB2⟩
   ·have hlt':¬ (i:Int)<(n:Int):=by omega
    have HY:Hid (EqT n n ln ln' V W):=⟨rfl,fun t ht=>HE.out t (by omega)⟩
    go_wp2
    go_ret
    exact zbm HY.out HW.out
 ·have hd:((n:Int) != (m:Int))=true:=by simp; omega
  have HNO:Hid (¬ EqT n m ln ln' V W):=fun h=>hnm h.1
  clear hnm
  go_enter Tryz.func249, Tryz.ntmps249
  go_wp2
  go_ret
  exact zaI HNO.out (Below.refl _ _)
def viewCell (a b c d:Value) (i:Nat):Value:=if i=0 then a else if i=1 then b else if i=2 then c else d
theorem KD.qc0 {w:World} {g:Nat} {T:TypeId} {a b c d:Value} (h:w.rowIs g T 4 (viewCell a b c d)) : w.cell? ⟨g,0,none⟩=some a:=h.cell (i:=0) (by decide)
theorem KD.qc1 {w:World} {g:Nat} {T:TypeId} {a b c d:Value} (h:w.rowIs g T 4 (viewCell a b c d)) : w.cell? ⟨g,1,none⟩=some b:=h.cell (i:=1) (by decide)
theorem KD.qc2 {w:World} {g:Nat} {T:TypeId} {a b c d:Value} (h:w.rowIs g T 4 (viewCell a b c d)) : w.cell? ⟨g,2,none⟩=some c:=h.cell (i:=2) (by decide)
theorem KD.qc3 {w:World} {g:Nat} {T:TypeId} {a b c d:Value} (h:w.rowIs g T 4 (viewCell a b c d)) : w.cell? ⟨g,3,none⟩=some d:=h.cell (i:=3) (by decide)
open KD
theorem zg1 {w:World} {a b c d:Value} {T:TypeId}:(w.alloc (.cells #[a,b,c,d] T)).rowIs w.heap.size T 4 (viewCell a b c d) :=
 ⟨_,zaN rfl,rfl,fun i hi=>by
  rcases (show i=0∨i=1∨i=2∨i=3 by omega) with rfl | rfl | rfl | rfl <;> rfl⟩
theorem zdK {w w':World} {g:Nat} {T:TypeId} {f:Nat->Value} {a b c d:Value} (h:w.rowIs g T 4 f) (hw:w'=(((w.setCell ⟨g,0,none⟩ a).setCell ⟨g,1,none⟩ b).setCell ⟨g,2,none⟩ c).setCell ⟨g,3,none⟩ d):w'.rowIs g T 4 (viewCell a b c d)/\w.grownBy w' (some g):=by
 rw [hw]
 refine ⟨((((h.set 0 _).set 1 _).set 2 _).set 3 _).congr fun j hj=>?_,zay (zay (zay (zb6 _ _ _ _) _ _) _ _) _ _⟩
 match j,hj with
 | 0,_=>rfl
 | 1,_=>rfl
 | 2,_=>rfl
 | 3,_=>rfl
def SOpenPost (P M : Int) (k : Nat) (f : Nat → Int) (cols : Nat) (T : Option Addr) (n d : Nat) (ln : Nat → Nat) (V : Nat → Nat → Int) (w : World) (e : Ending) (w' : World) : Prop :=
 Below w.heap.size w w'/\∃ v:Int,FirstErr (SpaceErrs P M k f cols n ln V) v /\
  ((v≠0/\e=.returned (.tuple #[.agg #[.pointer none,.int .i64 0,.slice none 0 0,.slice none 0 0],.int .i64 v])) ∨
   (v=0/\∃ (P' M' C g:Nat) (pv:Value) (p:Nat->Nat),P=P'/\M=M'/\cols=C/\e=.returned (.tuple #[.agg #[.pointer (some ⟨g,0,none⟩),.int .i64 (C:Nat),.slice T n d,pv],.int .i64 0]) /\
    GF w' w'.heap.size g P' M' (fun i=>(f i).toNat)/\Own w' w.heap.size 3 1 pv n (fun j _=>.int .i64 (p j:Nat))/\EchN (P' ^ M') n C C n p (natT V)))
theorem zg2 {q n k a:Nat} {p:Nat->Nat} {V W:Nat->Nat->Nat} (hE:EchN q n k k a p W) (h:a=n/\∀ i,i<a->∀ j,j<k->W i j=V i j):EchN q n k k n p V:=by
 obtain ⟨rfl,h2⟩:=h
 exact hE.congr (Nat.le_refl _) h2
theorem zi9 (P M:Int) (A:Option Addr) (k c:Nat) (f:Nat->Int) (cols:Nat) (T:Option Addr) (n d:Nat) (ln:Nat->Nat) (V:Nat->Nat->Int) (w:World) (hr:IntsR w w.heap.size A k f) (h:IntRows w T n ln V) (hc1:1<=cols) :
  Calls Tryz.prog 209 #[.agg #[.int .i64 P,.int .i64 M,.slice A k c],.agg #[.int .i64 (cols:Nat),.slice T n d]] w (SOpenPost P M k f cols T n d ln V w):=by
 have HR:=hid hr
 have HT:=hid h
 clear hr h
 have rf:=zaf (w:=w) (a:=.int .i64 P) (b:=.int .i64 M) (c:=.slice A k c) (T := 24)
 have hB:Below w.heap.size w (w.alloc (.cells #[.int .i64 P,.int .i64 M,.slice A k c] 24)):=(Below.refl _ _).alloc (Nat.le_refl _) _
 have hsz:(w.alloc (.cells #[.int .i64 P,.int .i64 M,.slice A k c] 24)).heap.size=w.heap.size+1:=by simp
 obtain ⟨w0,hw0⟩:∃ W,W=w.alloc (.cells #[.int .i64 P,.int .i64 M,.slice A k c] 24):=⟨_,rfl⟩
 have rm:=zax (w:=w0) (a:=.int .i64 (cols:Nat)) (b:=.slice T n d) (T := 97)
 have kb:Below w0.heap.size w0 (w0.alloc (.cells #[.int .i64 (cols:Nat),.slice T n d] 97)):=(Below.refl _ _).alloc (Nat.le_refl _) _
 have hsz1:(w0.alloc (.cells #[.int .i64 (cols:Nat),.slice T n d] 97)).heap.size=w0.heap.size+1:=by simp
 obtain ⟨w1,hw1⟩:∃ W,W=w0.alloc (.cells #[.int .i64 (cols:Nat),.slice T n d] 97):=⟨_,rfl⟩
 have ro:=zg1 (w:=w1) (a:=.pointer none) (b:=.int .i64 0) (c:=.slice none 0 0) (d:=.slice none 0 0) (T := 221)
 have kb2:Below w1.heap.size w1 (w1.alloc (.cells #[.pointer none,.int .i64 0,.slice none 0 0,.slice none 0 0] 221)):=(Below.refl _ _).alloc (Nat.le_refl _) _
 obtain ⟨w2,hw2⟩:∃ W,W=w1.alloc (.cells #[.pointer none,.int .i64 0,.slice none 0 0,.slice none 0 0] 221):=⟨_,rfl⟩
 rw [<-hw0] at hB rf hsz;rw [<-hw1] at rm kb hsz1;rw [<-hw2] at ro kb2;rw [hsz1,hsz] at ro;rw [hsz] at rm;replace rf:=zaa (zaa rf kb) kb2;replace rm:=zaa rm kb2;replace hB:=onS (onS hB kb) kb2
 go_enter Tryz.func209, Tryz.ntmps209
 go_upto_region 1 with fail
 rw [<-hw0,<-hw1,<-hw2];clear hw0 hw1 hw2 kb kb2 hsz hsz1
 obtain ⟨b0,hb0⟩:∃ b,b=w.heap.size:=⟨_,rfl⟩
 obtain ⟨b1,hb1⟩:∃ b,b=w.heap.size+1:=⟨_,rfl⟩
 obtain ⟨b2,hb2⟩:∃ b,b=w.heap.size+1+1:=⟨_,rfl⟩
 have hb2w:w.heap.size<=b2:=by omega
 rw [<-hb0] at rf;rw [<-hb1] at rm;rw [<-hb2] at ro;rw [<-hb2,<-hb1,<-hb0];clear hb0 hb1 hb2
 have q0:=qc0 rf
 have q1:=qc1 rf
 have q2:=qc2 rf
 have p0:=qc0 rm
 have p1:=qc1 rm
 go_wp2_with fail
 have hB2:=hB.size
 refine (zeH P M A k c f (cols:Int) T n d ln V w2 (HR.out.on hB) (HT.out.on hB) (by omega)).mono ?_
 rintro e w4 ⟨kb,v,hv,hcase⟩
 replace hB:=onS hB kb;replace rf:=zaa rf kb;replace rm:=zaa rm kb;replace ro:=zaa ro kb
 have HV:=hid hv
 clear kb hv q0 q1 q2 p0 p1
 rcases hcase with ⟨hv0,rfl⟩ | ⟨rfl,P,M,C,lv,pv,a,p,W,rfl,rfl,hCe,rfl,hMT,hP,hE,hRo⟩
 ·have hvn:(v != 0)=true:=by simpa using hv0
  have HV0:=hid hv0
  have HP9:=hid (FirstErr.app (r:=[(RrefN (P.toNat ^ M.toNat) n cols (natT V),5)]) (u:=v) (by simp) (show FirstErr [(GoodF P M k f,1),(ShapeM cols n ln,3),(ElemsM (P.toNat ^ M.toNat) n ln V,2)] v from HV.out) (fun _=>rfl) (fun h=>absurd h hv0))
  clear hv0 rm rf
  go_upto_region 2 with fail
  have kb1:Below w4.heap.size w4 (w4.alloc (Obj.cells #[.int .i64 0,.slice none 0 0] 97)):=(Below.refl _ _).alloc (Nat.le_refl _) _
  obtain ⟨w5,hw5⟩:∃ W,W=w4.alloc (Obj.cells #[.int .i64 0,.slice none 0 0] 97):=⟨_,rfl⟩
  rw [<-hw5] at kb1 ⊢;replace hB:=onS hB kb1;replace ro:=zaa ro kb1;clear hw5 kb1
  have r0:=ro.frozen 0
  have s0:=qc0 ro
  have r1:=ro.frozen 1
  have s1:=qc1 ro
  have r2:=ro.frozen 2
  have s2:=qc2 ro
  have r3:=ro.frozen 3
  have s3:=qc3 ro
  go_wp2
  clear r0 s0 r1 s1 r2 s2 r3 s3
  generalize hw9:World.setCell _ _ _=w6
  obtain ⟨row9,hg9⟩:=zdK ro hw9.symm
  clear hw9
  have hB9:=hB.grown hg9 hB.size (fun q e=>by injection e with e; omega)
  have e0:=qc0 row9
  have e1:=qc1 row9
  have e2:=qc2 row9
  have e3:=qc3 row9
  refine bodyPost_ret (v:=.tuple #[.agg #[.pointer none,.int .i64 0,.slice none 0 0,.slice none 0 0],.int .i64 v]) (by simp [results,Tryz.results209, go_sem,e0,e1,e2,e3]) rfl ?_
  exact ⟨hB9,v,by simpa [SpaceErrs] using HP9.out,.inl ⟨HV0.out,rfl⟩⟩
 ·obtain rfl:C=cols:=by omega
  clear hCe
  have hok:=HV.out
  rcases hok with ⟨_,h9⟩ | ⟨hgood,⟨_,h9⟩ | ⟨hs,⟨_,h9⟩ | ⟨he,_⟩⟩⟩
  ·cases h9
  ·cases h9
  ·cases h9
  rw [Int.toNat_natCast,Int.toNat_natCast] at he
  have HMV:=hid (zcT (HT.out.on hB) hs he).1
  have HLT:=hid (zcT (HT.out.on hB) hs he).2
  have hC2:C<=256:=by have:=hs.2.1; omega
  have hn2:n<=256:=by have:=hs.2.2.1; omega
  have han:=hE.le
  have HGO:=hid hgood
  have HCA:=hid (zdv (fieldLaws hgood.field.1) HLT.out hE hRo)
  have HPP:=hid (fun h=>zg2 (V:=natT V) hE h)
  have HLNS:Hid (∀ i,i<n->ln i=C):=fun i hi=>by have:=hs.2.2.2 i hi; omega
  have HMW0:=hMT.shape
  obtain ⟨LA,lc,hlv⟩:=HMW0
  subst hlv
  obtain ⟨PA,pc,hpv⟩:=hP.shape
  subst hpv
  have hq256:=hgood.field.1.1.2.2.2
  have HMW:=hid (hMT.rd (q:=P ^ M) hq256 fun i hi=>hE.lt i (by omega))
  have HPO:=hid hP
  clear hMT hP hE hRo hs he hgood
  go_upto_region 2 with fail
  have kb1:Below w4.heap.size w4 (w4.alloc (Obj.cells #[.int .i64 (C:Nat),.slice LA a lc] 97)):=(Below.refl _ _).alloc (Nat.le_refl _) _
  have rl:=zax (w:=w4) (a:=.int .i64 (C:Nat)) (b:=.slice LA a lc) (T := 97)
  obtain ⟨w5,hw5⟩:∃ W,W=w4.alloc (Obj.cells #[.int .i64 (C:Nat),.slice LA a lc] 97):=⟨_,rfl⟩
  obtain ⟨b6,hb6⟩:∃ b,b=w4.heap.size:=⟨_,rfl⟩
  rw [<-hw5] at kb1 rl ⊢;rw [<-hb6] at rl ⊢
  have HMW5:=hid (HMW.out.on kb1)
  have HMV5:=hid (HMV.out.on kb1)
  have HPO5:=hid (HPO.out.on kb1)
  replace hB:=onS hB kb1;replace ro:=zaa ro kb1;replace rf:=zaa rf kb1;replace rm:=zaa rm kb1;clear hw5 hb6 kb1 HMW HMV HPO
  have p1:=qc1 rm
  have l1:=qc1 rl
  go_wp2_with fail
  refine (zfo LA T a n lc d (fun _=>C) (fun _=>C) (fun i j=>((W i j:Nat):Int)) (fun i j=>((natT V i j:Nat):Int)) w5 HMW5.out HMV5.out (by omega) (by omega) (fun _ _=>by omega) (fun _ _=>by omega)).mono ?_
  rintro e w6 ⟨b,rfl,hb,kb⟩
  replace hB:=onS hB kb;replace ro:=zaa ro kb;replace rf:=zaa rf kb;replace rm:=zaa rm kb
  have HPO6:=hid (HPO5.out.on kb)
  have HEQ:Hid (EqT a n (fun _=>C) (fun _=>C) (fun i j=>((W i j:Nat):Int)) (fun i j=>((natT V i j:Nat):Int))↔a=n/\∀ i,i<a->∀ j,j<C->W i j=natT V i j):=by
   constructor
   ·intro h
    refine ⟨h.1,fun i hi j hj=>?_⟩
    have:=(h.2 i hi).2 j hj
    simp only at this
    omega
   ·intro h
    refine ⟨h.1,fun i hi=>⟨rfl,fun j hj=>?_⟩⟩
    show ((W i j:Nat):Int)=((natT V i j:Nat):Int)
    rw [h.2 i hi j hj]
  have HBB:=hid (hb.trans HEQ.out)
  have HP9:Hid (∀ u:Int,FirstErr [(RrefN (P ^ M) n C (natT V),5)] u->FirstErr (SpaceErrs (P:Int) (M:Int) k f C n ln V) u):=fun u hu=>by
   refine FirstErr.app (l:=[(GoodF (P:Int) (M:Int) k f,1),(ShapeM (C:Int) n ln,3),(ElemsM ((P:Int).toNat ^ (M:Int).toNat) n ln V,2)]) (by simp) (v:=0) (by simpa [MatErrs] using HV.out) (fun h=>absurd rfl h) fun _=>?_
   rw [Int.toNat_natCast,Int.toNat_natCast]
   exact hu
  clear kb hb p1 l1 rl HMW5 HMV5 HPO5 HEQ
  cases b
  ·have HNO:Hid (¬ RrefN (P ^ M) n C (natT V)):=fun h=>by have:=HBB.out.2 (HCA.out.1 h); cases this
   have r0:=ro.frozen 0
   have s0:=qc0 ro
   have r1:=ro.frozen 1
   have s1:=qc1 ro
   have r2:=ro.frozen 2
   have s2:=qc2 ro
   have r3:=ro.frozen 3
   have s3:=qc3 ro
   go_wp2
   clear r0 s0 r1 s1 r2 s2 r3 s3
   generalize hw9:World.setCell _ _ _=w7
   obtain ⟨row9,hg9⟩:=zdK ro hw9.symm
   clear hw9
   have hB9:=hB.grown hg9 hB.size (fun q e=>by injection e with e; omega)
   have e0:=qc0 row9
   have e1:=qc1 row9
   have e2:=qc2 row9
   have e3:=qc3 row9
   refine bodyPost_ret (v:=.tuple #[.agg #[.pointer none,.int .i64 0,.slice none 0 0,.slice none 0 0],.int .i64 5]) (by simp [results,Tryz.results209, go_sem,e0,e1,e2,e3]) rfl ?_
   exact ⟨hB9,5,HP9.out 5 (.inl ⟨HNO.out,rfl⟩),.inl ⟨by omega,rfl⟩⟩
  ·have HYES:=hid (HBB.out.1 rfl)
   have q0:=qc0 rf
   have q1:=qc1 rf
   have q2:=qc2 rf
   have hb26:b2<w6.heap.size:=ro.lt
   go_wp2_with fail
   refine (zeG (P:Int) (M:Int) A k c f w6 (HR.out.on hB)).mono ?_
   rintro e w7 ⟨kb,hN⟩
   replace hB:=onS hB kb;replace ro:=zaa ro kb;replace rm:=zaa rm kb
   have HPO7:=hid (HPO6.out.on kb)
   clear kb q0 q1 q2 rf HPO6
   rcases hN with ⟨hno,_⟩ | ⟨_,g,P',M',hPe,hMe,rfl,hgw,hG⟩
   ·exact absurd HGO.out hno
   obtain rfl:P=P':=by omega
   obtain rfl:M=M':=by omega
   have HG:=hid hG
   have hgl:=hG
   clear hG hPe hMe hgw
   have p0:=qc0 rm
   have p1:=qc1 rm
   have r0:=ro.frozen 0
   have s0:=qc0 ro
   have r1:=ro.frozen 1
   have s1:=qc1 ro
   have r2:=ro.frozen 2
   have s2:=qc2 ro
   have r3:=ro.frozen 3
   have s3:=qc3 ro
   clear hgl
   go_wp2
   clear r0 s0 r1 s1 r2 s2 r3 s3 p0 p1
   generalize hw9:World.setCell _ _ _=w8
   obtain ⟨row9,hg9⟩:=zdK ro hw9.symm
   clear hw9
   have hB9:=hB.grown hg9 hB.size (fun q e=>by injection e with e; omega)
   have hP9:=HPO7.out.kept hg9 (zap ro HPO7.out (by decide))
   have hG9:=(HG.out.grown hg9 hb26).gf
   have e0:=qc0 row9
   have e1:=qc1 row9
   have e2:=qc2 row9
   have e3:=qc3 row9
   have han2:a=n:=HYES.out.1
   have hpiv:=HPP.out HYES.out
   subst han2
   refine bodyPost_ret (v:=.tuple #[.agg #[.pointer (some ⟨g,0,none⟩),.int .i64 (C:Nat),.slice T a d,.slice PA a pc],.int .i64 0]) (by simp [results,Tryz.results209, go_sem,e0,e1,e2,e3]) rfl ?_
   exact ⟨hB9,0,HP9.out 0 (.inr ⟨⟨p,hpiv⟩,rfl⟩),.inr ⟨rfl,P,M,C,g,_,p,rfl,rfl,rfl,rfl,hG9,hP9.mono hB2,hpiv⟩⟩
theorem zih (P M:Int) (A:Option Addr) (k c:Nat) (f:Nat->Int) (cols:Nat) (T:Option Addr) (n d:Nat) (ln:Nat->Nat) (V:Nat->Nat->Int) (w:World) (hr:IntsR w w.heap.size A k f) (h:IntRows w T n ln V) (hc1:1<=cols) :
  Calls Tryz.prog 144 #[.agg #[.int .i64 P,.int .i64 M,.slice A k c],.agg #[.int .i64 (cols:Nat),.slice T n d]] w (ErrsPost (SpaceErrs P M k f cols n ln V) w):=by
 have HR:=hid hr
 have HT:=hid h
 clear hr h
 have rf:=zaf (w:=w) (a:=.int .i64 P) (b:=.int .i64 M) (c:=.slice A k c) (T := 24)
 have hB:Below w.heap.size w (w.alloc (.cells #[.int .i64 P,.int .i64 M,.slice A k c] 24)):=(Below.refl _ _).alloc (Nat.le_refl _) _
 have hsz:(w.alloc (.cells #[.int .i64 P,.int .i64 M,.slice A k c] 24)).heap.size=w.heap.size+1:=by simp
 obtain ⟨w0,hw0⟩:∃ W,W=w.alloc (.cells #[.int .i64 P,.int .i64 M,.slice A k c] 24):=⟨_,rfl⟩
 have rm:=zax (w:=w0) (a:=.int .i64 (cols:Nat)) (b:=.slice T n d) (T := 97)
 have kb:Below w0.heap.size w0 (w0.alloc (.cells #[.int .i64 (cols:Nat),.slice T n d] 97)):=(Below.refl _ _).alloc (Nat.le_refl _) _
 obtain ⟨w1,hw1⟩:∃ W,W=w0.alloc (.cells #[.int .i64 (cols:Nat),.slice T n d] 97):=⟨_,rfl⟩
 rw [<-hw0] at hB rf hsz;rw [<-hw1] at rm kb;rw [hsz] at rm;replace rf:=zaa rf kb;replace hB:=onS hB kb
 go_enter Tryz.func144, Tryz.ntmps144
 go_upto_region 1 with fail
 rw [<-hw0,<-hw1];clear hw0 hw1 kb hsz
 have q0:=qc0 rf
 have q1:=qc1 rf
 have q2:=qc2 rf
 have p0:=qc0 rm
 have p1:=qc1 rm
 go_wp2_with fail
 refine (zi9 P M A k c f cols T n d ln V w1 (HR.out.on hB) (HT.out.on hB) hc1).mono ?_
 rintro e w2 ⟨kb,v,hv,hcase⟩
 have HB:=hid (onS hB kb)
 have HV:=hid hv
 clear kb hv q0 q1 q2 p0 p1 rf rm hB
 rcases hcase with ⟨hv0,rfl⟩ | ⟨rfl,P,M,C,g,pv,p,rfl,rfl,_,rfl,_,hP,_⟩
 ·clear hv0
  go_wp2
  go_ret
  exact errsPost HV.out (HB.out.alloc HB.out.size _)
 ·obtain ⟨PA,pc,hpv⟩:=hP.shape
  subst hpv
  clear hP
  go_wp2
  go_ret
  exact errsPost HV.out (HB.out.alloc HB.out.size _)
def LenOk (N:Int):Prop:=1<=N/\N<=64
theorem zg3 (N:Int) (w:World):Calls Tryz.prog 143 #[.int .i64 N] w (ErrsPost [(LenOk N,4)] w):=by
 by_cases h1:N<1
 ·have hd:decide (N<1)=true:=by simpa using h1
  have hno:Hid (FirstErr [(LenOk N,4)] 4):=.inl ⟨fun h=>by have:=h.1; have:=h.2; omega,rfl⟩
  go_enter Tryz.func143, Tryz.ntmps143
  go_wp2
  go_ret
  exact errsPost hno.out (Below.refl _ _)
 ·have hd:decide (N<1)=false:=by simpa using h1
  by_cases h2:64<N
  ·have hd2:decide (64<N)=true:=by simpa using h2
   have hno:Hid (FirstErr [(LenOk N,4)] 4):=.inl ⟨fun h=>by have:=h.1; have:=h.2; omega,rfl⟩
   go_enter Tryz.func143, Tryz.ntmps143
   go_wp2
   go_ret
   exact errsPost hno.out (Below.refl _ _)
  ·have hd2:decide (64<N)=false:=by simpa using h2
   have hyes:Hid (FirstErr [(LenOk N,4)] 0):=.inr ⟨⟨by omega,by omega⟩,rfl⟩
   go_enter Tryz.func143, Tryz.ntmps143
   go_wp2
   go_ret
   exact errsPost hyes.out (Below.refl _ _)
theorem zf0 (P M N:Int) (A T:Option Addr) (k c n d:Nat) (w:World) :
  Calls Tryz.prog 127 #[.agg #[.int .i64 P,.int .i64 M,.slice A k c,.int .i64 N,.slice T n d]] w fun e w'=>e=.returned (.agg #[.int .i64 N,.slice T n d])/\Below w.heap.size w w':=by
 have rf:=zao (w:=w) (a:=.int .i64 P) (b:=.int .i64 M) (c:=.slice A k c) (d:=.int .i64 N) (e:=.slice T n d) (T := 27)
 have hB:Below w.heap.size w (w.alloc (.cells #[.int .i64 P,.int .i64 M,.slice A k c,.int .i64 N,.slice T n d] 27)):=(Below.refl _ _).alloc (Nat.le_refl _) _
 have hsz:(w.alloc (.cells #[.int .i64 P,.int .i64 M,.slice A k c,.int .i64 N,.slice T n d] 27)).heap.size=w.heap.size+1:=by simp
 obtain ⟨w0,hw0⟩:∃ W,W=w.alloc (.cells #[.int .i64 P,.int .i64 M,.slice A k c,.int .i64 N,.slice T n d] 27):=⟨_,rfl⟩
 have ro:=zax (w:=w0) (a:=.int .i64 0) (b:=.slice none 0 0) (T := 97)
 have kb:Below w0.heap.size w0 (w0.alloc (.cells #[.int .i64 0,.slice none 0 0] 97)):=(Below.refl _ _).alloc (Nat.le_refl _) _
 obtain ⟨w1,hw1⟩:∃ W,W=w0.alloc (.cells #[.int .i64 0,.slice none 0 0] 97):=⟨_,rfl⟩
 rw [<-hw0] at hB rf hsz;rw [<-hw1] at ro kb;rw [hsz] at ro;replace rf:=zaa rf kb;replace hB:=onS hB kb
 go_enter Tryz.func127, Tryz.ntmps127
 go_upto_region 1 with fail
 rw [<-hw0,<-hw1];clear hw0 hw1 kb hsz
 have q3:=qc3 rf
 have q4:=qc4 rf
 have r0:=ro.frozen 0
 have s0:=qc0 ro
 have r1:=ro.frozen 1
 have s1:=qc1 ro
 go_wp2
 clear r0 s0 r1 s1 q3 q4 rf
 generalize hw9:World.setCell _ _ _=w2
 obtain ⟨row9,hg9⟩:=zbh ro hw9.symm
 clear hw9
 have hB9:=hB.grown hg9 hB.size (fun q e=>by injection e with e; omega)
 have e0:=qc0 row9
 have e1:=qc1 row9
 refine bodyPost_ret (v:=.agg #[.int .i64 N,.slice T n d]) (by simp [results,Tryz.results127, go_sem,e0,e1]) rfl ?_
 exact ⟨rfl,hB9⟩
theorem zii (P M:Int) (A:Option Addr) (k c:Nat) (f:Nat->Int) (N:Int) (T:Option Addr) (n d:Nat) (ln:Nat->Nat) (V:Nat->Nat->Int) (w:World) (hr:IntsR w w.heap.size A k f) (h:IntRows w T n ln V) :
  Calls Tryz.prog 62 #[.agg #[.int .i64 P,.int .i64 M,.slice A k c,.int .i64 N,.slice T n d]] w (ErrsPost (CodeErrs P M k f N n ln V) w):=by
 have HR:=hid hr
 have HT:=hid h
 clear hr h
 have rf:=zao (w:=w) (a:=.int .i64 P) (b:=.int .i64 M) (c:=.slice A k c) (d:=.int .i64 N) (e:=.slice T n d) (T := 27)
 have hB:Below w.heap.size w (w.alloc (.cells #[.int .i64 P,.int .i64 M,.slice A k c,.int .i64 N,.slice T n d] 27)):=(Below.refl _ _).alloc (Nat.le_refl _) _
 obtain ⟨w1,hw1⟩:∃ W,W=w.alloc (.cells #[.int .i64 P,.int .i64 M,.slice A k c,.int .i64 N,.slice T n d] 27):=⟨_,rfl⟩
 rw [<-hw1] at hB rf
 go_enter Tryz.func62, Tryz.ntmps62
 go_upto_region 1 with fail
 rw [<-hw1];clear hw1
 have q0:=qc0 rf
 have q1:=qc1 rf
 have q2:=qc2 rf
 go_wp2_with fail
 refine (zg0 P M A k c f w1 (HR.out.on hB)).mono ?_
 rintro e w2 ⟨v,rfl,hv,kb⟩
 replace hB:=onS hB kb;replace rf:=zaa rf kb;clear kb q0 q1 q2
 rcases hv with ⟨rfl,hgood⟩ | ⟨rfl,hno⟩
 ·have HGO:=hid hgood
  clear hgood
  have q3:=qc3 rf
  go_wp2_with fail
  refine (zg3 N w2).mono ?_
  rintro e w3 ⟨v,rfl,hv,kb⟩
  replace hB:=onS hB kb;replace rf:=zaa rf kb;clear kb q3
  rcases hv with ⟨hno,rfl⟩ | ⟨hN,hv0⟩
  ·have hf:Hid (FirstErr (CodeErrs P M k f N n ln V) 4):=.inr ⟨HGO.out,.inl ⟨hno,rfl⟩⟩
   clear hno
   go_wp2
   go_ret
   exact errsPost hf.out hB
  ·have hv0:v=0:=hv0
   subst hv0
   have hN:1<=N/\N<=64:=hN
   obtain ⟨C,rfl⟩:∃ C:Nat,N=C:=⟨N.toNat,by omega⟩
   have HNR:=hid hN
   have hC1:1<=C:=by omega
   clear hN
   have q0:=qc0 rf
   have q1:=qc1 rf
   have q2:=qc2 rf
   have q3:=qc3 rf
   have q4:=qc4 rf
   go_wp2
   refine wp_region_held_drew (S:=fun w'=>w'.cell? ⟨w.heap.size,0,none⟩=some (.int .i64 P)/\w'.cell? ⟨w.heap.size,1,none⟩=some (.int .i64 M)/\w'.cell? ⟨w.heap.size,2,none⟩=some (.slice A k c)/\w'.cell? ⟨w.heap.size,3,none⟩=some (.int .i64 (C:Nat))/\w'.cell? ⟨w.heap.size,4,none⟩=some (.slice T n d)) (by kernel_rfl) ⟨cellS (Below.refl _ _).drew q0,cellS (Below.refl _ _).drew q1,cellS (Below.refl _ _).drew q2,cellS (Below.refl _ _).drew q3,cellS (Below.refl _ _).drew q4⟩ (fun hHeld=>?_)
   obtain ⟨w4,hw⟩:∃ W,W=World.drew w3:=⟨_,rfl⟩
   have kb:Below w3.heap.size w3 w4:=by rw [hw]; exact (Below.refl _ _).drew
   rw [<-hw] at hHeld ⊢;clear hw;replace hB:=onS hB kb;replace rf:=zaa rf kb;clear kb q0 q1 q2 q3 q4
   refine tkq 0 (h:=tkq 1 (h:=tkq 2 (h:=rdq 3 (h:=fun K hK=>?_))))
   go_simp
   go_wp2_with fail
   refine (zf0 P M (C:Int) A T k c n d w4).mono ?_
   rintro e w5 ⟨rfl,kb⟩
   replace hB:=onS hB kb;replace rf:=zaa rf kb;clear kb
   refine bkq hK ⟨qc0 rf,qc1 rf,qc2 rf,qc3 rf,qc4 rf⟩ (h:=fun hHeld=>?_)
   clear hK K
   refine rdq 4 (h:=fun K hK=>?_)
   go_simp
   go_wp2_with fail
   refine (zih P M A k c f C T n d ln V w5 (HR.out.on hB) (HT.out.on hB) hC1).mono ?_
   rintro e w6 ⟨v,rfl,hv,kb⟩
   replace hB:=onS hB kb;replace rf:=zaa rf kb
   have hf:Hid (FirstErr (CodeErrs P M k f (C:Int) n ln V) v):=by
    rcases hv with ⟨hno,_⟩ | ⟨_,hv⟩
    ·exact absurd HGO.out hno
    ·refine .inr ⟨HGO.out,.inr ⟨HNR.out,?_⟩⟩
     rw [Int.toNat_natCast]
     exact hv
   clear kb hv
   refine bkq hK ⟨qc0 rf,qc1 rf,qc2 rf,qc3 rf,qc4 rf⟩ (h:=fun hHeld=>?_)
   clear hK K
   refine tkq 5 (h:=?_)
   refine wpAnyH_done (by kernel_rfl) ?_ _
   clear hHeld
   go_wp2
   go_ret
   exact errsPost hf.out hB
 ·have hf:Hid (FirstErr (CodeErrs P M k f N n ln V) 1):=.inl ⟨hno,rfl⟩
  clear hno
  go_wp2
  go_ret
  exact errsPost hf.out hB
theorem zij {w:World} {g:Nat} {T:TypeId} {a b c:Value} (v:Value) (h:w.rowIs g T 3 (fldCell a b c)):(w.setCell ⟨g,2,none⟩ v).rowIs g T 3 (fldCell a b v):=(h.set 2 v).congr fun j hj=>by
 match j,hj with
 | 0,_=>rfl
 | 1,_=>rfl
 | 2,_=>rfl
theorem zkM (P M:Int) (A:Option Addr) (k c:Nat) (f:Nat->Int) (w:World) (h:IntsR w w.heap.size A k f) (hkc:k<=c) (hk:k<=1048576) :
  Calls Tryz.prog 203 #[.agg #[.int .i64 P,.int .i64 M,.slice A k c]] w (FieldPost P M k f w):=by
 have HR:=hid h
 clear h
 have rf:=zaf (w:=w) (a:=.int .i64 P) (b:=.int .i64 M) (c:=.slice A k c) (T := 24)
 have hB:Below w.heap.size w (w.alloc (.cells #[.int .i64 P,.int .i64 M,.slice A k c] 24)):=(Below.refl _ _).alloc (Nat.le_refl _) _
 have hsz:(w.alloc (.cells #[.int .i64 P,.int .i64 M,.slice A k c] 24)).heap.size=w.heap.size+1:=by simp
 obtain ⟨w0,hw0⟩:∃ W,W=w.alloc (.cells #[.int .i64 P,.int .i64 M,.slice A k c] 24):=⟨_,rfl⟩
 have rm:=zaf (w:=w0) (a:=.int .i64 0) (b:=.int .i64 0) (c:=.slice none 0 0) (T := 24)
 have kb:Below w0.heap.size w0 (w0.alloc (.cells #[.int .i64 0,.int .i64 0,.slice none 0 0] 24)):=(Below.refl _ _).alloc (Nat.le_refl _) _
 obtain ⟨w1,hw1⟩:∃ W,W=w0.alloc (.cells #[.int .i64 0,.int .i64 0,.slice none 0 0] 24):=⟨_,rfl⟩
 rw [<-hw0] at hB rf hsz;rw [<-hw1] at rm kb;rw [hsz] at rm;replace rf:=zaa rf kb;replace hB:=onS hB kb
 go_enter Tryz.func203, Tryz.ntmps203
 go_upto_region 1 with fail
 rw [<-hw0,<-hw1];clear hw0 hw1 kb hsz
 have q2:=qc2 rf
 go_wp2_with fail
 refine (zc7 A k c f w1 (HR.out.on hB) hkc hk).mono ?_
 rintro e w2 ⟨A2,c2,rfl,hO,kb⟩
 have hB1:=hB.size
 replace hB:=onS hB kb;replace rf:=zaa rf kb;replace rm:=zaa rm kb
 have HO:=hid (hO.mono hB1)
 clear kb q2 hO hB1
 have r2:=rf.frozen 2
 have s2:=qc2 rf
 go_upto_region 2 with fail
 clear r2 s2
 have rf3:=zij (.slice A2 k c2) rf
 have rm3:=rm.setOther (a:=⟨w.heap.size,2,none⟩) (by simp) (.slice A2 k c2)
 have hO3:=HO.out.setCell (a:=⟨w.heap.size,2,none⟩) (fun e=>(zap rf HO.out (by decide)).elim (fun h=>by rw [h] at e; cases e) fun h=>h e) (.slice A2 k c2)
 have hB3:=hB.setCell (p:=⟨w.heap.size,2,none⟩) (Nat.le_refl _) (.slice A2 k c2)
 obtain ⟨w3,hw3⟩:∃ W,W=w2.setCell ⟨w.heap.size,2,none⟩ (.slice A2 k c2):=⟨_,rfl⟩
 rw [<-hw3] at rf3 rm3 hO3 hB3 ⊢;clear hw3 rf rm HO hB
 have HO3:=hid hO3
 clear hO3
 have q0:=qc0 rf3
 have q1:=qc1 rf3
 have q2:=qc2 rf3
 have r0:=rm3.frozen 0
 have s0:=qc0 rm3
 have r1:=rm3.frozen 1
 have s1:=qc1 rm3
 have r2:=rm3.frozen 2
 have s2:=qc2 rm3
 go_wp2
 clear r0 s0 r1 s1 r2 s2 q0 q1 q2
 generalize hw9:World.setCell _ _ _=w4
 obtain ⟨row9,hg9⟩:=ze1 rm3 hw9.symm
 clear hw9
 have hB9:=hB3.grown hg9 hB3.size (fun q e=>by injection e with e; omega)
 have hO9:=HO3.out.kept hg9 (zap rm3 HO3.out (by decide))
 have e0:=qc0 row9
 have e1:=qc1 row9
 have e2:=qc2 row9
 refine bodyPost_ret (v:=.agg #[.int .i64 P,.int .i64 M,.slice A2 k c2]) (by simp [results,Tryz.results203, go_sem,e0,e1,e2]) rfl ?_
 exact ⟨_,rfl,hO9,hB9⟩
def OfPost (P M N:Int) (k n:Nat) (f:Nat->Int) (T:Option Addr) (d:Nat) (w:World) (e:Ending) (w':World):Prop :=
 ∃ v,e=.returned (.tuple #[.agg #[.int .i64 P,.int .i64 M,v,.int .i64 N,.slice T n d],.int .i64 0])/\Own w' w.heap.size 3 1 v k (fun j _=>.int .i64 (f j))/\Below w.heap.size w w'
theorem zlE (P M N:Int) (A:Option Addr) (k c:Nat) (f:Nat->Int) (T:Option Addr) (n d:Nat) (w:World) (h:IntsR w w.heap.size A k f) (hkc:k<=c) (hk:k<=1048576) :
  Calls Tryz.prog 128 #[.agg #[.int .i64 P,.int .i64 M,.slice A k c],.agg #[.int .i64 N,.slice T n d],.int .i64 0] w (OfPost P M N k n f T d w):=by
 have HR:=hid h
 clear h
 have rf:=zaf (w:=w) (a:=.int .i64 P) (b:=.int .i64 M) (c:=.slice A k c) (T := 24)
 have hB:Below w.heap.size w (w.alloc (.cells #[.int .i64 P,.int .i64 M,.slice A k c] 24)):=(Below.refl _ _).alloc (Nat.le_refl _) _
 have hsz:(w.alloc (.cells #[.int .i64 P,.int .i64 M,.slice A k c] 24)).heap.size=w.heap.size+1:=by simp
 obtain ⟨w0,hw0⟩:∃ W,W=w.alloc (.cells #[.int .i64 P,.int .i64 M,.slice A k c] 24):=⟨_,rfl⟩
 have rm:=zax (w:=w0) (a:=.int .i64 N) (b:=.slice T n d) (T := 97)
 have kb:Below w0.heap.size w0 (w0.alloc (.cells #[.int .i64 N,.slice T n d] 97)):=(Below.refl _ _).alloc (Nat.le_refl _) _
 have hsz1:(w0.alloc (.cells #[.int .i64 N,.slice T n d] 97)).heap.size=w0.heap.size+1:=by simp
 obtain ⟨w1,hw1⟩:∃ W,W=w0.alloc (.cells #[.int .i64 N,.slice T n d] 97):=⟨_,rfl⟩
 have ro:=zao (w:=w1) (a:=.int .i64 0) (b:=.int .i64 0) (c:=.slice none 0 0) (d:=.int .i64 0) (e:=.slice none 0 0) (T := 27)
 have kb2:Below w1.heap.size w1 (w1.alloc (.cells #[.int .i64 0,.int .i64 0,.slice none 0 0,.int .i64 0,.slice none 0 0] 27)):=(Below.refl _ _).alloc (Nat.le_refl _) _
 obtain ⟨w2,hw2⟩:∃ W,W=w1.alloc (.cells #[.int .i64 0,.int .i64 0,.slice none 0 0,.int .i64 0,.slice none 0 0] 27):=⟨_,rfl⟩
 rw [<-hw0] at hB rf hsz;rw [<-hw1] at rm kb hsz1;rw [<-hw2] at ro kb2;rw [hsz1,hsz] at ro;rw [hsz] at rm;replace rf:=zaa (zaa rf kb) kb2;replace rm:=zaa rm kb2;replace hB:=onS (onS hB kb) kb2
 go_enter Tryz.func128, Tryz.ntmps128
 go_upto_region 1 with fail
 rw [<-hw0,<-hw1,<-hw2];clear hw0 hw1 hw2 kb kb2 hsz hsz1
 obtain ⟨b0,hb0⟩:∃ b,b=w.heap.size:=⟨_,rfl⟩
 obtain ⟨b1,hb1⟩:∃ b,b=w.heap.size+1:=⟨_,rfl⟩
 obtain ⟨b2,hb2⟩:∃ b,b=w.heap.size+1+1:=⟨_,rfl⟩
 have hb2w:w.heap.size<=b2:=by omega
 rw [<-hb0] at rf;rw [<-hb1] at rm;rw [<-hb2] at ro;rw [<-hb2,<-hb1,<-hb0];clear hb0 hb1 hb2
 go_wp2
 refine wp_region_held_drew (S:=fun w'=>w'.cell? ⟨b0,0,none⟩=some (.int .i64 P)/\w'.cell? ⟨b0,1,none⟩=some (.int .i64 M)/\w'.cell? ⟨b0,2,none⟩=some (.slice A k c)/\w'.cell? ⟨b1,0,none⟩=some (.int .i64 N)/\w'.cell? ⟨b1,1,none⟩=some (.slice T n d)) (by kernel_rfl) ⟨cellS (Below.refl _ _).drew (rf.cell (i:=0) (by omega)),cellS (Below.refl _ _).drew (rf.cell (i:=1) (by omega)),cellS (Below.refl _ _).drew (rf.cell (i:=2) (by omega)),cellS (Below.refl _ _).drew (rm.cell (i:=0) (by omega)),cellS (Below.refl _ _).drew (rm.cell (i:=1) (by omega))⟩ (fun hHeld=>?_)
 obtain ⟨w3,hw⟩:∃ W,W=World.drew w2:=⟨_,rfl⟩
 have kb:Below w2.heap.size w2 w3:=by rw [hw]; exact (Below.refl _ _).drew
 rw [<-hw] at hHeld ⊢;clear hw;replace hB:=onS hB kb;replace rf:=zaa rf kb;replace rm:=zaa rm kb;replace ro:=zaa ro kb;clear kb
 refine tkq 0 (h:=tkq 2 (h:=tkq 3 (h:=tkq 4 (h:=tkq 5 (h:=rdq 1 (h:=fun K hK=>?_))))))
 go_simp
 go_wp2_with fail
 refine (zkM P M A k c f w3 (HR.out.on hB) hkc hk).mono ?_
 rintro e w4 ⟨v,rfl,hO,kb⟩
 have hB3:=hB.size
 replace hB:=onS hB kb;replace rf:=zaa rf kb;replace rm:=zaa rm kb;replace ro:=zaa ro kb
 obtain ⟨A2,c2,hv⟩:=hO.shape
 subst hv
 have HO:=hid (hO.mono hB3)
 clear kb hO hB3
 refine bkq hK ⟨qc0 rf,qc1 rf,qc2 rf,qc0 rm,qc1 rm⟩ (h:=fun hHeld=>?_)
 clear hK K
 refine tkq 6 (h:=rdq 7 (h:=fun K hK=>?_))
 have r0:=ro.frozen 0
 have s0:=qc0 ro
 have r1:=ro.frozen 1
 have s1:=qc1 ro
 have r2:=ro.frozen 2
 have s2:=qc2 ro
 have r3:=ro.frozen 3
 have s3:=qc3 ro
 have r4:=ro.frozen 4
 have s4:=qc4 ro
 go_simp
 clear r0 s0 r1 s1 r2 s2 r3 s3 r4 s4
 generalize hw9:World.setCell _ _ _=w5
 obtain ⟨row9,hg9⟩:=zbU ro hw9.symm
 clear hw9
 have hB9:=hB.grown hg9 hB.size (fun q e=>by injection e with e; omega)
 have hO9:=HO.out.kept hg9 (zap ro HO.out (by decide))
 have hf0:=rf.lt
 have hm0:=rm.lt
 have hnf:b0≠b2:=fun e=>by
  obtain ⟨cs,h1,_⟩:=rf
  obtain ⟨cs',h2,_⟩:=ro
  rw [e,h2] at h1
  injection h1 with h1
  injection h1 with _ h1
  exact absurd h1 (by decide)
 have hnm:b1≠b2:=fun e=>by
  obtain ⟨cs,h1,_⟩:=rm
  obtain ⟨cs',h2,_⟩:=ro
  rw [e,h2] at h1
  injection h1 with h1
  injection h1 with _ h1
  exact absurd h1 (by decide)
 have rf9:=zal rf hg9 hnf
 have rm9:=zal rm hg9 hnm
 clear ro rf rm hg9 hf0 hm0 hnf hnm HO hB
 have e0:=qc0 row9
 have e1:=qc1 row9
 have e2:=qc2 row9
 have e3:=qc3 row9
 have e4:=qc4 row9
 refine bkq hK ⟨qc0 rf9,qc1 rf9,qc2 rf9,qc0 rm9,qc1 rm9⟩ (h:=fun hHeld=>?_)
 clear hK K
 refine tkq 8 (h:=?_)
 refine wpAnyH_done (by kernel_rfl) ?_ _
 clear hHeld
 go_wp2
 refine bodyPost_ret (v:=.tuple #[.agg #[.int .i64 P,.int .i64 M,.slice A2 k c2,.int .i64 N,.slice T n d],.int .i64 0]) (by simp [results,Tryz.results128, go_sem,e0,e1,e2,e3,e4]) rfl ?_
 exact ⟨_,rfl,hO9,hB9⟩
def CDualPost (P M:Int) (k:Nat) (f:Nat->Int) (N:Int) (n:Nat) (ln:Nat->Nat) (V:Nat->Nat->Int) (w:World) (e:Ending) (w':World):Prop :=
 Below w.heap.size w w'/\∃ v:Int,FirstErr (CodeErrs P M k f N n ln V) v /\
  ((v≠0/\e=.returned (.tuple #[.agg #[.int .i64 0,.int .i64 0,.slice none 0 0,.int .i64 0,.slice none 0 0],.int .i64 v])) ∨
   (v=0/\∃ P' M' N':Nat,P=P'/\M=M'/\N=N'/\DualPost P' M' (fun i=>(f i).toNat) k n N' (natT V) w e w'))
theorem zja (P M:Int) (A:Option Addr) (k c:Nat) (f:Nat->Int) (N:Int) (T:Option Addr) (n d:Nat) (ln:Nat->Nat) (V:Nat->Nat->Int) (w:World) (hr:IntsR w w.heap.size A k f) (h:IntRows w T n ln V) (hkc:k<=c) :
  Calls Tryz.prog 50 #[.agg #[.int .i64 P,.int .i64 M,.slice A k c,.int .i64 N,.slice T n d]] w (CDualPost P M k f N n ln V w):=by
 have HR:=hid hr
 have HT:=hid h
 clear hr h
 have rf:=zao (w:=w) (a:=.int .i64 P) (b:=.int .i64 M) (c:=.slice A k c) (d:=.int .i64 N) (e:=.slice T n d) (T := 27)
 have hB:Below w.heap.size w (w.alloc (.cells #[.int .i64 P,.int .i64 M,.slice A k c,.int .i64 N,.slice T n d] 27)):=(Below.refl _ _).alloc (Nat.le_refl _) _
 have hsz:(w.alloc (.cells #[.int .i64 P,.int .i64 M,.slice A k c,.int .i64 N,.slice T n d] 27)).heap.size=w.heap.size+1:=by simp
 obtain ⟨w0,hw0⟩:∃ W,W=w.alloc (.cells #[.int .i64 P,.int .i64 M,.slice A k c,.int .i64 N,.slice T n d] 27):=⟨_,rfl⟩
 have ro:=zao (w:=w0) (a:=.int .i64 0) (b:=.int .i64 0) (c:=.slice none 0 0) (d:=.int .i64 0) (e:=.slice none 0 0) (T := 27)
 have kb:Below w0.heap.size w0 (w0.alloc (.cells #[.int .i64 0,.int .i64 0,.slice none 0 0,.int .i64 0,.slice none 0 0] 27)):=(Below.refl _ _).alloc (Nat.le_refl _) _
 obtain ⟨w1,hw1⟩:∃ W,W=w0.alloc (.cells #[.int .i64 0,.int .i64 0,.slice none 0 0,.int .i64 0,.slice none 0 0] 27):=⟨_,rfl⟩
 rw [<-hw0] at hB rf hsz;rw [<-hw1] at ro kb;rw [hsz] at ro;replace rf:=zaa rf kb;replace hB:=onS hB kb
 go_enter Tryz.func50, Tryz.ntmps50
 go_upto_region 1 with fail
 rw [<-hw0,<-hw1];clear hw0 hw1 kb hsz
 obtain ⟨b0,hb0⟩:∃ b,b=w.heap.size:=⟨_,rfl⟩
 obtain ⟨b2,hb2⟩:∃ b,b=w.heap.size+1:=⟨_,rfl⟩
 have hb2w:w.heap.size<=b2:=by omega
 have hb02:b0≠b2:=by omega
 rw [<-hb0] at rf;rw [<-hb2] at ro;rw [<-hb2,<-hb0];clear hb0 hb2
 have q0:=qc0 rf
 have q1:=qc1 rf
 have q2:=qc2 rf
 have q3:=qc3 rf
 have q4:=qc4 rf
 go_wp2_with fail
 refine (zii P M A k c f N T n d ln V w1 (HR.out.on hB) (HT.out.on hB)).mono ?_
 rintro e w2 ⟨v,rfl,hv,kb⟩
 replace hB:=onS hB kb;replace rf:=zaa rf kb;replace ro:=zaa ro kb
 have HV:=hid hv
 clear kb hv q0 q1 q2 q3 q4
 by_cases hv0:v=0
 ·subst hv0
  obtain ⟨P,M,N,rfl,rfl,rfl,hC⟩:=zdw (HR.out.on hB) (HT.out.on hB) HV.out
  have HC:=hid hC
  have hN1:=hC.ln1
  have hk8:=hC.k_le
  clear hC
  have HKE:Hid (∀ {v:Int},FirstErr (MatErrs (P:Int) (M:Int) k f (N:Int) n ln V) v->v=0):=by
   have hh:=HV.out
   rcases hh with ⟨_,h9⟩ | ⟨h1,⟨_,h9⟩ | ⟨_,⟨_,h9⟩ | ⟨h3,⟨_,h9⟩ | ⟨h4,_⟩⟩⟩⟩
   ·cases h9
   ·cases h9
   ·cases h9
   ·cases h9
   intro v hf
   rcases hf with ⟨h,_⟩ | ⟨_,⟨h,_⟩ | ⟨_,⟨h,_⟩ | ⟨_,hf⟩⟩⟩
   ·exact absurd h1 h
   ·exact absurd h3 h
   ·exact absurd h4 h
   ·exact hf
  obtain ⟨w9,hw9⟩:∃ W,W=w2:=⟨_,rfl⟩
  go_wp2
  clear hw9 w9
  go_cut [5,6] (fun v5 v6 wx=>∃ (mb:Nat) (lv:Value) (a:Nat) (W:Nat->Nat->Nat),v5=.pointer (some ⟨mb,0,none⟩)/\v6=.int .i64 0/\wx.rowIs mb 97 2 (matCell (.int .i64 (N:Nat)) lv)/\MTab wx w.heap.size lv a N W/\NullRel (P ^ M) (addF P M) (mulF P M fun i=>(f i).toNat) (negF P M) n N (natT V) a W/\wx.rowIs b0 27 5 (codCell (.int .i64 (P:Nat)) (.int .i64 (M:Nat)) (.slice A k c) (.int .i64 (N:Nat)) (.slice T n d))/\wx.rowIs b2 27 5 (codCell (.int .i64 0) (.int .i64 0) (.slice none 0 0) (.int .i64 0) (.slice none 0 0))/\Below w.heap.size w wx)
  case first =>
   refine wp_region_held_drew (S:=fun w'=>w'.cell? ⟨b0,0,none⟩=some (.int .i64 (P:Nat))/\w'.cell? ⟨b0,1,none⟩=some (.int .i64 (M:Nat))/\w'.cell? ⟨b0,2,none⟩=some (.slice A k c)/\w'.cell? ⟨b0,3,none⟩=some (.int .i64 (N:Nat))/\w'.cell? ⟨b0,4,none⟩=some (.slice T n d)) (by kernel_rfl) ⟨cellS (Below.refl _ _).drew (rf.cell (i:=0) (by omega)),cellS (Below.refl _ _).drew (rf.cell (i:=1) (by omega)),cellS (Below.refl _ _).drew (rf.cell (i:=2) (by omega)),cellS (Below.refl _ _).drew (rf.cell (i:=3) (by omega)),cellS (Below.refl _ _).drew (rf.cell (i:=4) (by omega))⟩ (fun hHeld=>?_)
   obtain ⟨w3,hw⟩:∃ W,W=World.drew w2:=⟨_,rfl⟩
   have kb:Below w2.heap.size w2 w3:=by rw [hw]; exact (Below.refl _ _).drew
   rw [<-hw] at hHeld ⊢;clear hw;replace rf:=zaa rf kb;replace ro:=zaa ro kb;replace hB:=onS hB kb;clear kb
   refine tkq 0 (h:=tkq 1 (h:=tkq 2 (h:=?_)))
   refine rdq2 3 8 (h:=fun K hK=>?_) (h2:=fun K hK=>?_)
   ·go_simp
    go_wp2_with fail
    refine (zf0 (P:Int) (M:Int) (N:Int) A T k c n d w3).mono ?_
    rintro e w4 ⟨rfl,kb⟩
    replace rf:=zaa rf kb;replace ro:=zaa ro kb;replace hB:=onS hB kb;clear kb
    refine bkq hK ⟨qc0 rf,qc1 rf,qc2 rf,qc3 rf,qc4 rf⟩ (h:=fun hHeld=>?_)
    clear hK K
    refine rdq2 4 8 (h:=fun K hK=>?_) (h2:=fun K hK=>?_)
    ·go_simp
     go_wp2_with fail
     have hBs:=hB.size
     refine (zc3 (P:Int) (M:Int) A k c f (N:Int) T n d ln V w4 (HR.out.on hB) (HT.out.on hB) (by omega)).mono ?_
     rintro e w5 ⟨kb,v,hv,hcase⟩
     obtain rfl:=HKE.out hv
     rcases hcase with ⟨h0,_⟩ | ⟨_,P',M',C',lv,a,W,hPe,hMe,hCe,rfl,hM,hrel⟩
     ·exact absurd rfl h0
     obtain rfl:P=P':=by omega
     obtain rfl:M=M':=by omega
     obtain rfl:N=C':=by omega
     replace hM:=hM.mono hBs
     obtain ⟨LA,lc,hlv⟩:=hM.shape
     subst hlv
     clear hPe hMe hCe hv;replace rf:=zaa rf kb;replace ro:=zaa ro kb;replace hB:=onS hB kb;clear kb
     refine bkq hK ⟨qc0 rf,qc1 rf,qc2 rf,qc3 rf,qc4 rf⟩ (h:=fun hHeld=>?_)
     clear hK K
     refine tkq 5 (h:=tkq 6 (h:=tkq 7 (h:=?_)))
     refine rdq 8 (h:=fun K hK=>?_)
     go_simp
     obtain ⟨w6,hw⟩:∃ W,W=World.alloc w5 (Obj.cells #[.int .i64 0,.slice none 0 0] 97):=⟨_,rfl⟩
     have kb:Below w5.heap.size w5 w6:=by rw [hw]; exact (Below.refl _ _).alloc (Nat.le_refl _) _
     have rb:w6.rowIs w5.heap.size 97 2 (matCell (.int .i64 0) (.slice none 0 0)):=by rw [hw]; exact zax
     have hmw:w.heap.size<=w5.heap.size:=hB.size
     have hm0:b0≠w5.heap.size:=by have:=rf.lt; omega
     have hm2:b2≠w5.heap.size:=by have:=ro.lt; omega
     rw [<-hw];clear hw
     obtain ⟨mb,hb⟩:∃ b,b=w5.heap.size:=⟨_,rfl⟩
     rw [<-hb] at rb hmw hm0 hm2 ⊢;clear hb;replace rf:=zaa rf kb;replace ro:=zaa ro kb;replace hB:=onS hB kb;replace hM:=hM.on kb;clear kb
     refine bkq hK ⟨qc0 rf,qc1 rf,qc2 rf,qc3 rf,qc4 rf⟩ (h:=fun hHeld=>?_)
     clear hK K
     refine rdq 9 (h:=fun K hK=>?_)
     have r0:=rb.frozen 0
     have s0:=qc0 rb
     have r1:=rb.frozen 1
     have s1:=qc1 rb
     go_simp
     clear r0 s0 r1 s1
     generalize hw9:World.setCell _ _ _=w7
     obtain ⟨row9,hg9⟩:=zbh rb hw9.symm
     clear hw9
     replace hM:=hM.kept hg9 rb (by decide) (by decide)
     replace hB:=hB.grown hg9 hB.size (fun q e=>by injection e with e; omega)
     replace rf:=zal rf hg9 hm0;replace ro:=zal ro hg9 hm2;clear hg9 rb
     refine bkq hK ⟨qc0 rf,qc1 rf,qc2 rf,qc3 rf,qc4 rf⟩ (h:=fun hHeld=>?_)
     clear hK K
     refine tkq 10 (h:=?_)
     refine wpAnyH_done (by kernel_rfl) ?_ _
     clear hHeld
     go_wp2
     go_meet
     exact ⟨mb,_,a,W,rfl,rfl,row9,hM,hrel,rf,ro,hB⟩
    ·go_simp
     obtain ⟨w5,hw⟩:∃ W,W=World.alloc w4 (Obj.cells #[.int .i64 0,.slice none 0 0] 97):=⟨_,rfl⟩
     have kb:Below w4.heap.size w4 w5:=by rw [hw]; exact (Below.refl _ _).alloc (Nat.le_refl _) _
     have rb:w5.rowIs w4.heap.size 97 2 (matCell (.int .i64 0) (.slice none 0 0)):=by rw [hw]; exact zax
     have hmw:w.heap.size<=w4.heap.size:=hB.size
     have hm0:b0≠w4.heap.size:=by have:=rf.lt; omega
     have hm2:b2≠w4.heap.size:=by have:=ro.lt; omega
     rw [<-hw];clear hw
     obtain ⟨mb,hb⟩:∃ b,b=w4.heap.size:=⟨_,rfl⟩
     rw [<-hb] at rb hmw hm0 hm2 ⊢;clear hb;replace rf:=zaa rf kb;replace ro:=zaa ro kb;replace hB:=onS hB kb;clear kb
     refine bkq hK ⟨qc0 rf,qc1 rf,qc2 rf,qc3 rf,qc4 rf⟩ (h:=fun hHeld=>?_)
     clear hK K
     refine rdq 4 (h:=fun K hK=>?_)
     go_simp
     go_wp2_with fail
     have hBs:=hB.size
     refine (zc3 (P:Int) (M:Int) A k c f (N:Int) T n d ln V w5 (HR.out.on hB) (HT.out.on hB) (by omega)).mono ?_
     rintro e w6 ⟨kb,v,hv,hcase⟩
     obtain rfl:=HKE.out hv
     rcases hcase with ⟨h0,_⟩ | ⟨_,P',M',C',lv,a,W,hPe,hMe,hCe,rfl,hM,hrel⟩
     ·exact absurd rfl h0
     obtain rfl:P=P':=by omega
     obtain rfl:M=M':=by omega
     obtain rfl:N=C':=by omega
     replace hM:=hM.mono hBs
     obtain ⟨LA,lc,hlv⟩:=hM.shape
     subst hlv
     clear hPe hMe hCe hv;replace rf:=zaa rf kb;replace ro:=zaa ro kb;replace rb:=zaa rb kb;replace hB:=onS hB kb;clear kb
     refine bkq hK ⟨qc0 rf,qc1 rf,qc2 rf,qc3 rf,qc4 rf⟩ (h:=fun hHeld=>?_)
     clear hK K
     refine tkq 5 (h:=tkq 6 (h:=tkq 7 (h:=?_)))
     refine rdq 9 (h:=fun K hK=>?_)
     have r0:=rb.frozen 0
     have s0:=qc0 rb
     have r1:=rb.frozen 1
     have s1:=qc1 rb
     go_simp
     clear r0 s0 r1 s1
     generalize hw9:World.setCell _ _ _=w7
     obtain ⟨row9,hg9⟩:=zbh rb hw9.symm
     clear hw9
     replace hM:=hM.kept hg9 rb (by decide) (by decide)
     replace hB:=hB.grown hg9 hB.size (fun q e=>by injection e with e; omega)
     replace rf:=zal rf hg9 hm0;replace ro:=zal ro hg9 hm2;clear hg9 rb
     refine bkq hK ⟨qc0 rf,qc1 rf,qc2 rf,qc3 rf,qc4 rf⟩ (h:=fun hHeld=>?_)
     clear hK K
     refine tkq 10 (h:=?_)
     refine wpAnyH_done (by kernel_rfl) ?_ _
     clear hHeld
     go_wp2
     go_meet
     exact ⟨mb,_,a,W,rfl,rfl,row9,hM,hrel,rf,ro,hB⟩
   ·go_simp
    obtain ⟨w4,hw⟩:∃ W,W=World.alloc w3 (Obj.cells #[.int .i64 0,.slice none 0 0] 97):=⟨_,rfl⟩
    have kb:Below w3.heap.size w3 w4:=by rw [hw]; exact (Below.refl _ _).alloc (Nat.le_refl _) _
    have rb:w4.rowIs w3.heap.size 97 2 (matCell (.int .i64 0) (.slice none 0 0)):=by rw [hw]; exact zax
    have hmw:w.heap.size<=w3.heap.size:=hB.size
    have hm0:b0≠w3.heap.size:=by have:=rf.lt; omega
    have hm2:b2≠w3.heap.size:=by have:=ro.lt; omega
    rw [<-hw];clear hw
    obtain ⟨mb,hb⟩:∃ b,b=w3.heap.size:=⟨_,rfl⟩
    rw [<-hb] at rb hmw hm0 hm2 ⊢;clear hb;replace rf:=zaa rf kb;replace ro:=zaa ro kb;replace hB:=onS hB kb;clear kb
    refine bkq hK ⟨qc0 rf,qc1 rf,qc2 rf,qc3 rf,qc4 rf⟩ (h:=fun hHeld=>?_)
    clear hK K
    refine rdq 3 (h:=fun K hK=>?_)
    go_simp
    go_wp2_with fail
    refine (zf0 (P:Int) (M:Int) (N:Int) A T k c n d w4).mono ?_
    rintro e w5 ⟨rfl,kb⟩
    replace rf:=zaa rf kb;replace ro:=zaa ro kb;replace rb:=zaa rb kb;replace hB:=onS hB kb;clear kb
    refine bkq hK ⟨qc0 rf,qc1 rf,qc2 rf,qc3 rf,qc4 rf⟩ (h:=fun hHeld=>?_)
    clear hK K
    refine rdq 4 (h:=fun K hK=>?_)
    go_simp
    go_wp2_with fail
    have hBs:=hB.size
    refine (zc3 (P:Int) (M:Int) A k c f (N:Int) T n d ln V w5 (HR.out.on hB) (HT.out.on hB) (by omega)).mono ?_
    rintro e w6 ⟨kb,v,hv,hcase⟩
    obtain rfl:=HKE.out hv
    rcases hcase with ⟨h0,_⟩ | ⟨_,P',M',C',lv,a,W,hPe,hMe,hCe,rfl,hM,hrel⟩
    ·exact absurd rfl h0
    obtain rfl:P=P':=by omega
    obtain rfl:M=M':=by omega
    obtain rfl:N=C':=by omega
    replace hM:=hM.mono hBs
    obtain ⟨LA,lc,hlv⟩:=hM.shape
    subst hlv
    clear hPe hMe hCe hv;replace rf:=zaa rf kb;replace ro:=zaa ro kb;replace rb:=zaa rb kb;replace hB:=onS hB kb;clear kb
    refine bkq hK ⟨qc0 rf,qc1 rf,qc2 rf,qc3 rf,qc4 rf⟩ (h:=fun hHeld=>?_)
    clear hK K
    refine tkq 5 (h:=tkq 6 (h:=tkq 7 (h:=?_)))
    refine rdq 9 (h:=fun K hK=>?_)
    have r0:=rb.frozen 0
    have s0:=qc0 rb
    have r1:=rb.frozen 1
    have s1:=qc1 rb
    go_simp
    clear r0 s0 r1 s1
    generalize hw9:World.setCell _ _ _=w7
    obtain ⟨row9,hg9⟩:=zbh rb hw9.symm
    clear hw9
    replace hM:=hM.kept hg9 rb (by decide) (by decide)
    replace hB:=hB.grown hg9 hB.size (fun q e=>by injection e with e; omega)
    replace rf:=zal rf hg9 hm0;replace ro:=zal ro hg9 hm2;clear hg9 rb
    refine bkq hK ⟨qc0 rf,qc1 rf,qc2 rf,qc3 rf,qc4 rf⟩ (h:=fun hHeld=>?_)
    clear hK K
    refine tkq 10 (h:=?_)
    refine wpAnyH_done (by kernel_rfl) ?_ _
    clear hHeld
    go_wp2
    go_meet
    exact ⟨mb,_,a,W,rfl,rfl,row9,hM,hrel,rf,ro,hB⟩
  case rest =>
   clear hB rf ro
   obtain ⟨mb,lv,a,W,rfl,rfl,rm,hM,hrel,rf,ro,hB⟩:=hcut
   have HM:=hid hM
   have HREL:=hid hrel
   obtain ⟨LA,lc,hlv⟩:=hM.shape
   subst hlv
   clear hM hrel
   have q0:=qc0 rf
   have q1:=qc1 rf
   have q2:=qc2 rf
   have m0:=qc0 rm
   have m1:=qc1 rm
   go_wp2_with fail
   refine (zlE (P:Int) (M:Int) (N:Int) A k c f LA a lc wc (HR.out.on hB) hkc (by omega)).mono ?_
   rintro e w5 ⟨v,rfl,hO,kb⟩
   have hBs:=hB.size
   replace hB:=onS hB kb;replace ro:=zaa ro kb
   have HM5:=hid (HM.out.on kb)
   obtain ⟨A2,c2,hv⟩:=hO.shape
   subst hv
   have HO:=hid (hO.mono hBs)
   clear kb hO hBs q0 q1 q2 m0 m1 rf rm HM
   have r0:=ro.frozen 0
   have s0:=qc0 ro
   have r1:=ro.frozen 1
   have s1:=qc1 ro
   have r2:=ro.frozen 2
   have s2:=qc2 ro
   have r3:=ro.frozen 3
   have s3:=qc3 ro
   have r4:=ro.frozen 4
   have s4:=qc4 ro
   go_wp2
   clear r0 s0 r1 s1 r2 s2 r3 s3 r4 s4
   generalize hw9:World.setCell _ _ _=w6
   obtain ⟨row9,hg9⟩:=zbU ro hw9.symm
   clear hw9
   have hB9:=hB.grown hg9 hB.size (fun q e=>by injection e with e; omega)
   have hO9:=HO.out.kept hg9 (zap ro HO.out (by decide))
   have hM9:=HM5.out.kept hg9 ro (by decide) (by decide)
   have e0:=qc0 row9
   have e1:=qc1 row9
   have e2:=qc2 row9
   have e3:=qc3 row9
   have e4:=qc4 row9
   refine bodyPost_ret (v:=.tuple #[.agg #[.int .i64 (P:Nat),.int .i64 (M:Nat),.slice A2 k c2,.int .i64 (N:Nat),.slice LA a lc],.int .i64 0]) (by simp [results,Tryz.results50, go_sem,e0,e1,e2,e3,e4]) rfl ?_
   refine ⟨hB9,0,HV.out,.inr ⟨rfl,P,M,N,rfl,rfl,rfl,_,_,a,W,rfl,hO9.congr fun j hj q _=>?_,hM9,hB9,HREL.out⟩⟩
   have hg:=HV.out
   rcases hg with ⟨_,h9⟩ | ⟨⟨P',M',h1,h2,h3,h4,h5⟩,_⟩
   ·cases h9
   rcases h5 with ⟨_,e⟩ | ⟨_,e,h,_⟩
   ·omega
   ·have:=h j (by omega)
    show Value.int .i64 (f j)=.int .i64 (((f j).toNat:Nat):Int)
    rw [show (((f j).toNat:Nat):Int)=f j by omega]
 ·have hvn:(v != 0)=true:=by simpa using hv0
  have HV0:=hid hv0
  clear hv0 rf
  have r0:=ro.frozen 0
  have s0:=qc0 ro
  have r1:=ro.frozen 1
  have s1:=qc1 ro
  have r2:=ro.frozen 2
  have s2:=qc2 ro
  have r3:=ro.frozen 3
  have s3:=qc3 ro
  have r4:=ro.frozen 4
  have s4:=qc4 ro
  go_wp2
  clear r0 s0 r1 s1 r2 s2 r3 s3 r4 s4
  generalize hw9:World.setCell _ _ _=w6
  obtain ⟨row9,hg9⟩:=zbU ro hw9.symm
  clear hw9
  have hB9:=hB.grown hg9 hB.size (fun q e=>by injection e with e; omega)
  have e0:=qc0 row9
  have e1:=qc1 row9
  have e2:=qc2 row9
  have e3:=qc3 row9
  have e4:=qc4 row9
  refine bodyPost_ret (v:=.tuple #[.agg #[.int .i64 0,.int .i64 0,.slice none 0 0,.int .i64 0,.slice none 0 0],.int .i64 v]) (by simp [results,Tryz.results50, go_sem,e0,e1,e2,e3,e4]) rfl ?_
  exact ⟨hB9,v,HV.out,.inl ⟨HV0.out,rfl⟩⟩
section
variable {q n k:Nat} {add mul:Nat->Nat->Nat} {V:Nat->Nat->Nat}
theorem zeJ (hL:FieldLaws q add mul) {a s j:Nat} {c:Nat->Nat} (hc:∀ i,i<a->c i<q) (hs:s<a) (h1:V s j=1) (h0:∀ t,t<a->t≠s->V t j=0):spE add mul V c a j=c s:=by
 have key:∀ t,t<=a->spE add mul V c t j=if s<t then c s else 0:=by
  intro t
  induction t with
  | zero=>intro _; rfl
  | succ t ih =>
   intro ht
   show add (spE add mul V c t j) (mul (c t) (V t j))=_
   rw [ih (by omega)]
   by_cases e:t=s
   ·subst e
    rw [if_neg (by omega),if_pos (by omega),h1,hL.mulOne (hc t hs),hL.zeroAdd _ (hc t hs)]
   ·rw [h0 t (by omega) e,hL.mulZero (hc t (by omega))]
    by_cases e2:s<t
    ·rw [if_pos e2,if_pos (by omega),hL.addZero (hc s hs)]
    ·rw [if_neg e2,if_neg (by omega),hL.addZero (by have:=hL.two; omega)]
 rw [key a (Nat.le_refl _),if_pos hs]
theorem zlF (hL:FieldLaws q add mul) {U W:Nat->Nat->Nat} {f a N:Nat} {fr p:Nat->Nat} (hf:∀ u,u<f->fr u<N) (hp:∀ s,s<a->p s<N)
  (u1:∀ s,s<f->U s (fr s)=1) (u0:∀ s,s<f->∀ t,t<f->t≠s->U t (fr s)=0) (w1:∀ s,s<a->W s (p s)=1) (w0:∀ s,s<a->∀ t,t<a->t≠s->W t (p s)=0)
  (hS:SameSp q add mul N f a U W):f<=a:=by
 have hq:=hL.two
 have hle:q ^ f<=q ^ a:=by
  refine pigeon (f:=fun i=>code q (fun s=>spE add mul U (msgD q f i) f (p s)) a) (fun i _=>zhi fun s _=>zcR hL _ _ _) fun i i' hi hi' e=>?_
  have e1:=zjO (fun s _=>zcR hL _ _ _) (fun s _=>zcR hL _ _ _) e
  have hin:∀ i,InSp q add mul a N W (spE add mul U (msgD q f i) f):=fun i=>(hS _).1 ⟨msgD q f i,fun _ _=>ze4 (by omega),fun _ _=>rfl⟩
  obtain ⟨c,hc,ec⟩:=hin i
  obtain ⟨d,hd,ed⟩:=hin i'
  have ecd:∀ s,s<a->c s=d s:=fun s hs=>by
   have:=e1 s hs
   rw [ec _ (hp s hs),ed _ (hp s hs),zeJ hL hc hs (w1 s hs) (w0 s hs),zeJ hL hd hs (w1 s hs) (w0 s hs)] at this
   exact this
  have em:∀ u,u<f->msgD q f i u=msgD q f i' u:=fun u hu=>by
   have h1:=zeJ (V:=U) hL (fun t _=>ze4 (q:=q) (n:=f) (x:=i) (t:=t) (by omega)) hu (u1 u hu) (u0 u hu)
   have h2:=zeJ (V:=U) hL (fun t _=>ze4 (q:=q) (n:=f) (x:=i') (t:=t) (by omega)) hu (u1 u hu) (u0 u hu)
   rw [<-h1,<-h2,ec _ (hf u hu),ed _ (hf u hu)]
   exact zen a fun s hs=>⟨ecd s hs,rfl⟩
  refine zlu (by omega) hi hi' fun t ht=>?_
  have:=em (f - 1 - t) (by omega)
  unfold msgD at this
  rwa [show f - 1 - (f - 1 - t)=t by omega] at this
 exact (Nat.pow_le_pow_iff_right hq).1 hle
theorem NullRel.count {neg:Nat->Nat} {N a2:Nat} {W2:Nat->Nat->Nat} (hL:FieldLaws q add mul) (hneg:∀ x,x<q->neg x<q/\add x (neg x)=0) (hV:RrefN q n N V) (h:NullRel q add mul neg n N V a2 W2):n+a2=N:=by
 obtain ⟨pv,hv⟩:=hV
 obtain ⟨a,p,W,f,fr,Nn,p2,hE,hR,hN,hE2,hR2⟩:=h
 have hq:=hL.two
 have hle:=hE.le
 obtain ⟨hs,hWl⟩:=hR.sp hL hv.lt
 have hNl:∀ u,u<f->∀ j,j<N->Nn u j<q:=fun u hu j hj=>by
  rw [hN.row u hu j hj]
  have hfu:=hN.lt u hu
  rcases hN.cover j hj with ⟨s,hs,e⟩ | ⟨v,hv,e⟩
  ·rw [<-e,zgp a hE.inc hs]
   exact (hneg _ (hWl s (by omega) _ hfu)).1
  ·rw [zbN a fun s hs e2=>hN.ne v hv s hs (e2.trans e.symm)]
   split <;> omega
 obtain ⟨hs2,-⟩:=hR2.sp hL hNl
 have ea:n=a:=(zcS hL hv hE.top fun x=>(hs x).trans (hE.sp_top hL x)).1
 have hle2:=hE2.le
 have u1:∀ s,s<f->Nn s (fr s)=1:=fun s hs=>by rw [hN.row s hs _ (hN.lt s hs),zbN a (hN.ne s hs),if_pos rfl]
 have u0:∀ s,s<f->∀ t,t<f->t≠s->Nn t (fr s)=0:=fun s hs t ht hne=>by
  rw [hN.row t ht _ (hN.lt s hs),zbN a (hN.ne s hs),if_neg]
  intro e
  rcases Nat.lt_or_gt_of_ne hne with h1 | h1
  ·have:=hN.inc t s h1 hs; omega
  ·have:=hN.inc s t h1 ht; omega
 have w0:∀ s,s<a2->∀ t,t<a2->t≠s->W2 t (p2 s)=0:=fun s hs t ht hne=>hE2.zero s hs t (by omega) hne
 have hS:SameSp q add mul N f a2 Nn W2:=fun x=>(hs2 x).trans (hE2.sp_top hL x)
 have f1:f<=a2:=zlF hL hN.lt hE2.pvlt u1 u0 hE2.one w0 hS
 have f3:a+f<=N:=by
  refine pigeon (f:=fun i=>if i<a then p i else fr (i - a)) (fun i hi=>?_) fun i j hi hj e=>?_
  ·show (if i<a then p i else fr (i - a))<N
   split
   ·rename_i h; exact hE.pvlt i h
   ·exact hN.lt _ (by omega)
  ·have e':(if i<a then p i else fr (i - a))=(if j<a then p j else fr (j - a)):=e
   by_cases h1:i<a
   ·rw [if_pos h1] at e'
    by_cases h2:j<a
    ·rw [if_pos h2] at e'
     rcases Nat.lt_trichotomy i j with h3 | h3 | h3
     ·have:=hE.inc i j h3 h2; omega
     ·exact h3
     ·have:=hE.inc j i h3 h1; omega
    ·rw [if_neg h2] at e'
     exact absurd e' (hN.ne _ (by omega) _ h1)
   ·rw [if_neg h1] at e'
    by_cases h2:j<a
    ·rw [if_pos h2] at e'
     exact absurd e'.symm (hN.ne _ (by omega) _ h2)
    ·rw [if_neg h2] at e'
     rcases Nat.lt_trichotomy (i - a) (j - a) with h3 | h3 | h3
     ·have:=hN.inc _ _ h3 (by omega); omega
     ·omega
     ·have:=hN.inc _ _ h3 (by omega); omega
 have f4:N<=a+f:=by
  have hch:∀ j,∃ i,j<N->i<a+f/\(if i<a then p i else fr (i - a))=j:=fun j=>by
   by_cases hj:j<N
   ·rcases hN.cover j hj with ⟨s,hs,e⟩ | ⟨u,hu,e⟩
    ·exact ⟨s,fun _=>⟨by omega,by rw [if_pos hs]; exact e⟩⟩
    ·exact ⟨a+u,fun _=>⟨by omega,by rw [if_neg (by omega),show a+u - a=u by omega]; exact e⟩⟩
   ·exact ⟨0,fun h=>absurd h hj⟩
  obtain ⟨g,hg⟩:=Classical.skolem.1 hch
  refine pigeon (f:=g) (fun j hj=>(hg j hj).1) fun i j hi hj e=>?_
  have h1:=(hg i hi).2
  have h2:=(hg j hj).2
  rw [e] at h1
  omega
 omega
theorem NullRel.same {neg:Nat->Nat} {N a2 a3:Nat} {W2 W3:Nat->Nat->Nat} (hL:FieldLaws q add mul) (hneg:∀ x,x<q->neg x<q/\add x (neg x)=0) (hV:∀ i,i<n->∀ j,j<N->V i j<q) (h:NullRel q add mul neg n N V a2 W2) (h3:NullRel q add mul neg n N V a3 W3) :
  a2=a3/\∀ s,s<a2->∀ j,j<N->W2 s j=W3 s j:=by
 have hq:0<q:=by have:=hL.two; omega
 obtain ⟨iA,iM,iN,i0,i1,F,ha,hm,h0,h1⟩:=zgJ hL
 have O:OnEl q add mul:=⟨F,ha,hm,h0,h1⟩
 obtain ⟨p2,e2⟩:=h.rref
 obtain ⟨p3,e3⟩:=h3.rref
 have hp2:=fun x=>NullRel.perp (x:=x) hq O hL hneg hV h
 have hp3:=fun x=>NullRel.perp (x:=x) hq O hL hneg hV h3
 have hS:SameSp q add mul N a2 a3 W2 W3:=fun x=>by
  constructor
  ·intro hx
   have hl:∀ j,j<N->x j<q:=fun j hj=>hx.lt hL hj
   exact (zaV hq F hL ha hm h0 e3.lt hl).2 ((hp3 _).1 ((hp2 _).2 ((zaV hq F hL ha hm h0 e2.lt hl).1 hx)))
  ·intro hx
   have hl:∀ j,j<N->x j<q:=fun j hj=>hx.lt hL hj
   exact (zaV hq F hL ha hm h0 e2.lt hl).2 ((hp2 _).1 ((hp3 _).2 ((zaV hq F hL ha hm h0 e3.lt hl).1 hx)))
 obtain ⟨g1,-,g3⟩:=zcS hL e2 e3 hS
 exact ⟨g1,g3⟩
end
def ExpNPost (q k most:Nat) (w:World) (e:Ending) (w':World):Prop:=((q ^ k<=most/\e=.returned (.tuple #[.int .i64 (q ^ k:Nat),.int .i64 0]))∨(most<q ^ k/\e=.returned (.tuple #[.int .i64 0,.int .i64 8])))/\Below w.heap.size w w'
theorem zlG (q k most:Nat) (w:World) (hq:2<=q) (hq2:q<=1048576) (hk:k<=1048576) (hm:1<=most) (hm2:most<=1048576) :
  Calls Tryz.prog 63 #[.int .i64 (q:Nat),.int .i64 (k:Nat),.int .i64 (most:Nat)] w (ExpNPost q k most w):=by
 have c1:¬ ((q:Int)<0):=by omega
 have c2:¬ ((k:Int)<0):=by omega
 have c3:¬ ((most:Int)<0):=by omega
 have c4:((q:Int) == 0)=false:=by simp; omega
 have c5:((most:Int) == 0)=false:=by simp; omega
 have c6:(q:Int) > 1:=by omega
 go_enter Tryz.func63, Tryz.ntmps63
 go_wp2
 go_loopg [1,8] k (fun gg kv ov wx=>∃ j o:Nat,kv=.int .i64 ((k - j:Nat):Int)/\ov=.int .i64 (o:Nat)/\j<=k/\k<=j+gg/\Hid (o=q ^ j)/\o<=most/\Below w.heap.size w wx)
 case atStart=>exact ⟨0,1,by rw [Nat.sub_zero],rfl,by omega,by omega,rfl,by omega,Below.refl _ _⟩
 case round =>
  obtain ⟨j,o,rfl,rfl,hj,hjg,HO,hom,hB⟩:=hrel
  obtain ⟨r,hr⟩:∃ r,r=k - j:=⟨_,rfl⟩
  rw [<-hr]
  have HR:=hid hr
  clear hr
  by_cases hlt:0<r
  ·have hlt':(r:Int) > 0:=by omega
   have h0:=HR.out
   obtain ⟨d,hd⟩:∃ d,d=most / q:=⟨_,rfl⟩
   have e0:(most:Int) / (q:Int)=(d:Int):=by rw [hd]; rfl
   have hdl:d<=most:=by rw [hd]; exact Nat.div_le_self _ _
   have HD:=hid hd
   have hd0:0<=(most:Int) / (q:Int):=by rw [e0]; omega
   have hd1:(most:Int) / (q:Int)<=1048576:=by rw [e0]; omega
   clear hd
   have hq0:¬ (q:Int)=0:=by omega
   by_cases hb:d<o
   ·have hb':(o:Int) > (most:Int) / (q:Int):=by rw [e0]; omega
    have hbig:Hid (most<q ^ k):=by
     have h1:most<o*q:=(Nat.div_lt_iff_lt_mul (by omega)).1 (HD.out ▸ hb)
     have h2:q ^ (j+1)<=q ^ k:=Nat.pow_le_pow_right (by omega) (by omega)
     have h3:=HO.out
     show most<q ^ k
     rw [Nat.pow_succ,<-h3] at h2
     omega
    clear hb h0 e0
    go_wp2
    go_ret2
    exact ⟨.inr ⟨hbig.out,rfl⟩,hB⟩
   ·have hb':¬ (o:Int) > (most:Int) / (q:Int):=by rw [e0]; omega
    have hsm:o*q<=most:=by
     have h1:o<=most / q:=HD.out ▸ Nat.le_of_not_lt hb
     exact (Nat.le_div_iff_mul_le (by omega)).1 h1
    have HO2:Hid (o*q=q ^ (j+1)):=by show _=_; rw [Nat.pow_succ,<-HO.out]
    have e2:(o:Int)*(q:Int)=((o*q:Nat):Int):=by push_cast; rfl
    have hp0:0<=(o:Int)*(q:Int):=by rw [e2]; omega
    have hp1:(o:Int)*(q:Int)<=1048576:=by rw [e2]; omega
    clear hb e0 e2
    go_wp2
    go_roundg (gk - 1)
    case measure=>omega
    case rel=>exact ⟨j+1,o*q,by congr 1; omega,by push_cast; go_num,by omega,by omega,HO2,hsm,hB⟩
  ·have hlt':¬ (r:Int) > 0:=by omega
   have hex:Hid (q ^ k=o):=by
    have h0:=HR.out
    obtain rfl:j=k:=by omega
    exact HO.out.symm
   obtain rfl:r=0:=by omega
   go_wp2
   go_ret2
   exact ⟨.inl ⟨by rw [hex.out]; exact hom,by rw [hex.out]; rfl⟩,hB⟩
theorem zjb (P M:Nat) (A:Option Addr) (k c:Nat) (m:Nat->Nat) (n:Nat) (U V:Option Addr) (uc vc:Nat) (a b:Nat->Nat) (w:World) (hf:FieldOk P M m) (hm:ModOk w P M A m) (hkM:M=1∨k=M) (ha:IntsR w w.heap.size U n (fun i=>(a i:Nat))) (hb:IntsR w w.heap.size V n (fun i=>(b i:Nat))) (haq:∀ i,i<n->a i<P ^ M) (hbq:∀ i,i<n->b i<P ^ M) (hn:n<=1048576) :
  Calls Tryz.prog 170 #[.agg #[.int .i64 (P:Nat),.int .i64 (M:Nat),.slice A k c],.slice U n uc,.slice V n vc] w fun e w'=>e=.returned (.int .i64 (dotN (addF P M) (mulF P M m) a b n:Nat))/\Below w.heap.size w w':=by
 have HL:=hid (fieldLaws hf)
 have hfo:=hf.1
 have hq:=hfo.2.2.2
 have HM:=hid hm
 have HA:=hid ha
 have HBb:=hid hb
 have HAQ:=hid haq
 have HBQ:=hid hbq
 clear hm ha hb haq hbq
 have hB:Below w.heap.size w (w.alloc (.cells #[.int .i64 (P:Nat),.int .i64 (M:Nat),.slice A k c] 24)):=(Below.refl _ _).alloc (Nat.le_refl _) _
 have rf:=zaf (w:=w) (a:=.int .i64 (P:Nat)) (b:=.int .i64 (M:Nat)) (c:=.slice A k c) (T := 24)
 obtain ⟨w0,hw0⟩:∃ W,W=w.alloc (.cells #[.int .i64 (P:Nat),.int .i64 (M:Nat),.slice A k c] 24):=⟨_,rfl⟩
 rw [<-hw0] at hB rf
 go_enter Tryz.func170, Tryz.ntmps170
 go_upto_region 1 with fail
 rw [<-hw0];clear hw0
 go_wp2
 go_loopg [7,8] n (fun gg sv iv wx=>∃ i s:Nat,iv=.int .i64 (i:Nat)/\sv=.int .i64 (s:Nat)/\i<=n/\n<=i+gg/\s<P ^ M/\Hid (s=dotN (addF P M) (mulF P M m) a b i)/\wx.rowIs w.heap.size 24 3 (fldCell (.int .i64 (P:Nat)) (.int .i64 (M:Nat)) (.slice A k c))/\Below w.heap.size w wx)
 case atStart=>exact ⟨0,0,rfl,rfl,by omega,by omega,by have:=HL.out.two; omega,rfl,rf,hB⟩
 case round =>
  clear hB rf
  obtain ⟨i,s,rfl,rfl,hi,hig,hsq,HS,rf,hB⟩:=hrel
  have hi0:(0:Int)<=(i:Int):=by omega
  by_cases hlt:i<n
  ·have hlt':(i:Int)<(n:Int):=by omega
   have hd:decide ((i:Int)<(n:Int))=true:=by simpa using hlt
   obtain ⟨ab,ao,rfl,hab,x0⟩:=HA.out.at hlt
   obtain ⟨bb,bo,rfl,hbb,y0⟩:=HBb.out.at hlt
   replace x0:=(hB.cell (p:=⟨ab,ao+i,none⟩) hab).trans x0;replace y0:=(hB.cell (p:=⟨bb,bo+i,none⟩) hbb).trans y0
   obtain ⟨x,hx⟩:∃ x,x=a i:=⟨_,rfl⟩
   obtain ⟨y,hy⟩:∃ x,x=b i:=⟨_,rfl⟩
   have hxq:x<P ^ M:=by rw [hx]; exact HAQ.out i hlt
   have hyq:y<P ^ M:=by rw [hy]; exact HBQ.out i hlt
   have HIX:=hid (zaH hxq)
   have HIY:=hid (zaH hyq)
   rw [<-hx] at x0;rw [<-hy] at y0
   have HX:=hid hx
   have HY:=hid hy
   clear hx hy
   have q0:=qc0 rf
   have q1:=qc1 rf
   have q2:=qc2 rf
   obtain ⟨w1,hw1⟩:∃ W,W=wr:=⟨_,rfl⟩
   subst hw1
   go_wp2
   refine wp_region_held_drew (S:=fun w'=>w'.cell? ⟨w.heap.size,0,none⟩=some (.int .i64 (P:Nat))/\w'.cell? ⟨w.heap.size,1,none⟩=some (.int .i64 (M:Nat))/\w'.cell? ⟨w.heap.size,2,none⟩=some (.slice A k c)/\w'.cell? ⟨ab,ao+i,none⟩=some (.int .i64 (x:Nat))/\w'.cell? ⟨bb,bo+i,none⟩=some (.int .i64 (y:Nat))) (by kernel_rfl) ⟨cellS (Below.refl _ _).drew q0,cellS (Below.refl _ _).drew q1,cellS (Below.refl _ _).drew q2,cellS (Below.refl _ _).drew x0,cellS (Below.refl _ _).drew y0⟩ (fun hHeld=>?_)
   obtain ⟨w2,hw⟩:∃ W,W=World.drew w1:=⟨_,rfl⟩
   have kb:Below w1.heap.size w1 w2:=by rw [hw]; exact (Below.refl _ _).drew
   rw [<-hw] at hHeld ⊢;clear hw;replace rf:=zaa rf kb;replace hB:=onS hB kb;replace x0:=cellS kb x0;replace y0:=cellS kb y0;replace q0:=cellS kb q0;replace q1:=cellS kb q1;replace q2:=cellS kb q2;clear kb
   refine tkq 0 (h:=tkq 1 (h:=tkq 2 (h:=tkq 3 (h:=tkq 4 (h:=tkq 5 (h:=tkq 6 (h:=tkq 7 (h:=tkq 8 (h:=tkq 9 (h:=tkq 10 (h:=?_)))))))))))
   refine rdq 11 (h:=fun K hK=>?_)
   go_simp
   go_wp2_with fail
   refine (zdi P M A k c m (x:Int) (y:Int) w2 hfo (zaC HM.out hB) hkM).mono ?_
   rintro e w3 ⟨rfl,kb⟩
   replace rf:=zaa rf kb;replace hB:=onS hB kb;replace x0:=cellS kb x0;replace y0:=cellS kb y0;replace q0:=cellS kb q0;replace q1:=cellS kb q1;replace q2:=cellS kb q2;clear kb;rw [HIX.out,HIY.out]
   obtain ⟨t,ht⟩:∃ t,t=mulF P M m x y:=⟨_,rfl⟩
   rw [<-ht]
   have HT:=hid ht
   have HIT:=hid (show inV (P ^ M) (t:Nat)=t from zaH (by rw [ht]; exact HL.out.mulLt _ _))
   have HIS:=hid (zaH hsq)
   clear ht
   refine bkq hK ⟨q0,q1,q2,x0,y0⟩ (h:=fun hHeld=>?_)
   clear hK K
   refine rdq 12 (h:=fun K hK=>?_)
   go_simp
   go_wp2_with fail
   refine (zd9 P M A k c (s:Int) (t:Int) w3 hfo).mono ?_
   rintro e w4 ⟨rfl,kb⟩
   replace rf:=zaa rf kb;replace hB:=onS hB kb;replace x0:=cellS kb x0;replace y0:=cellS kb y0;replace q0:=cellS kb q0;replace q1:=cellS kb q1;replace q2:=cellS kb q2;clear kb;rw [HIS.out,HIT.out]
   obtain ⟨s2,hs2⟩:∃ u,u=addF P M s t:=⟨_,rfl⟩
   rw [<-hs2]
   have hs2q:s2<P ^ M:=by rw [hs2]; exact HL.out.addLt _ _
   have HS2:Hid (s2=dotN (addF P M) (mulF P M m) a b (i+1)):=by
    show _=_
    rw [hs2,HT.out,HS.out,HX.out,HY.out]; rfl
   clear hs2
   refine bkq hK ⟨q0,q1,q2,x0,y0⟩ (h:=fun hHeld=>?_)
   clear hK K
   refine tkq 13 (h:=?_)
   refine wpAnyH_done (by kernel_rfl) ?_ _
   clear hHeld
   go_wp2
   go_roundg (gk - 1)
   case measure=>omega
   case rel=>exact ⟨i+1,s2,by go_num,rfl,by omega,by omega,hs2q,HS2,rf,hB⟩
  ·obtain rfl:i=n:=by omega
   have hlt':¬ (i:Int)<(i:Int):=by omega
   have hd:decide ((i:Int)<(i:Int))=false:=by simp
   go_wp2
   go_ret
   exact ⟨by rw [HS.out]; rfl,hB⟩
def WordErrs (q N l:Nat) (u:Nat->Int):List (Prop × Int):=[(l=N,4),(AllIn q l u,2)]
theorem zik (P M:Nat) (A:Option Addr) (k c:Nat) (U:Option Addr) (l d N:Nat) (u:Nat->Int) (w:World) (hf:FldOk P M) (h:IntsR w w.heap.size U l u) (hn:l<=9223372036854775807) :
  Calls Tryz.prog 41 #[.agg #[.int .i64 (P:Nat),.int .i64 (M:Nat),.slice A k c],.slice U l d,.int .i64 (N:Nat)] w (ErrsPost (WordErrs (P ^ M) N l u) w):=by
 have HU:=hid h
 clear h
 have hB:Below w.heap.size w (w.alloc (.cells #[.int .i64 (P:Nat),.int .i64 (M:Nat),.slice A k c] 24)):=(Below.refl _ _).alloc (Nat.le_refl _) _
 have rf:=zaf (w:=w) (a:=.int .i64 (P:Nat)) (b:=.int .i64 (M:Nat)) (c:=.slice A k c) (T := 24)
 obtain ⟨w0,hw0⟩:∃ W,W=w.alloc (.cells #[.int .i64 (P:Nat),.int .i64 (M:Nat),.slice A k c] 24):=⟨_,rfl⟩
 rw [<-hw0] at hB rf
 go_enter Tryz.func41, Tryz.ntmps41
 go_upto_region 1 with fail
 rw [<-hw0];clear hw0
 have q0:=qc0 rf
 have q1:=qc1 rf
 have q2:=qc2 rf
 clear rf
 by_cases hl:l=N
 ·have HL:=hid hl
  have hl':((l:Int) != (N:Int))=false:=by simp [hl]
  clear hl
  go_wp2_with fail
  refine (zc8 P M A k c U l d u w0 hf (HU.out.on hB) hn).mono ?_
  rintro e w1 ⟨v,rfl,hv,kb⟩
  have HV:=hid hv
  replace hB:=onS hB kb;clear hv kb q0 q1 q2
  go_wp2
  go_ret
  refine errsPost (.inr ⟨HL.out,?_⟩) hB
  rcases HV.out with ⟨h1,h2⟩ | ⟨h1,h2⟩
  ·exact .inr ⟨h2,h1⟩
  ·exact .inl ⟨h2,h1⟩
 ·have HL:=hid hl
  have hl':((l:Int) != (N:Int))=true:=by simp; omega
  clear hl
  go_wp2
  go_ret
  exact errsPost (.inl ⟨HL.out,rfl⟩) hB
theorem zil (P M:Nat) (m:Nat->Nat) (A:Option Addr) (k c N:Nat) (T:Option Addr) (n d:Nat) (V:Nat->Nat->Nat) (U:Option Addr) (l uc:Nat) (u:Nat->Int) (w:World) (h:CodeR w P M m A k N T n V) (hu:IntsR w w.heap.size U l u) (hn:l<=9223372036854775807) :
  Calls Tryz.prog 83 #[.agg #[.int .i64 (P:Nat),.int .i64 (M:Nat),.slice A k c,.int .i64 (N:Nat),.slice T n d],.slice U l uc] w (ErrsPost (WordErrs (P ^ M) N l u) w):=by
 have HC:=hid h
 have HU:=hid hu
 have hN:=h.ln2
 have hfo:=h.fld.1
 clear h hu
 have rf:=zao (w:=w) (a:=.int .i64 (P:Nat)) (b:=.int .i64 (M:Nat)) (c:=.slice A k c) (d:=.int .i64 (N:Nat)) (e:=.slice T n d) (T := 27)
 have hB:Below w.heap.size w (w.alloc (.cells #[.int .i64 (P:Nat),.int .i64 (M:Nat),.slice A k c,.int .i64 (N:Nat),.slice T n d] 27)):=(Below.refl _ _).alloc (Nat.le_refl _) _
 obtain ⟨w1,hw1⟩:∃ W,W=w.alloc (.cells #[.int .i64 (P:Nat),.int .i64 (M:Nat),.slice A k c,.int .i64 (N:Nat),.slice T n d] 27):=⟨_,rfl⟩
 rw [<-hw1] at hB rf
 go_enter Tryz.func83, Tryz.ntmps83
 go_upto_region 1 with fail
 rw [<-hw1];clear hw1
 have q0:=qc0 rf
 have q1:=qc1 rf
 have q2:=qc2 rf
 have q3:=qc3 rf
 have q4:=qc4 rf
 go_wp2_with fail
 have h1:=HC.out.on hB
 refine (zca (P:Int) (M:Int) A k c _ (N:Int) T n d _ _ w1 h1.ints h1.rows).mono ?_
 rintro e w2 ⟨v,rfl,hv,kb⟩
 obtain rfl:v=0:=FirstErr.unique hv HC.out.errs
 replace hB:=onS hB kb;replace q0:=cellS kb q0;replace q1:=cellS kb q1;replace q2:=cellS kb q2;replace q3:=cellS kb q3;clear kb q4 rf hv h1
 go_wp2_with fail
 refine (zik P M A k c U l uc N u w2 hfo (HU.out.on hB) hn).mono ?_
 rintro e w3 ⟨v,rfl,hv,kb⟩
 have HV:=hid hv
 replace hB:=onS hB kb;clear hv kb q0 q1 q2 q3
 go_wp2
 go_ret
 exact errsPost HV.out hB
def cosN (q r:Nat):Nat:=if q ^ r<=65536 then q ^ r else 0
theorem zfp (P M:Nat) (m:Nat->Nat) (A:Option Addr) (k c N:Nat) (T:Option Addr) (n d:Nat) (V:Nat->Nat->Nat) (w:World) (h:CodeR w P M m A k N T n V) (hnN:n<=N) :
  Calls Tryz.prog 93 #[.agg #[.int .i64 (P:Nat),.int .i64 (M:Nat),.slice A k c,.int .i64 (N:Nat),.slice T n d]] w fun e w'=>e=.returned (.int .i64 (cosN (P ^ M) (N - n):Nat))/\Below w.heap.size w w':=by
 have hN:=h.ln2
 have hfo:=h.fld.1
 have hq2:=(fieldLaws h.fld).two
 have hq256:=hfo.2.2.2
 have HORD:=hid (zcf hfo)
 clear h
 have rf:=zao (w:=w) (a:=.int .i64 (P:Nat)) (b:=.int .i64 (M:Nat)) (c:=.slice A k c) (d:=.int .i64 (N:Nat)) (e:=.slice T n d) (T := 27)
 have hB:Below w.heap.size w (w.alloc (.cells #[.int .i64 (P:Nat),.int .i64 (M:Nat),.slice A k c,.int .i64 (N:Nat),.slice T n d] 27)):=(Below.refl _ _).alloc (Nat.le_refl _) _
 obtain ⟨w1,hw1⟩:∃ W,W=w.alloc (.cells #[.int .i64 (P:Nat),.int .i64 (M:Nat),.slice A k c,.int .i64 (N:Nat),.slice T n d] 27):=⟨_,rfl⟩
 rw [<-hw1] at hB rf
 go_enter Tryz.func93, Tryz.ntmps93
 go_upto_region 1 with fail
 rw [<-hw1];clear hw1
 have q4:=qc4 rf
 go_wp2
 clear q4
 go_loopg [3,4] N (fun gg ov iv wx=>∃ i o:Nat,iv=.int .i64 (i:Nat)/\ov=.int .i64 (o:Nat)/\n<=i/\i<=N/\N<=i+gg/\Hid (o=(P ^ M) ^ (i - n))/\o<=65536/\wx.rowIs w.heap.size 27 5 (codCell (.int .i64 (P:Nat)) (.int .i64 (M:Nat)) (.slice A k c) (.int .i64 (N:Nat)) (.slice T n d))/\Below w.heap.size w wx)
 case atStart=>exact ⟨n,1,rfl,rfl,Nat.le_refl _,hnN,by omega,by show _=_; rw [Nat.sub_self,Nat.pow_zero],by omega,rf,hB⟩
 case round =>
  clear rf hB
  obtain ⟨i,o,rfl,rfl,hni,hi,hig,HO,ho,rf,hB⟩:=hrel
  have q0:=qc0 rf
  have q1:=qc1 rf
  have q2:=qc2 rf
  have q3:=qc3 rf
  by_cases hlt:i<N
  ·have hlt':(i:Int)<(N:Int):=by omega
   go_wp2_with fail
   refine (zbI (P:Int) (M:Int) A k c wr).mono ?_
   rintro e w2 ⟨rfl,kb⟩
   replace rf:=zaa rf kb;replace hB:=onS hB kb;clear kb q0 q1 q2 q3;rw [HORD.out]
   obtain ⟨q,hq⟩:∃ q,q=P ^ M:=⟨_,rfl⟩
   rw [<-hq] at hq2 hq256 HO ⊢
   have e1:(o:Int)*(q:Int)=((o*q:Nat):Int):=by push_cast; rfl
   have hoq:o*q<=65536*256:=Nat.mul_le_mul ho hq256
   obtain ⟨o2,ho2⟩:∃ x,x=o*q:=⟨_,rfl⟩
   rw [<-ho2] at e1 hoq
   have HO2:Hid (o2=q ^ (i+1 - n)):=by show _=_; rw [ho2,HO.out,show i+1 - n=i - n+1 by omega,Nat.pow_succ]
   clear ho2
   have e2:wrap64 ((o:Int)*(q:Int))=(o2:Int):=by rw [e1]; unfold wrap64; omega
   by_cases hbig:o2 > 65536
   ·have hb':(o2:Int) > 65536:=by omega
    have hfin:Hid (cosN (P ^ M) (N - n)=0):=by
     show cosN _ _=0
     unfold cosN
     rw [if_neg]
     have h1:q ^ (i+1 - n)<=q ^ (N - n):=Nat.pow_le_pow_right (by omega) (by omega)
     have h2:=HO2.out
     rw [<-hq]
     omega
    clear hq
    go_wp2
    go_ret
    exact ⟨by rw [hfin.out]; rfl,hB⟩
   ·have hb':¬ (o2:Int) > 65536:=by omega
    rw [hq] at HO2;clear hq
    go_wp2
    go_roundg (gk - 1)
    case measure=>omega
    case rel=>exact ⟨i+1,o2,by go_num,rfl,by omega,by omega,by omega,HO2,by omega,rf,hB⟩
  ·have hlt':¬ (i:Int)<(N:Int):=by omega
   obtain rfl:i=N:=by omega
   have hfin:Hid (cosN (P ^ M) (i - n)=o):=by
    show cosN _ _=o
    unfold cosN
    have h2:=HO.out
    rw [if_pos (by omega)]
    omega
   go_wp2
   go_ret
   exact ⟨by rw [hfin.out]; rfl,hB⟩
theorem zdL {w:World} {ops:Array Oper} {o:Oper} {a:Act} {K:Act->World->Prop} {Q:Exit->Act->World->Prop} {E:Prop} (hgd:o.guard=none) (sl x:Operand)
  (ho:o.op=.call { callee:=.builtin .append,args:=#[sl,x],argTypes:=#[22, 22] })
  {base n:Nat} {v:Value} {p:Nat->Nat} (h:Own w base 3 1 v n (fun j _=>.int .i64 (p j:Nat))) (hv:a.eval sl=v) {ad:Addr} {c:Nat} {r:Nat} (hx:a.eval x=.slice (some ad) 1 c)
  (hcell:w.cell? (ad.add 0)=some (.int .i64 (r:Nat))) (hbase:base<=w.heap.size) (hN:n<=1048576)
  (K':∀ v' w',Own w' base 3 1 v' (n+1) (fun j _=>.int .i64 ((if j=n then r else p j:Nat):Nat))->w.grownBy w' v.ownBlock->(v'.ownBlock=v.ownBlock∨v'.ownBlock=some w.heap.size)->K (a.put o.dst v') w') :
  if Region.wanted o (yielded ops a.tmps)=true then Oper.wp Tryz.prog o a w K Q else E:=by
 obtain ⟨i0,qi0,qz0,qz1,qz2⟩:=info_parts Tryz.infoInt
 exact zdQ w hgd sl x _ ho base 3 i0 _ 1 8 Tryz.underlying22 qi0 qz0 qz1 qz2 rfl (by omega) v n _ hv (h.congr fun i hi j _=>by rw [if_neg (by omega)]) ad c hx (fun j hj=>by
   obtain rfl:j=0:=by omega
   rw [if_pos rfl]
   exact hcell) (fun _ _=>rfl) (by unfold maxLen; omega) (by omega) hbase K'
def SynPost (P M:Nat) (m:Nat->Nat) (N n:Nat) (V:Nat->Nat->Nat) (l:Nat) (u:Nat->Int) (w:World) (e:Ending) (w':World):Prop :=
 Below w.heap.size w w'/\∃ v:Int,FirstErr (WordErrs (P ^ M) N l u) v/\((v≠0/\e=.returned (.tuple #[.slice none 0 0,.int .i64 v])) ∨
  (v=0/\∃ (a:Nat) (W:Nat->Nat->Nat) (s:Value),NullRel (P ^ M) (addF P M) (mulF P M m) (negF P M) n N V a W/\e=.returned (.tuple #[s,.int .i64 0]) /\
   Own w' w.heap.size 3 1 s a (fun i _=>.int .i64 (dotN (addF P M) (mulF P M m) (fun j=>(u j).toNat) (W i) N:Nat))))
theorem zjc (P M:Nat) (m:Nat->Nat) (A:Option Addr) (k c N:Nat) (T:Option Addr) (n d:Nat) (V:Nat->Nat->Nat) (U:Option Addr) (l uc:Nat) (u:Nat->Int) (w:World) (h:CodeR w P M m A k N T n V) (hu:IntsR w w.heap.size U l u) (hn:l<=9223372036854775807) :
  Calls Tryz.prog 94 #[.agg #[.int .i64 (P:Nat),.int .i64 (M:Nat),.slice A k c,.int .i64 (N:Nat),.slice T n d],.slice U l uc] w (SynPost P M m N n V l u w):=by
 have HC:=hid h
 have HU:=hid hu
 have hN:=h.ln2
 have hfo:=h.fld.1
 have HF:=hid h.fld
 clear h hu
 have rf:=zao (w:=w) (a:=.int .i64 (P:Nat)) (b:=.int .i64 (M:Nat)) (c:=.slice A k c) (d:=.int .i64 (N:Nat)) (e:=.slice T n d) (T := 27)
 have hB:Below w.heap.size w (w.alloc (.cells #[.int .i64 (P:Nat),.int .i64 (M:Nat),.slice A k c,.int .i64 (N:Nat),.slice T n d] 27)):=(Below.refl _ _).alloc (Nat.le_refl _) _
 obtain ⟨w1,hw1⟩:∃ W,W=w.alloc (.cells #[.int .i64 (P:Nat),.int .i64 (M:Nat),.slice A k c,.int .i64 (N:Nat),.slice T n d] 27):=⟨_,rfl⟩
 rw [<-hw1] at hB rf
 go_enter Tryz.func94, Tryz.ntmps94
 go_upto_region 1 with fail
 rw [<-hw1];clear hw1
 have q0:=qc0 rf
 have q1:=qc1 rf
 have q2:=qc2 rf
 have q3:=qc3 rf
 have q4:=qc4 rf
 go_wp2_with fail
 refine (zil P M m A k c N T n d V U l uc u w1 (HC.out.on hB) (HU.out.on hB) hn).mono ?_
 rintro e w2 ⟨v,rfl,hv,kb⟩
 have HV:=hid hv
 replace rf:=zaa rf kb;replace hB:=onS hB kb;clear kb hv q0 q1 q2 q3 q4
 by_cases hv0:v=0
 ·subst hv0
  have HLN:Hid (l=N/\AllIn (P ^ M) l u):=by
   rcases HV.out with ⟨_,h9⟩ | ⟨h1,⟨_,h9⟩ | ⟨h2,_⟩⟩
   ·cases h9
   ·cases h9
   ·exact ⟨h1,h2⟩
  have q0:=qc0 rf
  have q1:=qc1 rf
  have q2:=qc2 rf
  have q3:=qc3 rf
  have q4:=qc4 rf
  go_wp2_with fail
  refine (ze2 P M m A k c N T n d V w2 (HC.out.on hB)).mono ?_
  rintro e w3 ⟨lv,a,W,rfl,hM,kb,hrel⟩
  replace rf:=zaa rf kb;replace hB:=onS hB kb
  have HREL:=hid hrel
  obtain ⟨p,hE⟩:=hrel.rref
  have haN:a<=N:=hE.le_c
  have HWL:=hid hE.lt
  have HM:=hid hM
  have HSZ:=hid hB.size
  obtain ⟨LA,lc,hlv⟩:=hM.shape
  subst hlv
  clear kb hM hrel hE q0 q1 q2 q3 q4
  have HRF:=hid rf
  have HB3:=hid hB
  obtain ⟨w9,hw9⟩:∃ W,W=w3:=⟨_,rfl⟩
  go_wp2
  clear hw9 w9 rf hB
  go_loopg [8,9] a (fun gg sv iv wx=>∃ i:Nat,iv=.int .i64 (i:Nat)/\i<=a/\a<=i+gg/\Own wx w3.heap.size 3 1 sv i (fun j _=>.int .i64 (dotN (addF P M) (mulF P M m) (fun j=>(u j).toNat) (W j) N:Nat))/\Below w3.heap.size w3 wx)
  case atStart=>exact ⟨0,rfl,by omega,by omega,Own.nil _ _ _ _ _,Below.refl _ _⟩
  case round =>
   obtain ⟨i,rfl,hi,hig,hO,hB⟩:=hrel
   have hi0:(0:Int)<=(i:Int):=by omega
   obtain ⟨SA,sc,hsv⟩:=hO.shape
   subst hsv
   by_cases hlt:i<a
   ·have hlt':(i:Int)<(a:Int):=by omega
    obtain ⟨tb,to0,RA,rc,hTe,htb0,htb,t0,_,hrow⟩:=HM.out.row hlt
    subst hTe
    have HROW:=hid hrow
    have HO:=hid hO
    have HT0:=hid t0
    replace t0:=cellS hB t0
    have rf:=zaa HRF.out hB
    have q0:=qc0 rf
    have q1:=qc1 rf
    have q2:=qc2 rf
    obtain ⟨w4,hw4⟩:∃ X,X=wr:=⟨_,rfl⟩
    subst hw4
    clear hrow hO
    go_wp2
    refine wp_region_held_drew (S:=fun w'=>w'.cell? ⟨w.heap.size,0,none⟩=some (.int .i64 (P:Nat))/\w'.cell? ⟨w.heap.size,1,none⟩=some (.int .i64 (M:Nat))/\w'.cell? ⟨w.heap.size,2,none⟩=some (.slice A k c)/\w'.cell? ⟨tb,to0+i,none⟩=some (.slice RA N rc)) (by kernel_rfl) ⟨cellS (Below.refl _ _).drew q0,cellS (Below.refl _ _).drew q1,cellS (Below.refl _ _).drew q2,cellS (Below.refl _ _).drew t0⟩ (fun hHeld=>?_)
    obtain ⟨w5,hw⟩:∃ W,W=World.drew w4:=⟨_,rfl⟩
    have kb:Below w4.heap.size w4 w5:=by rw [hw]; exact (Below.refl _ _).drew
    rw [<-hw] at hHeld ⊢;clear hw;replace rf:=zaa rf kb;replace hB:=onS hB kb;replace t0:=cellS kb t0;replace HO:=hid (HO.out.on kb);clear kb q0 q1 q2
    refine tkq 0 (h:=tkq 1 (h:=tkq 2 (h:=tkq 3 (h:=tkq 4 (h:=tkq 5 (h:=tkq 6 (h:=tkq 7 (h:=?_))))))))
    refine rdq 8 (h:=fun K hK=>?_)
    go_simp
    go_wp2_with fail
    have hln:=HLN.out.1
    have hin:=HLN.out.2
    have hB0:=onS HB3.out hB
    have huR:IntsR w5 w5.heap.size U N (fun i=>(((u i).toNat:Nat):Int)):=by
     rw [<-hln]
     exact (HU.out.on hB0).congr fun i hi=>by have:=(hin i hi).1; show u i=(((u i).toNat:Nat):Int); omega
    have huq:∀ i,i<N->(u i).toNat<P ^ M:=fun i hi=>by have:=hin i (by omega); omega
    subst hln
    refine (zjb P M A k c m l U (RA) uc rc (fun j=>(u j).toNat) (W i) w5 HF.out (HC.out.on hB0).mod (HC.out.km) huR ((HROW.out.on hB).rd rfl) huq (fun j hj=>HWL.out i hlt j hj) (by omega)).mono ?_
    rintro e w6 ⟨rfl,kb⟩
    obtain ⟨x,hx⟩:∃ x,x=dotN (addF P M) (mulF P M m) (fun j=>(u j).toNat) (W i) l:=⟨_,rfl⟩
    rw [<-hx]
    have HX:=hid hx
    clear hx huR huq hin hB0;replace rf:=zaa rf kb;replace hB:=onS hB kb;replace t0:=cellS kb t0;replace HO:=hid (HO.out.on kb);clear kb HROW
    refine bkq hK ⟨qc0 rf,qc1 rf,qc2 rf,t0⟩ (h:=fun hHeld=>?_)
    clear hK K
    refine rdq 9 (h:=fun K hK=>?_)
    go_simp
    obtain ⟨w7,hw⟩:∃ W,W=World.alloc w6 (Obj.cells #[.int .i64 (x:Nat)] 3):=⟨_,rfl⟩
    have kb:Below w6.heap.size w6 w7:=by rw [hw]; exact (Below.refl _ _).alloc (Nat.le_refl _) _
    have HCX:Hid (w7.cell? ((⟨w6.heap.size,0,none⟩:Addr).add 0)=some (.int .i64 (x:Nat))):=by rw [hw]; exact tbox2
    rw [<-hw];clear hw;replace rf:=zaa rf kb;replace hB:=onS hB kb;replace t0:=cellS kb t0;replace HO:=hid (HO.out.on kb);clear kb
    refine bkq hK ⟨qc0 rf,qc1 rf,qc2 rf,t0⟩ (h:=fun hHeld=>?_)
    clear hK K
    refine rdq 10 (h:=fun K hK=>?_)
    refine zdL rfl (.tmp 24) (.tmp 33) rfl HO.out rfl (ad:=⟨w6.heap.size,0,none⟩) (c:=1) rfl HCX.out hB.size (by omega) ?_
    intro v9 w8 o1 o2 o3
    have HO9:=hid (o1.congr (f':=fun j _=>.int .i64 (dotN (addF P M) (mulF P M m) (fun j=>(u j).toNat) (W j) l:Nat)) fun j hj q _=>by
     by_cases e:j=i
     ·subst e; rw [if_pos rfl,HX.out]
     ·rw [if_neg e])
    have hB9:=hB.grown o2 hB.size (fun q e=>(HO.out.lt q e).1)
    have rf9:=zaa HRF.out hB9
    have t9:=cellS hB9 HT0.out
    obtain ⟨SA2,sc2,hsv⟩:=HO9.out.shape
    subst hsv
    refine bkq hK ⟨qc0 rf9,qc1 rf9,qc2 rf9,t9⟩ (h:=fun hHeld=>?_)
    clear hK K o1 o2 o3 rf t0 hB
    refine tkq 11 (h:=?_)
    refine wpAnyH_done (by kernel_rfl) ?_ _
    clear hHeld rf9 t9
    go_wp2
    go_roundg (gk - 1)
    case measure=>omega
    case rel=>exact ⟨i+1,by go_num,by omega,by omega,HO9.out,hB9⟩
   ·obtain rfl:i=a:=by omega
    have hlt':¬ (i:Int)<(i:Int):=by omega
    have hB0:=onS HB3.out hB
    have HO:=hid (hO.mono HSZ.out)
    clear hO
    go_wp2
    go_ret2
    exact ⟨hB0,0,HV.out,.inr ⟨rfl,i,W,_,HREL.out,rfl,HO.out⟩⟩
 ·have hvn:(v != 0)=true:=by simpa using hv0
  have HV0:=hid hv0
  clear hv0 rf
  go_wp2
  go_ret2
  exact ⟨hB,v,HV.out,.inl ⟨HV0.out,rfl⟩⟩
end Go.Proofs.YtioagplajkoohaaGreat