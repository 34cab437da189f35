/- Merged texts of a claim: MOpen, MCano, MKer, Spc, SpOpen, PCode, PDual, ExpN, Right, LeadPl, RecMath, RecFirst, RecRed, RecFrom, Recover, FallsPl, RefRec, AppMany, RestPl, SpanPl, Rank47, RankPl. -/
import Derived.Test.YtgekjfpapmlndaaGreatTM1
import Derived.Test.YtgekjfpapmlndaaGreatTM2
import Derived.Test.YtgekjfpapmlndaaGreatTM3
import Derived.Test.YtgekjfpapmlndaaGreatTM6
import Derived.Test.YtgekjfpapmlndaaGreatTM7
namespace Go.Proofs.YtgekjfpapmlndaaGreat
set_option maxRecDepth 100000
set_option maxHeartbeats 32000000
open KA KB KC KE KF
open Go.RowKit
def MOpenPost (P M:Int) (k:Nat) (f:Nat->Int) (cols:Int) (n:Nat) (ln:Nat->Nat) (V:Nat->Nat->Int) (w:World) (e:Ending) (w':World):Prop :=
 Below w.heap.size w w'/\∃ v:Int,FirstErr [(GoodF P M k f,1),(ShapeM cols n ln,3),(ElemsM (P.toNat ^ M.toNat) n ln V,2)] v /\
  ((v≠0/\e=.returned (.tuple #[.pointer none,.int .i64 v])) ∨
   (v=0/\∃ g P' M':Nat,P=P'/\M=M'/\e=.returned (.tuple #[.pointer (some ⟨g,0,none⟩),.int .i64 0])/\GF w' w'.heap.size g P' M' (fun i=>(f i).toNat)))
theorem zhl (P M:Int) (A:Option Addr) (k c:Nat) (f:Nat->Int) (cols:Int) (T:Option Addr) (n d lb lc:Nat) (ln:Nat->Nat) (V:Nat->Nat->Int) (w:World) (hr:IntsR w w.heap.size A k f) (h:IntRows w T n ln V)
  (hl0:w.cell? ⟨lb,0,none⟩=some (.int .i64 cols)) (hl1:w.cell? ⟨lb,1,none⟩=some (.slice T n d)) :
  Calls Tryz.prog 204 #[.agg #[.int .i64 P,.int .i64 M,.slice A k c],.slice (some ⟨lb,0,none⟩) 1 lc] w (MOpenPost P M k f cols n ln V w):=by
 have HR:=hid hr
 have HT:=hid h
 have HL0:=hid hl0
 have HL1:=hid hl1
 have hlb:=World.block_lt_of_cell? w _ hl0
 have hlb:lb<w.heap.size:=hlb
 clear hr h hl0 hl1
 have hB:Below w.heap.size w (w.alloc (.cells #[.int .i64 P,.int .i64 M,.slice A k c] 24)):=(Below.refl _ _).alloc (Nat.le_refl _) _
 have rf:=zaf (w:=w) (a:=.int .i64 P) (b:=.int .i64 M) (c:=.slice A k c) (T := 24)
 obtain ⟨w0,hw0⟩:∃ W,W=w.alloc (.cells #[.int .i64 P,.int .i64 M,.slice A k c] 24):=⟨_,rfl⟩
 rw [<-hw0] at hB rf
 go_enter Tryz.func204, Tryz.ntmps204
 go_upto_region 1 with fail
 rw [<-hw0];clear hw0
 have q0:=qc0 rf
 have q1:=qc1 rf
 have q2:=qc2 rf
 go_wp2_with fail
 refine (zbP P M A k c f w0 (HR.out.on hB)).mono ?_
 rintro e w1 ⟨kb,hN⟩
 have HB:=hid (onS hB kb)
 clear hB kb rf q0 q1 q2
 rcases hN with ⟨hno,rfl⟩ | ⟨hyes,g,P,M,rfl,rfl,rfl,_,hG⟩
 ·have hf:Hid (FirstErr [(GoodF P M k f,1),(ShapeM cols n ln,3),(ElemsM (P.toNat ^ M.toNat) n ln V,2)] 1):=.inl ⟨hno,rfl⟩
  clear hno
  go_wp2
  go_ret2
  exact ⟨HB.out,1,hf.out,.inl ⟨by omega,rfl⟩⟩
 ·have HG:=hid hG.gf
  have hok:Hid (∀ {v:Int},FirstErr [(ShapeM cols n ln,3),(ElemsM (P ^ M) n ln V,2)] v->FirstErr [(GoodF (P:Int) (M:Int) k f,1),(ShapeM cols n ln,3),(ElemsM ((P:Int).toNat ^ (M:Int).toNat) n ln V,2)] v):=fun h=>.inr ⟨hyes,by rw [Int.toNat_natCast,Int.toNat_natCast]; exact h⟩
  clear hG hyes
  go_wp2
  go_loopg [20] 1 (fun gg iv wx=>∃ i:Nat,iv=.int .i64 (i:Nat)/\i<=1/\1<=i+gg/\Hid (i=1->FirstErr [(ShapeM cols n ln,3),(ElemsM (P ^ M) n ln V,2)] 0)/\Hid (Below w1.heap.size w1 wx)/\Hid (Below w.heap.size w wx))
  case atStart=>exact ⟨0,rfl,by omega,by omega,fun h=>absurd h (by omega),Below.refl _ _,HB⟩
  case round =>
   clear HB
   obtain ⟨i,rfl,hi,hig,HE,HBG,HB⟩:=hrel
   by_cases hlt:i<1
   ·obtain rfl:i=0:=by omega
    clear hlt hi
    have x0:=(HB.out.cell (p:=⟨lb,0,none⟩) hlb).trans HL0.out
    have x1:=(HB.out.cell (p:=⟨lb,1,none⟩) hlb).trans HL1.out
    go_upto_region 7 with fail
    clear x0 x1
    have kb1:Below wr.heap.size wr (wr.alloc (Obj.cells #[.int .i64 cols,.slice T n d] 106)):=(Below.refl _ _).alloc (Nat.le_refl _) _
    have rm:=zaB (w:=wr) (a:=.int .i64 cols) (b:=.slice T n d) (T := 106)
    obtain ⟨w2,hw2⟩:∃ W,W=wr.alloc (Obj.cells #[.int .i64 cols,.slice T n d] 106):=⟨_,rfl⟩
    obtain ⟨mb,hmb⟩:∃ b,b=wr.heap.size:=⟨_,rfl⟩
    rw [<-hw2] at kb1 rm ⊢;rw [<-hmb] at rm ⊢
    have HB2:=hid (onS HB.out kb1)
    have HBG2:=hid (onS HBG.out kb1)
    have z0:=qc0 rm
    have z1:=qc1 rm
    clear hw2 hmb kb1 rm HB HBG
    go_wp2_with fail
    refine (zgl P M g _ cols T n d ln V w2 (HG.out.on HBG2.out) (HT.out.on HB2.out)).mono ?_
    rintro e w3 ⟨v,rfl,hv,kb⟩
    have HB3:=hid (onS HB2.out kb)
    have HBG3:=hid (onS HBG2.out kb)
    have HV:=hid hv
    clear kb z0 z1 hv HB2 HBG2
    by_cases hv0:v=0
    ·have HE2:Hid (True->FirstErr [(ShapeM cols n ln,3),(ElemsM (P ^ M) n ln V,2)] 0):=fun _=>by rw [<-hv0]; exact HV.out
     subst hv0
     go_wp2
     go_roundg (gk - 1)
     case measure=>omega
     case rel=>exact ⟨0+1,by go_num,by omega,by omega,fun _=>HE2.out trivial,HBG3,HB3⟩
    ·have hvn:(v != 0)=true:=by simpa using hv0
     have HV0:=hid hv0
     clear hv0
     go_wp2
     go_ret2
     exact ⟨HB3.out,v,hok.out HV.out,.inl ⟨HV0.out,rfl⟩⟩
   ·obtain rfl:i=1:=by omega
    clear hlt hi
    go_wp2
    go_ret2
    exact ⟨HB.out,0,hok.out (HE.out trivial),.inr ⟨rfl,g,P,M,rfl,rfl,rfl,HG.out.on HBG.out⟩⟩
theorem zcG {w w':World} {g:Nat} {T:TypeId} {f:Nat->Value} {a b:Value} (h:w.rowIs g T 2 f) (hw:w'=(w.setCell ⟨g,0,none⟩ a).setCell ⟨g,1,none⟩ b):w'.rowIs g T 2 (matCell a b)/\w.grownBy w' (some g):=by
 rw [hw]
 refine ⟨((h.set 0 _).set 1 _).congr fun j hj=>?_,zaC (zcl _ _ _ _) _ _⟩
 match j,hj with
 | 0,_=>rfl
 | 1,_=>rfl
def MatErrs (P M:Int) (k:Nat) (f:Nat->Int) (cols:Int) (n:Nat) (ln:Nat->Nat) (V:Nat->Nat->Int):List (Prop × Int):=[(GoodF P M k f,1),(ShapeM cols n ln,3),(ElemsM (P.toNat ^ M.toNat) n ln V,2)]
def MCanonPost (P M : Int) (k : Nat) (f : Nat → Int) (cols : Int) (n : Nat) (ln : Nat → Nat) (V : Nat → Nat → Int) (w : World) (e : Ending) (w' : World) : Prop :=
 Below w.heap.size w w'/\∃ v:Int,FirstErr (MatErrs P M k f cols n ln V) v /\
  ((v≠0/\e=.returned (.tuple #[.agg #[.int .i64 0,.slice none 0 0],.slice none 0 0,.int .i64 v])) ∨
   (v=0/\∃ (P' M' C:Nat) (lv pv:Value) (a:Nat) (p:Nat->Nat) (W:Nat->Nat->Nat),P=P'/\M=M'/\cols=C/\e=.returned (.tuple #[.agg #[.int .i64 (C:Nat),lv],pv,.int .i64 0]) /\
    MTab w' w.heap.size lv a C W/\Own w' w.heap.size 3 1 pv a (fun j _=>.int .i64 (p j:Nat))/\EchN (P' ^ M') n C C a p W/\RowOps (P' ^ M') (addF P' M') (mulF P' M' fun i=>(f i).toNat) n C (natT V) W))
theorem zds (P M:Int) (A:Option Addr) (k c:Nat) (f:Nat->Int) (cols:Int) (T:Option Addr) (n d:Nat) (ln:Nat->Nat) (V:Nat->Nat->Int) (w:World) (hr:IntsR w w.heap.size A k f) (h:IntRows w T n ln V) (hc1:1<=cols) :
  Calls Tryz.prog 214 #[.agg #[.int .i64 P,.int .i64 M,.slice A k c],.agg #[.int .i64 cols,.slice T n d]] w (MCanonPost P M k f cols n ln V w):=by
 have HR:=hid hr
 have HT:=hid h
 clear hr h
 have rf:=zaf (w:=w) (a:=.int .i64 P) (b:=.int .i64 M) (c:=.slice A k c) (T := 24)
 have hB:Below w.heap.size w (w.alloc (.cells #[.int .i64 P,.int .i64 M,.slice A k c] 24)):=(Below.refl _ _).alloc (Nat.le_refl _) _
 have hsz:(w.alloc (.cells #[.int .i64 P,.int .i64 M,.slice A k c] 24)).heap.size=w.heap.size+1:=by simp
 obtain ⟨w0,hw0⟩:∃ W,W=w.alloc (.cells #[.int .i64 P,.int .i64 M,.slice A k c] 24):=⟨_,rfl⟩
 have rm:=zaB (w:=w0) (a:=.int .i64 cols) (b:=.slice T n d) (T := 106)
 have kb:Below w0.heap.size w0 (w0.alloc (.cells #[.int .i64 cols,.slice T n d] 106)):=(Below.refl _ _).alloc (Nat.le_refl _) _
 have hsz1:(w0.alloc (.cells #[.int .i64 cols,.slice T n d] 106)).heap.size=w0.heap.size+1:=by simp
 obtain ⟨w1,hw1⟩:∃ W,W=w0.alloc (.cells #[.int .i64 cols,.slice T n d] 106):=⟨_,rfl⟩
 have ro:=zaB (w:=w1) (a:=.int .i64 0) (b:=.slice none 0 0) (T := 106)
 have kb2:Below w1.heap.size w1 (w1.alloc (.cells #[.int .i64 0,.slice none 0 0] 106)):=(Below.refl _ _).alloc (Nat.le_refl _) _
 obtain ⟨w2,hw2⟩:∃ W,W=w1.alloc (.cells #[.int .i64 0,.slice none 0 0] 106):=⟨_,rfl⟩
 rw [<-hw0] at hB rf hsz;rw [<-hw1] at rm kb hsz1;rw [<-hw2] at ro kb2;rw [hsz1,hsz] at ro;rw [hsz] at rm;replace rf:=zab (zab rf kb) kb2;replace rm:=zab rm kb2;replace hB:=onS (onS hB kb) kb2
 go_enter Tryz.func214, Tryz.ntmps214
 go_upto_region 1 with fail
 rw [<-hw0,<-hw1,<-hw2];clear hw0 hw1 hw2 kb kb2 hsz hsz1
 obtain ⟨b0,hb0⟩:∃ b,b=w.heap.size:=⟨_,rfl⟩
 obtain ⟨b1,hb1⟩:∃ b,b=w.heap.size+1:=⟨_,rfl⟩
 obtain ⟨b2,hb2⟩:∃ b,b=w.heap.size+1+1:=⟨_,rfl⟩
 have hb2w:w.heap.size<=b2:=by omega
 rw [<-hb0] at rf;rw [<-hb1] at rm;rw [<-hb2] at ro;rw [<-hb2,<-hb1,<-hb0];clear hb0 hb1 hb2
 have q0:=qc0 rf
 have q1:=qc1 rf
 have q2:=qc2 rf
 have p0:=qc0 rm
 have p1:=qc1 rm
 go_wp2_with fail
 have kb3:Below w2.heap.size w2 (w2.alloc (Obj.cells #[.int .i64 cols,.slice T n d] 106)):=(Below.refl _ _).alloc (Nat.le_refl _) _
 have rl:=zaB (w:=w2) (a:=.int .i64 cols) (b:=.slice T n d) (T := 106)
 obtain ⟨w3,hw3⟩:∃ W,W=w2.alloc (Obj.cells #[.int .i64 cols,.slice T n d] 106):=⟨_,rfl⟩
 rw [<-hw3] at kb3 rl ⊢;replace hB:=onS hB kb3;replace rf:=zab rf kb3;replace rm:=zab rm kb3;replace ro:=zab ro kb3;clear hw3 kb3 q0 q1 q2 p0 p1
 refine (zhl P M A k c f cols T n d w2.heap.size 1 ln V w3 (HR.out.on hB) (HT.out.on hB) (rl.cell (i:=0) (by omega)) (rl.cell (i:=1) (by omega))).mono ?_
 rintro e w4 ⟨kb,v,hv,hcase⟩
 replace hB:=onS hB kb;replace rm:=zab rm kb;replace ro:=zab ro kb
 have HV:=hid hv
 clear kb rl rf hv
 rcases hcase with ⟨hv0,rfl⟩ | ⟨rfl,g,P,M,rfl,rfl,rfl,hG⟩
 ·have hvn:(v != 0)=true:=by simpa using hv0
  have HV0:=hid hv0
  clear hv0 rm
  have r0:=ro.frozen 0
  have s0:=qc0 ro
  have r1:=ro.frozen 1
  have s1:=qc1 ro
  go_wp2
  clear r0 s0 r1 s1
  generalize hw9:World.setCell _ _ _=w5
  obtain ⟨row9,hg9⟩:=zcG ro hw9.symm
  clear hw9
  have hB9:=hB.grown hg9 hB.size (fun q e=>by injection e with e; omega)
  have e0:=qc0 row9
  have e1:=qc1 row9
  refine bodyPost_ret (v:=.tuple #[.agg #[.int .i64 0,.slice none 0 0],.slice none 0 0,.int .i64 v]) (by simp [results,Tryz.results214, go_sem,e0,e1]) rfl ?_
  exact ⟨hB9,v,HV.out,.inl ⟨HV0.out,rfl⟩⟩
 ·have hok:=HV.out
  rcases hok with ⟨_,h9⟩ | ⟨hgood,⟨_,h9⟩ | ⟨hs,⟨_,h9⟩ | ⟨he,_⟩⟩⟩
  ·cases h9
  ·cases h9
  ·cases h9
  obtain ⟨C,rfl⟩:∃ C:Nat,cols=C:=⟨cols.toNat,by omega⟩
  rw [Int.toNat_natCast,Int.toNat_natCast] at he
  obtain ⟨hm,hlt⟩:=zcE (HT.out.on hB) hs he
  have hC1:0<C:=by omega
  have hC2:C<=1048576:=by have:=hs.2.1; omega
  have hn2:n<=1048576:=by have:=hs.2.2.1; omega
  have p0:=qc0 rm
  have p1:=qc1 rm
  clear hs he hgood
  go_wp2_with fail
  refine (zgk P M g _ T n d C C (natT V) w4 hG hm hlt (Nat.le_refl _) hC1 hC2 hn2).mono ?_
  rintro e w5 ⟨lv,pv,a,p,W,rfl,hMT,hP,kb,hE,hR⟩
  have HB:=hid (onS hB kb)
  have hB4:=hB.size
  replace ro:=zab ro kb
  have HE:=hid hE
  have HRO:=hid hR
  obtain ⟨LA,lc,hlv⟩:=hMT.shape
  subst hlv
  obtain ⟨PA,pc,hpv⟩:=hP.shape
  subst hpv
  replace rm:=zab rm kb
  have HM5:=hid (hMT.mono hB4)
  have HP5:=hid (hP.mono hB4)
  clear kb hMT hP hE hR hlt hm hG p0 p1 hB hB4
  have p0:=qc0 rm
  have r0:=ro.frozen 0
  have s0:=qc0 ro
  have r1:=ro.frozen 1
  have s1:=qc1 ro
  go_wp2
  clear r0 s0 r1 s1 p0 rm
  generalize hw9:World.setCell _ _ _=w6
  obtain ⟨row9,hg9⟩:=zcG ro hw9.symm
  clear hw9
  have hB9:=HB.out.grown hg9 HB.out.size (fun q e=>by injection e with e; omega)
  have hM9:=HM5.out.kept hg9 ro (by decide) (by decide)
  have hP9:=HP5.out.kept hg9 (za5 ro HP5.out (by decide))
  have e0:=qc0 row9
  have e1:=qc1 row9
  refine bodyPost_ret (v:=.tuple #[.agg #[.int .i64 (C:Nat),.slice LA a lc],.slice PA a pc,.int .i64 0]) (by simp [results,Tryz.results214, go_sem,e0,e1]) rfl ?_
  exact ⟨hB9,0,HV.out,.inr ⟨rfl,P,M,C,_,_,a,p,W,rfl,rfl,rfl,rfl,hM9,hP9,HE.out,HRO.out⟩⟩
theorem zdt (A B:Option Addr) (n m c d:Nat) (f g:Nat->Int) (w:World) (ha:IntsR w w.heap.size A n f) (hb:IntsR w w.heap.size B m g) (hn:n<=1048576) (hm:m<=1048576) :
  Calls Tryz.prog 92 #[.slice A n c,.slice B m d] w (IffPost (EqI n m f g) w):=by
 have HA:=hid ha
 have HB:=hid hb
 clear ha hb
 by_cases hnm:n=m
 ·subst hnm
  have hd:((n:Int) != (n:Int))=false:=by simp
  go_enter Tryz.func92, Tryz.ntmps92
  go_wp2
  go_loopg [13] n (fun gg iv wx=>∃ i:Nat,iv=.int .i64 (i:Nat)/\i<=n/\n<=i+gg/\Hid (∀ t,t<i->f t=g t)/\Hid (Below w.heap.size w wx))
  case atStart=>exact ⟨0,rfl,by omega,by omega,fun t ht=>absurd ht (by omega),Below.refl _ _⟩
  case round =>
   obtain ⟨i,rfl,hi,hig,HE,HW⟩:=hrel
   have hi0:(0:Int)<=(i:Int):=by omega
   by_cases hlt:i<n
   ·have hlt':(i:Int)<(n:Int):=by omega
    obtain ⟨b,o,rfl,_,x0⟩:=(HA.out.on HW.out).at hlt
    obtain ⟨b2,o2,rfl,_,y0⟩:=(HB.out.on HW.out).at hlt
    obtain ⟨x,hx⟩:∃ x,x=f i:=⟨_,rfl⟩
    obtain ⟨y,hy⟩:∃ x,x=g i:=⟨_,rfl⟩
    rw [<-hx] at x0;rw [<-hy] at y0
    by_cases he:x=y
    ·have hd2:(x != y)=false:=by simpa using he
     have HE2:Hid (∀ t,t<i+1->f t=g t):=fun t ht=>by
      by_cases e:t=i
      ·rw [e,<-hx,<-hy,he]
      ·exact HE.out t (by omega)
     clear he hx hy
     go_wp2
     go_quiet (fail)
     go_wp2
     go_roundg (gk - 1)
     case measure=>omega
     case rel=>exact ⟨i+1,by go_num,by omega,by omega,HE2,zae HW.out _⟩
    ·have hd2:(x != y)=true:=by simpa using he
     have HNO:Hid (¬ EqI n n f g):=fun h=>he (by rw [hx,hy]; exact h.2 i hlt)
     clear he hx hy
     go_wp2
     go_quiet (fail)
     go_wp2
     go_ret
     exact zau HNO.out (zae HW.out _)
   ·have hlt':¬ (i:Int)<(n:Int):=by omega
    have HY:Hid (EqI n n f g):=⟨rfl,fun t ht=>HE.out t (by omega)⟩
    go_wp2
    go_ret
    exact za3 HY.out HW.out
 ·have hd:((n:Int) != (m:Int))=true:=by simp; omega
  have HNO:Hid (¬ EqI n m f g):=fun h=>hnm h.1
  clear hnm
  go_enter Tryz.func92, Tryz.ntmps92
  go_wp2
  go_ret
  exact zau HNO.out (Below.refl _ _)
theorem zdW (A B:Option Addr) (n m c d:Nat) (ln ln':Nat->Nat) (V W:Nat->Nat->Int) (w:World) (ha:IntRows w A n ln V) (hb:IntRows w B m ln' W) (hn:n<=1048576) (hm:m<=1048576) (hl:∀ i,i<n->ln i<=1048576) (hl2:∀ i,i<m->ln' i<=1048576) :
  Calls Tryz.prog 215 #[.slice A n c,.slice B m d,.func (.func 92) #[] #[]] w (IffPost (EqT n m ln ln' V W) w):=by
 have hcf:∀ (x y:Value) (W:World),(callFunc 92 #[x,y]).run Tryz.prog W=.ok (.enter 92 #[x,y]) W:=fun _ _ _=>by kernel_rfl
 have HA:=hid ha
 have HB:=hid hb
 have HL:=hid hl
 have HL2:=hid hl2
 clear ha hb hl hl2
 by_cases hnm:n=m
 ·subst hnm
  have hd:((n:Int) != (n:Int))=false:=by simp
  go_enter Tryz.func215, Tryz.ntmps215
  go_wp2
  go_loopg [17] n (fun gg iv wx=>∃ i:Nat,iv=.int .i64 (i:Nat)/\i<=n/\n<=i+gg/\Hid (∀ t,t<i->EqI (ln t) (ln' t) (V t) (W t))/\Hid (Below w.heap.size w wx))
  case atStart=>exact ⟨0,rfl,by omega,by omega,fun t ht=>absurd ht (by omega),Below.refl _ _⟩
  case round =>
   obtain ⟨i,rfl,hi,hig,HE,HW⟩:=hrel
   have hi0:(0:Int)<=(i:Int):=by omega
   by_cases hlt:i<n
   ·have hlt':(i:Int)<(n:Int):=by omega
    obtain ⟨b,o,RA,rc,rfl,_,x0,_,_,hrow,_⟩:=(HA.out.on HW.out) i hlt
    obtain ⟨b2,o2,RB,rc2,rfl,_,y0,_,_,hrow2,_⟩:=(HB.out.on HW.out) i hlt
    have H1:=hid hrow
    have H2:=hid hrow2
    clear hrow hrow2
    go_wp2_with fail
    refine (zdt RA RB (ln i) (ln' i) rc rc2 (V i) (W i) wr H1.out H2.out (HL.out i hlt) (HL2.out i hlt)).mono ?_
    rintro e w2 ⟨b,rfl,hb,kb⟩
    have HB2:=hid (onS HW.out kb)
    have HBB:=hid hb
    clear kb hb x0 y0 H1 H2 HW
    cases b
    ·have HNO:Hid (¬ EqT n n ln ln' V W):=fun h=>by have:=HBB.out.2 (h.2 i hlt); cases this
     go_wp2
     go_ret
     exact zau HNO.out HB2.out
    ·have HE2:Hid (∀ t,t<i+1->EqI (ln t) (ln' t) (V t) (W t)):=fun t ht=>by
      by_cases e:t=i
      ·rw [e]; exact HBB.out.1 rfl
      ·exact HE.out t (by omega)
     go_wp2
     go_roundg (gk - 1)
     case measure=>omega
     case rel=>exact ⟨i+1,by go_num,by omega,by omega,HE2,HB2⟩
   ·have hlt':¬ (i:Int)<(n:Int):=by omega
    have HY:Hid (EqT n n ln ln' V W):=⟨rfl,fun t ht=>HE.out t (by omega)⟩
    go_wp2
    go_ret
    exact za3 HY.out HW.out
 ·have hd:((n:Int) != (m:Int))=true:=by simp; omega
  have HNO:Hid (¬ EqT n m ln ln' V W):=fun h=>hnm h.1
  clear hnm
  go_enter Tryz.func215, Tryz.ntmps215
  go_wp2
  go_ret
  exact zau HNO.out (Below.refl _ _)
def viewCell (a b c d:Value) (i:Nat):Value:=if i=0 then a else if i=1 then b else if i=2 then c else d
theorem KD.qc0 {w:World} {g:Nat} {T:TypeId} {a b c d:Value} (h:w.rowIs g T 4 (viewCell a b c d)) : w.cell? ⟨g,0,none⟩=some a:=h.cell (i:=0) (by decide)
theorem KD.qc1 {w:World} {g:Nat} {T:TypeId} {a b c d:Value} (h:w.rowIs g T 4 (viewCell a b c d)) : w.cell? ⟨g,1,none⟩=some b:=h.cell (i:=1) (by decide)
theorem KD.qc2 {w:World} {g:Nat} {T:TypeId} {a b c d:Value} (h:w.rowIs g T 4 (viewCell a b c d)) : w.cell? ⟨g,2,none⟩=some c:=h.cell (i:=2) (by decide)
theorem KD.qc3 {w:World} {g:Nat} {T:TypeId} {a b c d:Value} (h:w.rowIs g T 4 (viewCell a b c d)) : w.cell? ⟨g,3,none⟩=some d:=h.cell (i:=3) (by decide)
open KD
theorem zfl {w:World} {a b c d:Value} {T:TypeId}:(w.alloc (.cells #[a,b,c,d] T)).rowIs w.heap.size T 4 (viewCell a b c d) :=
 ⟨_,zax rfl,rfl,fun i hi=>by
  rcases (show i=0∨i=1∨i=2∨i=3 by omega) with rfl | rfl | rfl | rfl <;> rfl⟩
theorem zcH {w w':World} {g:Nat} {T:TypeId} {f:Nat->Value} {a b c d:Value} (h:w.rowIs g T 4 f) (hw:w'=(((w.setCell ⟨g,0,none⟩ a).setCell ⟨g,1,none⟩ b).setCell ⟨g,2,none⟩ c).setCell ⟨g,3,none⟩ d):w'.rowIs g T 4 (viewCell a b c d)/\w.grownBy w' (some g):=by
 rw [hw]
 refine ⟨((((h.set 0 _).set 1 _).set 2 _).set 3 _).congr fun j hj=>?_,zaC (zaC (zaC (zcl _ _ _ _) _ _) _ _) _ _⟩
 match j,hj with
 | 0,_=>rfl
 | 1,_=>rfl
 | 2,_=>rfl
 | 3,_=>rfl
def SOpenPost (P M : Int) (k : Nat) (f : Nat → Int) (cols : Nat) (T : Option Addr) (n d : Nat) (ln : Nat → Nat) (V : Nat → Nat → Int) (w : World) (e : Ending) (w' : World) : Prop :=
 Below w.heap.size w w'/\∃ v:Int,FirstErr (SpaceErrs P M k f cols n ln V) v /\
  ((v≠0/\e=.returned (.tuple #[.agg #[.pointer none,.int .i64 0,.slice none 0 0,.slice none 0 0],.int .i64 v])) ∨
   (v=0/\∃ (P' M' C g:Nat) (pv:Value) (p:Nat->Nat),P=P'/\M=M'/\cols=C/\e=.returned (.tuple #[.agg #[.pointer (some ⟨g,0,none⟩),.int .i64 (C:Nat),.slice T n d,pv],.int .i64 0]) /\
    GF w' w'.heap.size g P' M' (fun i=>(f i).toNat)/\Own w' w.heap.size 3 1 pv n (fun j _=>.int .i64 (p j:Nat))/\EchN (P' ^ M') n C C n p (natT V)))
theorem zfm {q n k a:Nat} {p:Nat->Nat} {V W:Nat->Nat->Nat} (hE:EchN q n k k a p W) (h:a=n/\∀ i,i<a->∀ j,j<k->W i j=V i j):EchN q n k k n p V:=by
 obtain ⟨rfl,h2⟩:=h
 exact hE.congr (Nat.le_refl _) h2
theorem zhm (P M:Int) (A:Option Addr) (k c:Nat) (f:Nat->Int) (cols:Nat) (T:Option Addr) (n d:Nat) (ln:Nat->Nat) (V:Nat->Nat->Int) (w:World) (hr:IntsR w w.heap.size A k f) (h:IntRows w T n ln V) (hc1:1<=cols) :
  Calls Tryz.prog 166 #[.agg #[.int .i64 P,.int .i64 M,.slice A k c],.agg #[.int .i64 (cols:Nat),.slice T n d]] w (SOpenPost P M k f cols T n d ln V w):=by
 have HR:=hid hr
 have HT:=hid h
 clear hr h
 have rf:=zaf (w:=w) (a:=.int .i64 P) (b:=.int .i64 M) (c:=.slice A k c) (T := 24)
 have hB:Below w.heap.size w (w.alloc (.cells #[.int .i64 P,.int .i64 M,.slice A k c] 24)):=(Below.refl _ _).alloc (Nat.le_refl _) _
 have hsz:(w.alloc (.cells #[.int .i64 P,.int .i64 M,.slice A k c] 24)).heap.size=w.heap.size+1:=by simp
 obtain ⟨w0,hw0⟩:∃ W,W=w.alloc (.cells #[.int .i64 P,.int .i64 M,.slice A k c] 24):=⟨_,rfl⟩
 have rm:=zaB (w:=w0) (a:=.int .i64 (cols:Nat)) (b:=.slice T n d) (T := 106)
 have kb:Below w0.heap.size w0 (w0.alloc (.cells #[.int .i64 (cols:Nat),.slice T n d] 106)):=(Below.refl _ _).alloc (Nat.le_refl _) _
 have hsz1:(w0.alloc (.cells #[.int .i64 (cols:Nat),.slice T n d] 106)).heap.size=w0.heap.size+1:=by simp
 obtain ⟨w1,hw1⟩:∃ W,W=w0.alloc (.cells #[.int .i64 (cols:Nat),.slice T n d] 106):=⟨_,rfl⟩
 have ro:=zfl (w:=w1) (a:=.pointer none) (b:=.int .i64 0) (c:=.slice none 0 0) (d:=.slice none 0 0) (T := 196)
 have kb2:Below w1.heap.size w1 (w1.alloc (.cells #[.pointer none,.int .i64 0,.slice none 0 0,.slice none 0 0] 196)):=(Below.refl _ _).alloc (Nat.le_refl _) _
 obtain ⟨w2,hw2⟩:∃ W,W=w1.alloc (.cells #[.pointer none,.int .i64 0,.slice none 0 0,.slice none 0 0] 196):=⟨_,rfl⟩
 rw [<-hw0] at hB rf hsz;rw [<-hw1] at rm kb hsz1;rw [<-hw2] at ro kb2;rw [hsz1,hsz] at ro;rw [hsz] at rm;replace rf:=zab (zab rf kb) kb2;replace rm:=zab rm kb2;replace hB:=onS (onS hB kb) kb2
 go_enter Tryz.func166, Tryz.ntmps166
 go_upto_region 1 with fail
 rw [<-hw0,<-hw1,<-hw2];clear hw0 hw1 hw2 kb kb2 hsz hsz1
 obtain ⟨b0,hb0⟩:∃ b,b=w.heap.size:=⟨_,rfl⟩
 obtain ⟨b1,hb1⟩:∃ b,b=w.heap.size+1:=⟨_,rfl⟩
 obtain ⟨b2,hb2⟩:∃ b,b=w.heap.size+1+1:=⟨_,rfl⟩
 have hb2w:w.heap.size<=b2:=by omega
 rw [<-hb0] at rf;rw [<-hb1] at rm;rw [<-hb2] at ro;rw [<-hb2,<-hb1,<-hb0];clear hb0 hb1 hb2
 have q0:=qc0 rf
 have q1:=qc1 rf
 have q2:=qc2 rf
 have p0:=qc0 rm
 have p1:=qc1 rm
 go_wp2_with fail
 have hB2:=hB.size
 refine (zds P M A k c f (cols:Int) T n d ln V w2 (HR.out.on hB) (HT.out.on hB) (by omega)).mono ?_
 rintro e w4 ⟨kb,v,hv,hcase⟩
 replace hB:=onS hB kb;replace rf:=zab rf kb;replace rm:=zab rm kb;replace ro:=zab ro kb
 have HV:=hid hv
 clear kb hv q0 q1 q2 p0 p1
 rcases hcase with ⟨hv0,rfl⟩ | ⟨rfl,P,M,C,lv,pv,a,p,W,rfl,rfl,hCe,rfl,hMT,hP,hE,hRo⟩
 ·have hvn:(v != 0)=true:=by simpa using hv0
  have HV0:=hid hv0
  have HP9:=hid (FirstErr.app (r:=[(RrefN (P.toNat ^ M.toNat) n cols (natT V),5)]) (u:=v) (by simp) (show FirstErr [(GoodF P M k f,1),(ShapeM cols n ln,3),(ElemsM (P.toNat ^ M.toNat) n ln V,2)] v from HV.out) (fun _=>rfl) (fun h=>absurd h hv0))
  clear hv0 rm rf
  go_upto_region 2 with fail
  have kb1:Below w4.heap.size w4 (w4.alloc (Obj.cells #[.int .i64 0,.slice none 0 0] 106)):=(Below.refl _ _).alloc (Nat.le_refl _) _
  obtain ⟨w5,hw5⟩:∃ W,W=w4.alloc (Obj.cells #[.int .i64 0,.slice none 0 0] 106):=⟨_,rfl⟩
  rw [<-hw5] at kb1 ⊢;replace hB:=onS hB kb1;replace ro:=zab ro kb1;clear hw5 kb1
  have r0:=ro.frozen 0
  have s0:=qc0 ro
  have r1:=ro.frozen 1
  have s1:=qc1 ro
  have r2:=ro.frozen 2
  have s2:=qc2 ro
  have r3:=ro.frozen 3
  have s3:=qc3 ro
  go_wp2
  clear r0 s0 r1 s1 r2 s2 r3 s3
  generalize hw9:World.setCell _ _ _=w6
  obtain ⟨row9,hg9⟩:=zcH ro hw9.symm
  clear hw9
  have hB9:=hB.grown hg9 hB.size (fun q e=>by injection e with e; omega)
  have e0:=qc0 row9
  have e1:=qc1 row9
  have e2:=qc2 row9
  have e3:=qc3 row9
  refine bodyPost_ret (v:=.tuple #[.agg #[.pointer none,.int .i64 0,.slice none 0 0,.slice none 0 0],.int .i64 v]) (by simp [results,Tryz.results166, go_sem,e0,e1,e2,e3]) rfl ?_
  exact ⟨hB9,v,by simpa [SpaceErrs] using HP9.out,.inl ⟨HV0.out,rfl⟩⟩
 ·obtain rfl:C=cols:=by omega
  clear hCe
  have hok:=HV.out
  rcases hok with ⟨_,h9⟩ | ⟨hgood,⟨_,h9⟩ | ⟨hs,⟨_,h9⟩ | ⟨he,_⟩⟩⟩
  ·cases h9
  ·cases h9
  ·cases h9
  rw [Int.toNat_natCast,Int.toNat_natCast] at he
  have HMV:=hid (zcE (HT.out.on hB) hs he).1
  have HLT:=hid (zcE (HT.out.on hB) hs he).2
  have hC2:C<=256:=by have:=hs.2.1; omega
  have hn2:n<=256:=by have:=hs.2.2.1; omega
  have han:=hE.le
  have HGO:=hid hgood
  have HCA:=hid (zdS (fieldLaws hgood.field.1) HLT.out hE hRo)
  have HPP:=hid (fun h=>zfm (V:=natT V) hE h)
  have HLNS:Hid (∀ i,i<n->ln i=C):=fun i hi=>by have:=hs.2.2.2 i hi; omega
  have HMW0:=hMT.shape
  obtain ⟨LA,lc,hlv⟩:=HMW0
  subst hlv
  obtain ⟨PA,pc,hpv⟩:=hP.shape
  subst hpv
  have hq256:=hgood.field.1.1.2.2.2
  have HMW:=hid (hMT.rd (q:=P ^ M) hq256 fun i hi=>hE.lt i (by omega))
  have HPO:=hid hP
  clear hMT hP hE hRo hs he hgood
  go_upto_region 2 with fail
  have kb1:Below w4.heap.size w4 (w4.alloc (Obj.cells #[.int .i64 (C:Nat),.slice LA a lc] 106)):=(Below.refl _ _).alloc (Nat.le_refl _) _
  have rl:=zaB (w:=w4) (a:=.int .i64 (C:Nat)) (b:=.slice LA a lc) (T := 106)
  obtain ⟨w5,hw5⟩:∃ W,W=w4.alloc (Obj.cells #[.int .i64 (C:Nat),.slice LA a lc] 106):=⟨_,rfl⟩
  obtain ⟨b6,hb6⟩:∃ b,b=w4.heap.size:=⟨_,rfl⟩
  rw [<-hw5] at kb1 rl ⊢;rw [<-hb6] at rl ⊢
  have HMW5:=hid (HMW.out.on kb1)
  have HMV5:=hid (HMV.out.on kb1)
  have HPO5:=hid (HPO.out.on kb1)
  replace hB:=onS hB kb1;replace ro:=zab ro kb1;replace rf:=zab rf kb1;replace rm:=zab rm kb1;clear hw5 hb6 kb1 HMW HMV HPO
  have p1:=qc1 rm
  have l1:=qc1 rl
  go_wp2_with fail
  refine (zdW LA T a n lc d (fun _=>C) (fun _=>C) (fun i j=>((W i j:Nat):Int)) (fun i j=>((natT V i j:Nat):Int)) w5 HMW5.out HMV5.out (by omega) (by omega) (fun _ _=>by omega) (fun _ _=>by omega)).mono ?_
  rintro e w6 ⟨b,rfl,hb,kb⟩
  replace hB:=onS hB kb;replace ro:=zab ro kb;replace rf:=zab rf kb;replace rm:=zab rm kb
  have HPO6:=hid (HPO5.out.on kb)
  have HEQ:Hid (EqT a n (fun _=>C) (fun _=>C) (fun i j=>((W i j:Nat):Int)) (fun i j=>((natT V i j:Nat):Int))↔a=n/\∀ i,i<a->∀ j,j<C->W i j=natT V i j):=by
   constructor
   ·intro h
    refine ⟨h.1,fun i hi j hj=>?_⟩
    have:=(h.2 i hi).2 j hj
    simp only at this
    omega
   ·intro h
    refine ⟨h.1,fun i hi=>⟨rfl,fun j hj=>?_⟩⟩
    show ((W i j:Nat):Int)=((natT V i j:Nat):Int)
    rw [h.2 i hi j hj]
  have HBB:=hid (hb.trans HEQ.out)
  have HP9:Hid (∀ u:Int,FirstErr [(RrefN (P ^ M) n C (natT V),5)] u->FirstErr (SpaceErrs (P:Int) (M:Int) k f C n ln V) u):=fun u hu=>by
   refine FirstErr.app (l:=[(GoodF (P:Int) (M:Int) k f,1),(ShapeM (C:Int) n ln,3),(ElemsM ((P:Int).toNat ^ (M:Int).toNat) n ln V,2)]) (by simp) (v:=0) (by simpa [MatErrs] using HV.out) (fun h=>absurd rfl h) fun _=>?_
   rw [Int.toNat_natCast,Int.toNat_natCast]
   exact hu
  clear kb hb p1 l1 rl HMW5 HMV5 HPO5 HEQ
  cases b
  ·have HNO:Hid (¬ RrefN (P ^ M) n C (natT V)):=fun h=>by have:=HBB.out.2 (HCA.out.1 h); cases this
   have r0:=ro.frozen 0
   have s0:=qc0 ro
   have r1:=ro.frozen 1
   have s1:=qc1 ro
   have r2:=ro.frozen 2
   have s2:=qc2 ro
   have r3:=ro.frozen 3
   have s3:=qc3 ro
   go_wp2
   clear r0 s0 r1 s1 r2 s2 r3 s3
   generalize hw9:World.setCell _ _ _=w7
   obtain ⟨row9,hg9⟩:=zcH ro hw9.symm
   clear hw9
   have hB9:=hB.grown hg9 hB.size (fun q e=>by injection e with e; omega)
   have e0:=qc0 row9
   have e1:=qc1 row9
   have e2:=qc2 row9
   have e3:=qc3 row9
   refine bodyPost_ret (v:=.tuple #[.agg #[.pointer none,.int .i64 0,.slice none 0 0,.slice none 0 0],.int .i64 5]) (by simp [results,Tryz.results166, go_sem,e0,e1,e2,e3]) rfl ?_
   exact ⟨hB9,5,HP9.out 5 (.inl ⟨HNO.out,rfl⟩),.inl ⟨by omega,rfl⟩⟩
  ·have HYES:=hid (HBB.out.1 rfl)
   have q0:=qc0 rf
   have q1:=qc1 rf
   have q2:=qc2 rf
   have hb26:b2<w6.heap.size:=ro.lt
   go_wp2_with fail
   refine (zbP (P:Int) (M:Int) A k c f w6 (HR.out.on hB)).mono ?_
   rintro e w7 ⟨kb,hN⟩
   replace hB:=onS hB kb;replace ro:=zab ro kb;replace rm:=zab rm kb
   have HPO7:=hid (HPO6.out.on kb)
   clear kb q0 q1 q2 rf HPO6
   rcases hN with ⟨hno,_⟩ | ⟨_,g,P',M',hPe,hMe,rfl,hgw,hG⟩
   ·exact absurd HGO.out hno
   obtain rfl:P=P':=by omega
   obtain rfl:M=M':=by omega
   have HG:=hid hG
   have hgl:=hG
   clear hG hPe hMe hgw
   have p0:=qc0 rm
   have p1:=qc1 rm
   have r0:=ro.frozen 0
   have s0:=qc0 ro
   have r1:=ro.frozen 1
   have s1:=qc1 ro
   have r2:=ro.frozen 2
   have s2:=qc2 ro
   have r3:=ro.frozen 3
   have s3:=qc3 ro
   clear hgl
   go_wp2
   clear r0 s0 r1 s1 r2 s2 r3 s3 p0 p1
   generalize hw9:World.setCell _ _ _=w8
   obtain ⟨row9,hg9⟩:=zcH ro hw9.symm
   clear hw9
   have hB9:=hB.grown hg9 hB.size (fun q e=>by injection e with e; omega)
   have hP9:=HPO7.out.kept hg9 (za5 ro HPO7.out (by decide))
   have hG9:=(HG.out.grown hg9 hb26).gf
   have e0:=qc0 row9
   have e1:=qc1 row9
   have e2:=qc2 row9
   have e3:=qc3 row9
   have han2:a=n:=HYES.out.1
   have hpiv:=HPP.out HYES.out
   subst han2
   refine bodyPost_ret (v:=.tuple #[.agg #[.pointer (some ⟨g,0,none⟩),.int .i64 (C:Nat),.slice T a d,.slice PA a pc],.int .i64 0]) (by simp [results,Tryz.results166, go_sem,e0,e1,e2,e3]) rfl ?_
   exact ⟨hB9,0,HP9.out 0 (.inr ⟨⟨p,hpiv⟩,rfl⟩),.inr ⟨rfl,P,M,C,g,_,p,rfl,rfl,rfl,rfl,hG9,hP9.mono hB2,hpiv⟩⟩
theorem zgm (P M:Int) (A:Option Addr) (k c:Nat) (f:Nat->Int) (cols:Nat) (T:Option Addr) (n d:Nat) (ln:Nat->Nat) (V:Nat->Nat->Int) (w:World) (hr:IntsR w w.heap.size A k f) (h:IntRows w T n ln V) (hc1:1<=cols) :
  Calls Tryz.prog 130 #[.agg #[.int .i64 P,.int .i64 M,.slice A k c],.agg #[.int .i64 (cols:Nat),.slice T n d]] w (ErrsPost (SpaceErrs P M k f cols n ln V) w):=by
 have HR:=hid hr
 have HT:=hid h
 clear hr h
 have rf:=zaf (w:=w) (a:=.int .i64 P) (b:=.int .i64 M) (c:=.slice A k c) (T := 24)
 have hB:Below w.heap.size w (w.alloc (.cells #[.int .i64 P,.int .i64 M,.slice A k c] 24)):=(Below.refl _ _).alloc (Nat.le_refl _) _
 have hsz:(w.alloc (.cells #[.int .i64 P,.int .i64 M,.slice A k c] 24)).heap.size=w.heap.size+1:=by simp
 obtain ⟨w0,hw0⟩:∃ W,W=w.alloc (.cells #[.int .i64 P,.int .i64 M,.slice A k c] 24):=⟨_,rfl⟩
 have rm:=zaB (w:=w0) (a:=.int .i64 (cols:Nat)) (b:=.slice T n d) (T := 106)
 have kb:Below w0.heap.size w0 (w0.alloc (.cells #[.int .i64 (cols:Nat),.slice T n d] 106)):=(Below.refl _ _).alloc (Nat.le_refl _) _
 obtain ⟨w1,hw1⟩:∃ W,W=w0.alloc (.cells #[.int .i64 (cols:Nat),.slice T n d] 106):=⟨_,rfl⟩
 rw [<-hw0] at hB rf hsz;rw [<-hw1] at rm kb;rw [hsz] at rm;replace rf:=zab rf kb;replace hB:=onS hB kb
 go_enter Tryz.func130, Tryz.ntmps130
 go_upto_region 1 with fail
 rw [<-hw0,<-hw1];clear hw0 hw1 kb hsz
 have q0:=qc0 rf
 have q1:=qc1 rf
 have q2:=qc2 rf
 have p0:=qc0 rm
 have p1:=qc1 rm
 go_wp2_with fail
 refine (zhm P M A k c f cols T n d ln V w1 (HR.out.on hB) (HT.out.on hB) hc1).mono ?_
 rintro e w2 ⟨kb,v,hv,hcase⟩
 have HB:=hid (onS hB kb)
 have HV:=hid hv
 clear kb hv q0 q1 q2 p0 p1 rf rm hB
 rcases hcase with ⟨hv0,rfl⟩ | ⟨rfl,P,M,C,g,pv,p,rfl,rfl,_,rfl,_,hP,_⟩
 ·clear hv0
  go_wp2
  go_ret
  exact errsPost HV.out (HB.out.alloc HB.out.size _)
 ·obtain ⟨PA,pc,hpv⟩:=hP.shape
  subst hpv
  clear hP
  go_wp2
  go_ret
  exact errsPost HV.out (HB.out.alloc HB.out.size _)
def LenOk (N:Int):Prop:=1<=N/\N<=64
theorem zfn (N:Int) (w:World):Calls Tryz.prog 129 #[.int .i64 N] w (ErrsPost [(LenOk N,4)] w):=by
 by_cases h1:N<1
 ·have hd:decide (N<1)=true:=by simpa using h1
  have hno:Hid (FirstErr [(LenOk N,4)] 4):=.inl ⟨fun h=>by have:=h.1; have:=h.2; omega,rfl⟩
  go_enter Tryz.func129, Tryz.ntmps129
  go_wp2
  go_ret
  exact errsPost hno.out (Below.refl _ _)
 ·have hd:decide (N<1)=false:=by simpa using h1
  by_cases h2:64<N
  ·have hd2:decide (64<N)=true:=by simpa using h2
   have hno:Hid (FirstErr [(LenOk N,4)] 4):=.inl ⟨fun h=>by have:=h.1; have:=h.2; omega,rfl⟩
   go_enter Tryz.func129, Tryz.ntmps129
   go_wp2
   go_ret
   exact errsPost hno.out (Below.refl _ _)
  ·have hd2:decide (64<N)=false:=by simpa using h2
   have hyes:Hid (FirstErr [(LenOk N,4)] 0):=.inr ⟨⟨by omega,by omega⟩,rfl⟩
   go_enter Tryz.func129, Tryz.ntmps129
   go_wp2
   go_ret
   exact errsPost hyes.out (Below.refl _ _)
theorem zis (P M N:Int) (A T:Option Addr) (k c n d:Nat) (w:World) :
  Calls Tryz.prog 101 #[.agg #[.int .i64 P,.int .i64 M,.slice A k c,.int .i64 N,.slice T n d]] w fun e w'=>e=.returned (.agg #[.int .i64 N,.slice T n d])/\Below w.heap.size w w':=by
 have rf:=zai (w:=w) (a:=.int .i64 P) (b:=.int .i64 M) (c:=.slice A k c) (d:=.int .i64 N) (e:=.slice T n d) (T := 27)
 have hB:Below w.heap.size w (w.alloc (.cells #[.int .i64 P,.int .i64 M,.slice A k c,.int .i64 N,.slice T n d] 27)):=(Below.refl _ _).alloc (Nat.le_refl _) _
 have hsz:(w.alloc (.cells #[.int .i64 P,.int .i64 M,.slice A k c,.int .i64 N,.slice T n d] 27)).heap.size=w.heap.size+1:=by simp
 obtain ⟨w0,hw0⟩:∃ W,W=w.alloc (.cells #[.int .i64 P,.int .i64 M,.slice A k c,.int .i64 N,.slice T n d] 27):=⟨_,rfl⟩
 have ro:=zaB (w:=w0) (a:=.int .i64 0) (b:=.slice none 0 0) (T := 106)
 have kb:Below w0.heap.size w0 (w0.alloc (.cells #[.int .i64 0,.slice none 0 0] 106)):=(Below.refl _ _).alloc (Nat.le_refl _) _
 obtain ⟨w1,hw1⟩:∃ W,W=w0.alloc (.cells #[.int .i64 0,.slice none 0 0] 106):=⟨_,rfl⟩
 rw [<-hw0] at hB rf hsz;rw [<-hw1] at ro kb;rw [hsz] at ro;replace rf:=zab rf kb;replace hB:=onS hB kb
 go_enter Tryz.func101, Tryz.ntmps101
 go_upto_region 1 with fail
 rw [<-hw0,<-hw1];clear hw0 hw1 kb hsz
 have q3:=qc3 rf
 have q4:=qc4 rf
 have r0:=ro.frozen 0
 have s0:=qc0 ro
 have r1:=ro.frozen 1
 have s1:=qc1 ro
 go_wp2
 clear r0 s0 r1 s1 q3 q4 rf
 generalize hw9:World.setCell _ _ _=w2
 obtain ⟨row9,hg9⟩:=zcG ro hw9.symm
 clear hw9
 have hB9:=hB.grown hg9 hB.size (fun q e=>by injection e with e; omega)
 have e0:=qc0 row9
 have e1:=qc1 row9
 refine bodyPost_ret (v:=.agg #[.int .i64 N,.slice T n d]) (by simp [results,Tryz.results101, go_sem,e0,e1]) rfl ?_
 exact ⟨rfl,hB9⟩
theorem zcI (P M:Int) (A:Option Addr) (k c:Nat) (f:Nat->Int) (N:Int) (T:Option Addr) (n d:Nat) (ln:Nat->Nat) (V:Nat->Nat->Int) (w:World) (hr:IntsR w w.heap.size A k f) (h:IntRows w T n ln V) :
  Calls Tryz.prog 67 #[.agg #[.int .i64 P,.int .i64 M,.slice A k c,.int .i64 N,.slice T n d]] w (ErrsPost (CodeErrs P M k f N n ln V) w):=by
 have HR:=hid hr
 have HT:=hid h
 clear hr h
 have rf:=zai (w:=w) (a:=.int .i64 P) (b:=.int .i64 M) (c:=.slice A k c) (d:=.int .i64 N) (e:=.slice T n d) (T := 27)
 have hB:Below w.heap.size w (w.alloc (.cells #[.int .i64 P,.int .i64 M,.slice A k c,.int .i64 N,.slice T n d] 27)):=(Below.refl _ _).alloc (Nat.le_refl _) _
 obtain ⟨w1,hw1⟩:∃ W,W=w.alloc (.cells #[.int .i64 P,.int .i64 M,.slice A k c,.int .i64 N,.slice T n d] 27):=⟨_,rfl⟩
 rw [<-hw1] at hB rf
 go_enter Tryz.func67, Tryz.ntmps67
 go_upto_region 1 with fail
 rw [<-hw1];clear hw1
 have q0:=qc0 rf
 have q1:=qc1 rf
 have q2:=qc2 rf
 go_wp2_with fail
 refine (zfk P M A k c f w1 (HR.out.on hB)).mono ?_
 rintro e w2 ⟨v,rfl,hv,kb⟩
 replace hB:=onS hB kb;replace rf:=zab rf kb;clear kb q0 q1 q2
 rcases hv with ⟨rfl,hgood⟩ | ⟨rfl,hno⟩
 ·have HGO:=hid hgood
  clear hgood
  have q3:=qc3 rf
  go_wp2_with fail
  refine (zfn N w2).mono ?_
  rintro e w3 ⟨v,rfl,hv,kb⟩
  replace hB:=onS hB kb;replace rf:=zab rf kb;clear kb q3
  rcases hv with ⟨hno,rfl⟩ | ⟨hN,hv0⟩
  ·have hf:Hid (FirstErr (CodeErrs P M k f N n ln V) 4):=.inr ⟨HGO.out,.inl ⟨hno,rfl⟩⟩
   clear hno
   go_wp2
   go_ret
   exact errsPost hf.out hB
  ·have hv0:v=0:=hv0
   subst hv0
   have hN:1<=N/\N<=64:=hN
   obtain ⟨C,rfl⟩:∃ C:Nat,N=C:=⟨N.toNat,by omega⟩
   have HNR:=hid hN
   have hC1:1<=C:=by omega
   clear hN
   have q0:=qc0 rf
   have q1:=qc1 rf
   have q2:=qc2 rf
   have q3:=qc3 rf
   have q4:=qc4 rf
   go_wp2
   refine wp_region_held_drew (S:=fun w'=>w'.cell? ⟨w.heap.size,0,none⟩=some (.int .i64 P)/\w'.cell? ⟨w.heap.size,1,none⟩=some (.int .i64 M)/\w'.cell? ⟨w.heap.size,2,none⟩=some (.slice A k c)/\w'.cell? ⟨w.heap.size,3,none⟩=some (.int .i64 (C:Nat))/\w'.cell? ⟨w.heap.size,4,none⟩=some (.slice T n d)) (by kernel_rfl) ⟨cellS (Below.refl _ _).drew q0,cellS (Below.refl _ _).drew q1,cellS (Below.refl _ _).drew q2,cellS (Below.refl _ _).drew q3,cellS (Below.refl _ _).drew q4⟩ (fun hHeld=>?_)
   obtain ⟨w4,hw⟩:∃ W,W=World.drew w3:=⟨_,rfl⟩
   have kb:Below w3.heap.size w3 w4:=by rw [hw]; exact (Below.refl _ _).drew
   rw [<-hw] at hHeld ⊢;clear hw;replace hB:=onS hB kb;replace rf:=zab rf kb;clear kb q0 q1 q2 q3 q4
   refine tkq 0 (h:=tkq 1 (h:=tkq 2 (h:=rdq 3 (h:=fun K hK=>?_))))
   go_simp
   go_wp2_with fail
   refine (zis P M (C:Int) A T k c n d w4).mono ?_
   rintro e w5 ⟨rfl,kb⟩
   replace hB:=onS hB kb;replace rf:=zab rf kb;clear kb
   refine bkq hK ⟨qc0 rf,qc1 rf,qc2 rf,qc3 rf,qc4 rf⟩ (h:=fun hHeld=>?_)
   clear hK K
   refine rdq 4 (h:=fun K hK=>?_)
   go_simp
   go_wp2_with fail
   refine (zgm P M A k c f C T n d ln V w5 (HR.out.on hB) (HT.out.on hB) hC1).mono ?_
   rintro e w6 ⟨v,rfl,hv,kb⟩
   replace hB:=onS hB kb;replace rf:=zab rf kb
   have hf:Hid (FirstErr (CodeErrs P M k f (C:Int) n ln V) v):=by
    rcases hv with ⟨hno,_⟩ | ⟨_,hv⟩
    ·exact absurd HGO.out hno
    ·refine .inr ⟨HGO.out,.inr ⟨HNR.out,?_⟩⟩
     rw [Int.toNat_natCast]
     exact hv
   clear kb hv
   refine bkq hK ⟨qc0 rf,qc1 rf,qc2 rf,qc3 rf,qc4 rf⟩ (h:=fun hHeld=>?_)
   clear hK K
   refine tkq 5 (h:=?_)
   refine wpAnyH_done (by kernel_rfl) ?_ _
   clear hHeld
   go_wp2
   go_ret
   exact errsPost hf.out hB
 ·have hf:Hid (FirstErr (CodeErrs P M k f N n ln V) 1):=.inl ⟨hno,rfl⟩
  clear hno
  go_wp2
  go_ret
  exact errsPost hf.out hB
def ExpNPost (q k most:Nat) (w:World) (e:Ending) (w':World):Prop:=((q ^ k<=most/\e=.returned (.tuple #[.int .i64 (q ^ k:Nat),.int .i64 0]))∨(most<q ^ k/\e=.returned (.tuple #[.int .i64 0,.int .i64 8])))/\Below w.heap.size w w'
theorem zi9 (q k most:Nat) (w:World) (hq:2<=q) (hq2:q<=1048576) (hk:k<=1048576) (hm:1<=most) (hm2:most<=1048576) :
  Calls Tryz.prog 148 #[.int .i64 (q:Nat),.int .i64 (k:Nat),.int .i64 (most:Nat)] w (ExpNPost q k most w):=by
 have c1:¬ ((q:Int)<0):=by omega
 have c2:¬ ((k:Int)<0):=by omega
 have c3:¬ ((most:Int)<0):=by omega
 have c4:((q:Int) == 0)=false:=by simp; omega
 have c5:((most:Int) == 0)=false:=by simp; omega
 have c6:(q:Int) > 1:=by omega
 go_enter Tryz.func148, Tryz.ntmps148
 go_wp2
 go_loopg [1,8] k (fun gg kv ov wx=>∃ j o:Nat,kv=.int .i64 ((k - j:Nat):Int)/\ov=.int .i64 (o:Nat)/\j<=k/\k<=j+gg/\Hid (o=q ^ j)/\o<=most/\Below w.heap.size w wx)
 case atStart=>exact ⟨0,1,by rw [Nat.sub_zero],rfl,by omega,by omega,rfl,by omega,Below.refl _ _⟩
 case round =>
  obtain ⟨j,o,rfl,rfl,hj,hjg,HO,hom,hB⟩:=hrel
  obtain ⟨r,hr⟩:∃ r,r=k - j:=⟨_,rfl⟩
  rw [<-hr]
  have HR:=hid hr
  clear hr
  by_cases hlt:0<r
  ·have hlt':(r:Int) > 0:=by omega
   have h0:=HR.out
   obtain ⟨d,hd⟩:∃ d,d=most / q:=⟨_,rfl⟩
   have e0:(most:Int) / (q:Int)=(d:Int):=by rw [hd]; rfl
   have hdl:d<=most:=by rw [hd]; exact Nat.div_le_self _ _
   have HD:=hid hd
   have hd0:0<=(most:Int) / (q:Int):=by rw [e0]; omega
   have hd1:(most:Int) / (q:Int)<=1048576:=by rw [e0]; omega
   clear hd
   have hq0:¬ (q:Int)=0:=by omega
   by_cases hb:d<o
   ·have hb':(o:Int) > (most:Int) / (q:Int):=by rw [e0]; omega
    have hbig:Hid (most<q ^ k):=by
     have h1:most<o*q:=(Nat.div_lt_iff_lt_mul (by omega)).1 (HD.out ▸ hb)
     have h2:q ^ (j+1)<=q ^ k:=Nat.pow_le_pow_right (by omega) (by omega)
     have h3:=HO.out
     show most<q ^ k
     rw [Nat.pow_succ,<-h3] at h2
     omega
    clear hb h0 e0
    go_wp2
    go_ret2
    exact ⟨.inr ⟨hbig.out,rfl⟩,hB⟩
   ·have hb':¬ (o:Int) > (most:Int) / (q:Int):=by rw [e0]; omega
    have hsm:o*q<=most:=by
     have h1:o<=most / q:=HD.out ▸ Nat.le_of_not_lt hb
     exact (Nat.le_div_iff_mul_le (by omega)).1 h1
    have HO2:Hid (o*q=q ^ (j+1)):=by show _=_; rw [Nat.pow_succ,<-HO.out]
    have e2:(o:Int)*(q:Int)=((o*q:Nat):Int):=by push_cast; rfl
    have hp0:0<=(o:Int)*(q:Int):=by rw [e2]; omega
    have hp1:(o:Int)*(q:Int)<=1048576:=by rw [e2]; omega
    clear hb e0 e2
    go_wp2
    go_roundg (gk - 1)
    case measure=>omega
    case rel=>exact ⟨j+1,o*q,by congr 1; omega,by push_cast; go_num,by omega,by omega,HO2,hsm,hB⟩
  ·have hlt':¬ (r:Int) > 0:=by omega
   have hex:Hid (q ^ k=o):=by
    have h0:=HR.out
    obtain rfl:j=k:=by omega
    exact HO.out.symm
   obtain rfl:r=0:=by omega
   go_wp2
   go_ret2
   exact ⟨.inl ⟨by rw [hex.out]; exact hom,by rw [hex.out]; rfl⟩,hB⟩
open Go.ChangeShapes Go.WideShapes Go.ChangeAt
def hornN (q:Nat) (s:Nat->Nat):Nat->Nat
 | 0=>0
 | i+1=>hornN q s i*q+s i
theorem zit {q:Nat} {s:Nat->Nat}:∀ {a:Nat},(∀ i,i<a->s i<q)->hornN q s a<q ^ a
 | 0,_=>by show 0<1; omega
 | a+1,h=>by
  have h1:=zit (a:=a) fun i hi=>h i (by omega)
  have h2:=h a (by omega)
  show hornN q s a*q+s a<q ^ (a+1)
  have h3:(hornN q s a+1)*q<=q ^ a*q:=Nat.mul_le_mul_right q h1
  rw [Nat.add_mul,Nat.one_mul] at h3;rw [Nat.pow_succ]
  omega
theorem zhn {q:Nat} {s t:Nat->Nat}:∀ {a:Nat},(∀ i,i<a->s i<q)->(∀ i,i<a->t i<q)->(hornN q s a=hornN q t a↔∀ i,i<a->s i=t i)
 | 0,_,_=>⟨fun _ i hi=>absurd hi (by omega),fun _=>rfl⟩
 | a + 1, h, h' => by
  have ih:=zhn (a:=a) (fun i hi=>h i (by omega)) (fun i hi=>h' i (by omega))
  have h1:=h a (by omega)
  have h2:=h' a (by omega)
  have hq:0<q:=by omega
  show hornN q s a*q+s a=hornN q t a*q+t a↔_
  constructor
  ·intro e
   have e1:(hornN q s a*q+s a) % q=(hornN q t a*q+t a) % q:=by rw [e]
   rw [Nat.add_comm,Nat.add_mul_mod_self_right,Nat.mod_eq_of_lt h1,Nat.add_comm,Nat.add_mul_mod_self_right,Nat.mod_eq_of_lt h2] at e1;rw [e1] at e
   have e2:hornN q s a=hornN q t a:=Nat.eq_of_mul_eq_mul_right hq (by omega)
   intro i hi
   by_cases e3:i=a
   ·rw [e3]; exact e1
   ·exact ih.1 e2 i (by omega)
  ·intro e
   rw [ih.2 fun i hi=>e i (by omega),e a (by omega)]
theorem zbg {q:Nat} {add mul:Nat->Nat->Nat} (hL:FieldLaws q add mul) {a b:Nat->Nat}:∀ n,(∀ i,i<n->a i<q/\b i<q)->dotN add mul a b n=dotN add mul b a n
 | 0,_=>rfl
 | n+1,h=>by
  show add (dotN add mul a b n) (mul (a n) (b n))=add (dotN add mul b a n) (mul (b n) (a n))
  rw [zbg hL n fun i hi=>h i (by omega),hL.mulComm _ _ (h n (by omega)).1 (h n (by omega)).2]
theorem add4 {q:Nat} {add mul:Nat->Nat->Nat} (hL:FieldLaws q add mul) {a b c d:Nat} (ha:a<q) (hb:b<q) (hc:c<q) (hd:d<q):add (add a b) (add c d)=add (add a c) (add b d):=by
 rw [hL.addAssoc a b _ ha hb (hL.addLt _ _),<-hL.addAssoc b c d hb hc hd,hL.addComm b c,hL.addAssoc c b d hc hb hd,<-hL.addAssoc a c _ ha hc (hL.addLt _ _)]
theorem zdu {q:Nat} {add mul:Nat->Nat->Nat} (hL:FieldLaws q add mul) {x v w:Nat->Nat}:∀ n,(∀ j,j<n->x j<q/\v j<q/\w j<q)->dotN add mul (fun j=>add (x j) (v j)) w n=add (dotN add mul x w n) (dotN add mul v w n)
 | 0,_=>by have:=hL.two; exact (hL.zeroAdd 0 (by omega)).symm
 | n+1,h=>by
  obtain ⟨h1,h2,h3⟩:=h n (by omega)
  show add (dotN add mul (fun j=>add (x j) (v j)) w n) (mul (add (x n) (v n)) (w n))=add (add (dotN add mul x w n) (mul (x n) (w n))) (add (dotN add mul v w n) (mul (v n) (w n)))
  rw [zdu hL n fun j hj=>h j (by omega),hL.mulComm _ _ (hL.addLt _ _) h3,hL.distrib _ _ _ h3 h1 h2,hL.mulComm _ _ h3 h1,hL.mulComm _ _ h3 h2]
  exact add4 hL (zbc hL _ _ _) (zbc hL _ _ _) (hL.mulLt _ _) (hL.mulLt _ _)
theorem zdv {q:Nat} {add mul:Nat->Nat->Nat} (hL:FieldLaws q add mul) {d:Nat} (hd:d<q) {x w:Nat->Nat}:∀ n,(∀ j,j<n->x j<q/\w j<q)->dotN add mul (fun j=>mul d (x j)) w n=mul d (dotN add mul x w n)
 | 0,_=>(hL.mulZero hd).symm
 | n+1,h=>by
  obtain ⟨h1,h2⟩:=h n (by omega)
  show add (dotN add mul (fun j=>mul d (x j)) w n) (mul (mul d (x n)) (w n))=mul d (add (dotN add mul x w n) (mul (x n) (w n)))
  rw [zdv hL hd n fun j hj=>h j (by omega),hL.distrib _ _ _ hd (zbc hL _ _ _) (hL.mulLt _ _),hL.mulAssoc _ _ _ hd h1 h2]
structure Tri (q k m:Nat) (B:Nat->Nat->Nat) (p:Nat->Nat):Prop where
 lt:∀ t,t<m->∀ j,j<k->B t j<q
 plt:∀ t,t<m->p t<k
 one:∀ t,t<m->B t (p t)=1
 low:∀ t,t<m->∀ j,j<p t->B t j=0
 zero:∀ t s,t<s->s<m->B s (p t)=0
def KerB (add mul:Nat->Nat->Nat) (k m:Nat) (B:Nat->Nat->Nat) (c:Nat->Nat):Prop:=∀ t,t<m->dotN add mul c (B t) k=0
section
variable {q k m:Nat} {add mul:Nat->Nat->Nat} {neg:Nat->Nat} {B:Nat->Nat->Nat} {p:Nat->Nat}
theorem zgn (hL:FieldLaws q add mul) {c b:Nat->Nat} {j v:Nat} (hc:c j=0) (hv:v<q):∀ n,(∀ i,i<n->c i<q/\b i<q)->dotN add mul (fun i=>if i=j then v else c i) b n=add (dotN add mul c b n) (if j<n then mul v (b j) else 0)
 | 0,_=>by have:=hL.two; rw [if_neg (by omega)]; exact (hL.zeroAdd 0 (by omega)).symm
 | n + 1, h => by
  have hq:=hL.two
  obtain ⟨h1,h2⟩:=h n (by omega)
  show add (dotN add mul (fun i=>if i=j then v else c i) b n) (mul (if n=j then v else c n) (b n))=add (add (dotN add mul c b n) (mul (c n) (b n))) _
  rw [zgn hL hc hv n fun i hi=>h i (by omega)]
  by_cases e:n=j
  ·subst e
   rw [if_pos rfl,if_neg (by omega),if_pos (by omega),hc,hL.mulComm 0 _ (by omega) h2,hL.mulZero h2]
  ·rw [if_neg e]
   by_cases e2:j<n
   ·rw [if_pos e2,if_pos (by omega)]
    have h3:=zbc hL c b n
    rw [hL.addAssoc _ _ _ h3 (hL.mulLt _ _) (hL.mulLt _ _),hL.addComm (mul v (b j)),<-hL.addAssoc _ _ _ h3 (hL.mulLt _ _) (hL.mulLt _ _)]
   ·rw [if_neg e2,if_neg (by omega),hL.addZero (zbc hL _ _ _),hL.addZero (hL.addLt _ _)]
theorem zdw (hL:FieldLaws q add mul) {b:Nat->Nat}:∀ n,(∀ i,i<n->b i<q)->∀ c:Nat->Nat,(∀ i,i<n->c i=0)->dotN add mul c b n=0
 | 0,_,_,_=>rfl
 | n+1,h,c,hc=>by
  have hq:=hL.two
  show add (dotN add mul c b n) (mul (c n) (b n))=0
  rw [zdw hL n (fun i hi=>h i (by omega)) c fun i hi=>hc i (by omega),hc n (by omega),hL.mulComm _ _ (by omega) (h n (by omega)),hL.mulZero (h n (by omega)),hL.zeroAdd 0 (by omega)]
theorem ziu (hL:FieldLaws q add mul) {c b:Nat->Nat} {j:Nat}:∀ n,j<n->(∀ i,i<n->c i<q/\b i<q)->(∀ i,i<n->i≠j->c i=0∨b i=0)->dotN add mul c b n=mul (c j) (b j)
 | 0,hj,_,_=>absurd hj (by omega)
 | n + 1, hj, h, h0 => by
  have hq:=hL.two
  obtain ⟨h1,h2⟩:=h n (by omega)
  show add (dotN add mul c b n) (mul (c n) (b n))=_
  have hz:∀ i,i<n+1->i≠j->mul (c i) (b i)=0:=fun i hi hne=>by
   obtain ⟨g1,g2⟩:=h i hi
   rcases h0 i hi hne with e | e
   ·rw [e,hL.mulComm _ _ (by omega) g2,hL.mulZero g2]
   ·rw [e,hL.mulZero g1]
  by_cases e:n=j
  ·subst e
   have key:∀ r,r<=n->dotN add mul c b r=0:=by
    intro r
    induction r with
    | zero=>intro _; rfl
    | succ r ih =>
     intro hr
     show add (dotN add mul c b r) (mul (c r) (b r))=0
     rw [ih (by omega),hz r (by omega) (by omega),hL.zeroAdd 0 (by omega)]
   rw [key n (Nat.le_refl _),hL.zeroAdd _ (hL.mulLt _ _)]
  ·rw [ziu hL n (by omega) (fun i hi=>h i (by omega)) fun i hi hne=>h0 i (by omega) hne,hz n (by omega) e,hL.addZero (hL.mulLt _ _)]
theorem Tri.ne (h:Tri q k m B p) {s t:Nat} (hst:s<t) (ht:t<m):p s≠p t:=fun e=>by
 have h1:=h.zero s t hst ht
 have h2:=h.one t ht
 rw [e] at h1
 omega
theorem Tri.inj (h:Tri q k m B p) {s t:Nat} (hs:s<m) (ht:t<m) (e:p s=p t):s=t:=by
 rcases Nat.lt_trichotomy s t with h1 | h1 | h1
 ·exact absurd e (h.ne h1 ht)
 ·exact h1
 ·exact absurd e.symm (h.ne h1 hs)
theorem Tri.le (h:Tri q k m B p):m<=k:=by
 have h1:((List.range m).map p).Nodup:=za6 List.nodup_range fun s hs t ht e=>h.inj (List.mem_range.1 hs) (List.mem_range.1 ht) e
 have h2:=zf8 h1 (m:=List.range k) fun x hx=>by
  obtain ⟨t,ht,rfl⟩:=List.mem_map.1 hx
  exact List.mem_range.2 (h.plt t (List.mem_range.1 ht))
 simpa using h2
def redN (add mul:Nat->Nat->Nat) (neg:Nat->Nat) (B:Nat->Nat->Nat) (p:Nat->Nat) (v:Nat->Nat):Nat->Nat->Nat
 | 0,j=>v j
 | t+1,j=>if redN add mul neg B p v t (p t)=0 then redN add mul neg B p v t j else add (redN add mul neg B p v t j) (neg (mul (redN add mul neg B p v t (p t)) (B t j)))
theorem zcd (hL:FieldLaws q add mul) {v:Nat->Nat} (hv:∀ j,j<k->v j<q):∀ t j,j<k->redN add mul neg B p v t j<q
 | 0,j,hj=>hv j hj
 | t+1,j,hj=>by
  show (if redN add mul neg B p v t (p t)=0 then redN add mul neg B p v t j else _)<q
  split
  ·exact zcd hL hv t j hj
  ·exact hL.addLt _ _
theorem zeU (hL:FieldLaws q add mul) (hneg:∀ x,x<q->neg x<q/\add x (neg x)=0) (h:Tri q k m B p) {v:Nat->Nat} (hv:∀ j,j<k->v j<q):∀ t,t<=m->∀ s,s<t->redN add mul neg B p v t (p s)=0
 | 0,_,s,hs=>absurd hs (by omega)
 | t + 1, ht, s, hs => by
  have hq:=hL.two
  show (if redN add mul neg B p v t (p t)=0 then redN add mul neg B p v t (p s) else _)=0
  have hlt:=zcd (neg:=neg) (B:=B) (p:=p) hL hv t (p t) (h.plt t (by omega))
  by_cases e:s=t
  ·subst e
   split
   ·assumption
   ·rw [h.one s (by omega),hL.mulOne hlt]
    exact (hneg _ hlt).2
  ·have ih:=zeU hL hneg h hv t (by omega) s (by omega)
   split
   ·exact ih
   ·rw [ih,h.zero s t (by omega) (by omega),hL.mulZero hlt]
    exact (hneg 0 (by omega)).2
theorem zcJ (hL:FieldLaws q add mul) (hneg:∀ x,x<q->neg x<q/\add x (neg x)=0) (h:Tri q k m B p) {v c:Nat->Nat} (hv:∀ j,j<k->v j<q) (hc:∀ j,j<k->c j<q) (hK:KerB add mul k m B c):∀ t,t<=m->dotN add mul c (redN add mul neg B p v t) k=dotN add mul c v k
 | 0,_=>rfl
 | t + 1, ht => by
  have hq:=hL.two
  by_cases e:redN add mul neg B p v t (p t)=0
  ·have e2:dotN add mul c (redN add mul neg B p v (t+1)) k=dotN add mul c (redN add mul neg B p v t) k:=zbr k fun j _=>⟨rfl,if_pos e⟩
   rw [e2,zcJ hL hneg h hv hc hK t (by omega)]
  ·obtain ⟨y,hy⟩:∃ y,y=redN add mul neg B p v t (p t):=⟨_,rfl⟩
   have hyq:y<q:=by rw [hy]; exact zcd hL hv t _ (h.plt t (by omega))
   have hng:∀ j,neg (mul y (B t j))<q:=fun j=>(hneg _ (hL.mulLt _ _)).1
   have e2:dotN add mul c (redN add mul neg B p v (t+1)) k=dotN add mul (fun j=>add (redN add mul neg B p v t j) (neg (mul y (B t j)))) c k:=by
    rw [zbg hL k fun j hj=>⟨hc j hj,zcd hL hv _ j hj⟩]
    exact zbr k fun j _=>⟨by rw [hy]; exact if_neg e,rfl⟩
   rw [e2,zdu (v:=fun j=>neg (mul y (B t j))) hL k fun j hj=>⟨zcd hL hv _ j hj,hng j,hc j hj⟩,zbg hL k fun j hj=>⟨zcd hL hv _ j hj,hc j hj⟩,zcJ hL hneg h hv hc hK t (by omega)]
   have z1:dotN add mul (fun j=>mul y (B t j)) c k=0:=by
    rw [zdv hL hyq k fun j hj=>⟨h.lt t (by omega) j hj,hc j hj⟩,zbg hL k fun j hj=>⟨h.lt t (by omega) j hj,hc j hj⟩,hK t (by omega),hL.mulZero hyq]
   have z2:=zdu (x:=fun j=>mul y (B t j)) (v:=fun j=>neg (mul y (B t j))) (w:=c) hL k fun j hj=>⟨hL.mulLt _ _,hng j,hc j hj⟩
   have z3:dotN add mul (fun j=>add (mul y (B t j)) (neg (mul y (B t j)))) c k=0:=zdw hL k hc _ fun j _=>(hneg _ (hL.mulLt _ _)).2
   rw [z3,z1,hL.zeroAdd _ (zbc hL _ _ _)] at z2;rw [<-z2,hL.addZero (zbc hL _ _ _)]
theorem Tri.start:Tri q k 0 B p:=⟨fun _ h=>absurd h (by omega),fun _ h=>absurd h (by omega),fun _ h=>absurd h (by omega),fun _ h=>absurd h (by omega),fun _ _ _ h=>absurd h (by omega)⟩
theorem Tri.same (hL:FieldLaws q add mul) (hneg:∀ x,x<q->neg x<q/\add x (neg x)=0) (h:Tri q k m B p) {v c:Nat->Nat} (hv:∀ j,j<k->v j<q) (hc:∀ j,j<k->c j<q) (hz:∀ j,j<k->redN add mul neg B p v m j=0):(KerB add mul k m B c/\dotN add mul c v k=0)↔KerB add mul k m B c:=by
 refine ⟨fun h=>h.1,fun hK=>⟨hK,?_⟩⟩
 rw [<-zcJ (neg:=neg) hL hneg h hv hc hK m (Nat.le_refl _),zbg hL k fun j hj=>⟨hc j hj,by have:=hL.two; rw [hz j hj]; omega⟩]
 exact zdw hL k hc _ hz
theorem Tri.next (hL:FieldLaws q add mul) (hneg:∀ x,x<q->neg x<q/\add x (neg x)=0) (h:Tri q k m B p) {v b:Nat->Nat} {f i:Nat} (hv:∀ j,j<k->v j<q) (hf:f<k) (hlow:∀ j,j<f->redN add mul neg B p v m j=0) (hi:i<q) (h1:mul i (redN add mul neg B p v m f)=1) (hb:∀ j,j<k->b j=mul i (redN add mul neg B p v m j)) :
  Tri q k (m+1) (fun t=>if t=m then b else B t) (fun t=>if t=m then f else p t)/\∀ c,(∀ j,j<k->c j<q)->((KerB add mul k m B c/\dotN add mul c v k=0)↔KerB add mul k (m+1) (fun t=>if t=m then b else B t) c):=by
 have hq:=hL.two
 have hr:=zcd (neg:=neg) (B:=B) (p:=p) hL hv m
 refine ⟨⟨fun t ht j hj=>?_,fun t ht=>?_,fun t ht=>?_,fun t ht j hj=>?_,fun t s hts hs=>?_⟩,fun c hc=>?_⟩
 ·by_cases e:t=m
  ·simp only [if_pos e]; rw [hb j hj]; exact hL.mulLt _ _
  ·simp only [if_neg e]; exact h.lt t (by omega) j hj
 ·by_cases e:t=m
  ·simp only [if_pos e]; exact hf
  ·simp only [if_neg e]; exact h.plt t (by omega)
 ·by_cases e:t=m
  ·simp only [if_pos e]; rw [hb f hf]; exact h1
  ·simp only [if_neg e]; exact h.one t (by omega)
 ·by_cases e:t=m
  ·simp only [if_pos e] at hj ⊢; rw [hb j (by omega),hlow j hj]; exact hL.mulZero hi
  ·simp only [if_neg e] at hj ⊢; exact h.low t (by omega) j hj
 ·by_cases e:s=m
  ·simp only [if_pos e,if_neg (show t≠m by omega)]
   rw [hb _ (h.plt t (by omega)),zeU hL hneg h hv m (Nat.le_refl _) t (by omega)]
   exact hL.mulZero hi
  ·simp only [if_neg e,if_neg (show t≠m by omega)]
   exact h.zero t s hts (by omega)
 ·have hbd:dotN add mul c b k=mul i (dotN add mul c (redN add mul neg B p v m) k):=by
   have e1:dotN add mul c b k=dotN add mul (fun j=>mul i (redN add mul neg B p v m j)) c k:=by
    rw [zbg hL k fun j hj=>⟨hc j hj,by rw [hb j hj]; exact hL.mulLt _ _⟩]
    exact zbr k fun j hj=>⟨hb j hj,rfl⟩
   rw [e1,zdv hL hi k fun j hj=>⟨hr j hj,hc j hj⟩,zbg hL k fun j hj=>⟨hr j hj,hc j hj⟩]
  have hsp:∀ s,s<m->(fun t=>if t=m then b else B t) s=B s:=fun s hs=>if_neg (by omega)
  constructor
  ·rintro ⟨hK,hd⟩ t ht
   by_cases e:t=m
   ·simp only [if_pos e]
    rw [hbd,zcJ hL hneg h hv hc hK m (Nat.le_refl _),hd]
    exact hL.mulZero hi
   ·simp only [if_neg e]
    exact hK t (by omega)
  ·intro hK
   have hK2:KerB add mul k m B c:=fun t ht=>by
    have:=hK t (by omega)
    simp only [if_neg (show t≠m by omega)] at this
    exact this
   refine ⟨hK2,?_⟩
   have h2:=hK m (by omega)
   simp only [if_true] at h2
   rw [hbd,zcJ hL hneg h hv hc hK2 m (Nat.le_refl _)] at h2
   have hd:=zbc hL c v k
   have hyq:=hr f hf
   have e3:mul (redN add mul neg B p v m f) (mul i (dotN add mul c v k))=dotN add mul c v k:=by
    rw [<-hL.mulAssoc _ _ _ hyq hi hd,hL.mulComm _ i hyq hi,h1,hL.oneMul _ hd]
   rw [h2,hL.mulZero hyq] at e3
   exact e3.symm
end
theorem zgo {add mul:Nat->Nat->Nat} {V:Nat->Nat->Nat} {c:Nat->Nat} {j:Nat}:∀ n,dotN add mul c (fun t=>V t j) n=spE add mul V c n j
 | 0=>rfl
 | n+1=>by
  show add (dotN add mul c (fun t=>V t j) n) (mul (c n) (V n j))=add (spE add mul V c n j) (mul (c n) (V n j))
  rw [zgo n]
section
variable {q n k:Nat} {add mul:Nat->Nat->Nat} {V:Nat->Nat->Nat} {neg:Nat->Nat}
theorem zgp (hL:FieldLaws q add mul) {x y z:Nat} (hx:x<q) (hy:y<q) (hz:z<q) (h1:add x z=0) (h2:add y z=0):x=y:=by
 rw [<-hL.zeroAdd x hx,<-h2,hL.addAssoc y z x hy hz hx,hL.addComm z x,h1,hL.addComm,hL.zeroAdd y hy]
theorem zho (hL:FieldLaws q add mul) {p:Nat->Nat} (hE:EchN q n k k n p V) {u:Nat->Nat} (hu:∀ j,j<k->u j<q):InSp q add mul n k V u↔∀ j,j<k->u j=spE add mul V (fun i=>u (p i)) n j:=by
 constructor
 ·rintro ⟨c,hc,hx⟩ j hj
  rw [hx j hj]
  refine zbO n fun i hi=>⟨?_,rfl⟩
  rw [hx _ (hE.pvlt i hi),hE.spE_pv hL hc hi]
 ·intro h
  exact ⟨fun i=>u (p i),fun i hi=>hu _ (hE.pvlt i hi),h⟩
end
def fE (u:Nat->Nat):Nat->Int
 | 0 => -1
 | n+1=>if u n=0 then fE u n else if fE u n<0 then (n:Int) else fE u n
def lE (u:Nat->Nat):Nat->Int
 | 0 => -1
 | n+1=>if u n=0 then lE u n else (n:Int)
section
variable {u u':Nat->Nat}
theorem zjD:∀ n,-1<=fE u n/\fE u n<(n:Int)
 | 0=>by show (-1:Int) <= -1/\(-1:Int)<0; omega
 | n+1=>by
  have h:=zjD n
  show -1<=(if u n=0 then fE u n else if fE u n<0 then (n:Int) else fE u n)/\(if u n=0 then fE u n else if fE u n<0 then (n:Int) else fE u n)<((n+1:Nat):Int)
  split
  ·omega
  ·split <;> omega
theorem ziJ:∀ n,-1<=lE u n/\lE u n<(n:Int)
 | 0=>by show (-1:Int) <= -1/\(-1:Int)<0; omega
 | n+1=>by
  have h:=ziJ n
  show -1<=(if u n=0 then lE u n else (n:Int))/\(if u n=0 then lE u n else (n:Int))<((n+1:Nat):Int)
  split <;> omega
theorem zjw:∀ n j,j<n->u j≠0->(j:Int)<=lE u n
 | 0,_,h,_=>absurd h (by omega)
 | n + 1, j, h, hu => by
  show (j:Int)<=if u n=0 then lE u n else (n:Int)
  split
  ·rename_i h0
   have:j≠n:=fun e=>hu (by rw [e]; exact h0)
   exact zjw n j (by omega) hu
  ·omega
theorem zjm:∀ n t:Nat,lE u n=(t:Int)->t<n/\u t≠0
 | 0,t,h=>by
  have h:(-1:Int)=t:=h
  omega
 | n + 1, t, h => by
  have h:(if u n=0 then lE u n else (n:Int))=t:=h
  by_cases h0:u n=0
  ·rw [if_pos h0] at h
   have:=zjm n t h
   exact ⟨by omega,this.2⟩
  ·rw [if_neg h0] at h
   obtain rfl:n=t:=by omega
   exact ⟨by omega,h0⟩
theorem zgq:∀ n t:Nat,(∀ j,t<=j->j<n->u j=0)->lE u n<(t:Int)
 | 0,t,_=>by show (-1:Int)<t; omega
 | n + 1, t, h => by
  show (if u n=0 then lE u n else (n:Int))<t
  by_cases h0:u n=0
  ·rw [if_pos h0]
   exact zgq n t fun j h1 h2=>h j h1 (by omega)
  ·rw [if_neg h0]
   by_cases e:t<=n
   ·exact absurd (h n e (by omega)) h0
   ·omega
theorem zb7 {n:Nat} {j:Nat} (hj:j<n) (h:lE u n<(j:Int)):u j=0:=by
 by_cases e:u j=0
 ·exact e
 ·have:=zjw n j hj e
  omega
theorem zjB:∀ n p,p<n->u p≠0->(∀ j,j<p->u j=0)->fE u n=(p:Int)
 | 0,_,h,_,_=>absurd h (by omega)
 | n + 1, p, h, hp, h0 => by
  show (if u n=0 then fE u n else if fE u n<0 then (n:Int) else fE u n)=p
  have hz:∀ m,(∀ j,j<m->u j=0)->fE u m<0:=by
   intro m
   induction m with
   | zero=>intro _; show (-1:Int)<0; omega
   | succ m ih =>
    intro h
    show (if u m=0 then fE u m else _)<0
    rw [if_pos (h m (by omega))]
    exact ih fun j hj=>h j (by omega)
  by_cases e:p=n
  ·subst e
   rw [if_neg hp,if_pos (hz p h0)]
  ·have ih:=zjB n p (by omega) hp h0
   rw [ih]
   split
   ·rfl
   ·rw [if_neg (by omega)]
end
structure SpanF (q n N:Nat) (pv:Nat->Nat) (R:Nat->Nat->Nat):Prop where
 lt:∀ i,i<n->∀ j,j<N->R i j<q
 inc:∀ s t,s<t->t<n->pv s<pv t
 pvlt:∀ s,s<n->pv s<N
 one:∀ s,s<n->R s (pv s)=1
 low:∀ s,s<n->∀ j,j<pv s->R s j=0
def mesL (R:Nat->Nat->Nat) (N:Nat):Nat->Nat
 | 0=>0
 | n+1=>mesL R N n+(lE (R n) N+1).toNat
theorem zhW {R:Nat->Nat->Nat} {N:Nat}:∀ n,mesL R N n<=n*N
 | 0=>by show 0<=_; omega
 | n+1=>by
  have h1:=zhW (R:=R) (N:=N) n
  have h2:=ziJ (u:=R n) N
  show mesL R N n+(lE (R n) N+1).toNat<=(n+1)*N
  rw [Nat.add_mul,Nat.one_mul]
  omega
theorem zgr {R R':Nat->Nat->Nat} {N i:Nat} (h:∀ u,u≠i->R' u=R u):∀ n,n<=i->mesL R' N n=mesL R N n
 | 0,_=>rfl
 | n+1,hn=>by
  show mesL R' N n+(lE (R' n) N+1).toNat=mesL R N n+(lE (R n) N+1).toNat
  rw [zgr h n (by omega),h n (by omega)]
theorem zhX {R R':Nat->Nat->Nat} {N i:Nat} (h:∀ u,u≠i->R' u=R u) (hl:lE (R' i) N<lE (R i) N):∀ n,i<n->mesL R' N n<mesL R N n
 | 0,hi=>absurd hi (by omega)
 | n + 1, hi => by
  show mesL R' N n+(lE (R' n) N+1).toNat<mesL R N n+(lE (R n) N+1).toNat
  have h1:=ziJ (u:=R' n) N
  have h2:=ziJ (u:=R n) N
  by_cases e:i=n
  ·subst e
   rw [zgr h i (Nat.le_refl _)]
   omega
  ·have ih:=zhX h hl n (by omega)
   rw [h n (by omega)]
   omega
section
variable {q n N:Nat} {add mul:Nat->Nat->Nat} {neg:Nat->Nat} {pv:Nat->Nat} {R:Nat->Nat->Nat}
theorem EchN.spanF {V:Nat->Nat->Nat} (h:EchN q n N N n pv V):SpanF q n N pv V:=⟨h.lt,h.inc,h.pvlt,h.one,h.lead⟩
theorem SpanF.pos (h:SpanF q n N pv R) {i:Nat} (hi:i<n):(pv i:Int)<=lE (R i) N:=zjw N _ (h.pvlt i hi) (by rw [h.one i hi]; omega)
theorem SpanF.first (h:SpanF q n N pv R) {i:Nat} (hi:i<n):fE (R i) N=(pv i:Int):=zjB N _ (h.pvlt i hi) (by rw [h.one i hi]; omega) (h.low i hi)
theorem ziv (hL:FieldLaws q add mul) (hneg:∀ x,x<q->neg x<q/\add x (neg x)=0) {a b:Nat} (ha:a<q) (hb:b<q):neg (mul a b)=mul (neg a) b:=by
 have h1:=hneg (mul a b) (hL.mulLt _ _)
 have h2:=hneg a ha
 refine zgp hL h1.1 (hL.mulLt _ _) (hL.mulLt a b) ?_ ?_
 ·rw [hL.addComm]; exact h1.2
 ·rw [hL.mulComm (neg a) b h2.1 hb,hL.mulComm a b ha hb,<-hL.distrib b _ _ hb h2.1 ha,hL.addComm (neg a) a,h2.2,hL.mulZero hb]
theorem SpanF.step (hL:FieldLaws q add mul) (hneg:∀ x,x<q->neg x<q/\add x (neg x)=0) (h:SpanF q n N pv R) {i j t a:Nat} (hij:i<j) (hj:j<n) (h1:lE (R i) N=(t:Int)) (h2:lE (R j) N=(t:Int)) (ha:a<q) (hat:mul a (R j t)=R i t)
  {R':Nat->Nat->Nat} (e1:∀ k,k<N->R' i k=add (R i k) (neg (mul a (R j k)))) (e2:∀ u,u≠i->R' u=R u) :
  SpanF q n N pv R'/\SameSp q add mul N n n R R'/\lE (R' i) N<(t:Int):=by
 have hin:i<n:=by omega
 have hR:=h.lt
 have hn0:neg 0=0:=by
  have:=hneg 0 (by have:=hL.two; omega)
  exact (hL.zeroAdd _ this.1).symm.trans this.2
 have hlt:∀ u,u<n->∀ k,k<N->R' u k<q:=fun u hu k hk=>by
  by_cases e:u=i
  ·rw [e,e1 k hk]; exact hL.addLt _ _
  ·rw [e2 u e]; exact hR u hu k hk
 have hlow:∀ k,k<N->R j k=0->R' i k=R i k:=fun k hk hz=>by
  rw [e1 k hk,hz,hL.mulZero ha,hn0,hL.addZero (hR i hin k hk)]
 have hp:pv i<pv j:=h.inc i j hij hj
 refine ⟨⟨hlt,h.inc,h.pvlt,fun s hs=>?_,fun s hs k hk=>?_⟩,?_,?_⟩
 ·by_cases e:s=i
  ·subst e
   rw [hlow _ (h.pvlt s hs) (h.low j hj _ hp)]
   exact h.one s hs
  ·rw [e2 s e]; exact h.one s hs
 ·by_cases e:s=i
  ·subst e
   have:=h.pvlt s hs
   rw [hlow k (by omega) (h.low j hj k (by omega))]
   exact h.low s hs k hk
  ·rw [e2 s e]; exact h.low s hs k hk
 ·have ho:RowOps q add mul n N R R':=.eq (.add (.refl (V:=R)) hin hj (by omega) (hneg a ha).1) fun u hu k hk=>by
   by_cases e:u=i
   ·subst e
    rw [if_pos rfl,e1 k hk,ziv hL hneg ha (hR j hj k hk)]
   ·rw [if_neg e,e2 u e]
  exact (RowOps.sp hL hR ho).1
 ·refine zgq N t fun k hk hkN=>?_
  by_cases e:k=t
  ·subst e
   rw [e1 k hkN,hat]
   exact (hneg _ (hR i hin k hkN)).2
  ·rw [e1 k hkN,zb7 (u:=R i) hkN (by omega),zb7 (u:=R j) hkN (by omega),hL.mulZero ha,hn0,hL.addZero (by have:=hL.two; omega)]
end
theorem zhp {w:World} {B n m:Nat} {A:Option Addr} {f:Nat->Int} (h:IntsR w B A n f) (hm:m<=n):IntsR w B A m f:=fun i hi=>h i (by omega)
theorem zhq {w:World} {B n b o s:Nat} {f:Nat->Int} (h:IntsR w B (some ⟨b,o,none⟩) n f) (hs:s<=n):IntsR w B (some ⟨b,o+s,none⟩) (n - s) (fun j=>f (s+j)):=fun j hj=>by
 obtain ⟨b',o',e,hb,hc⟩:=h (s+j) (by omega)
 injection e with e
 injection e with e1 e2
 subst e1 e2
 refine ⟨b,o+s,rfl,hb,fun q hq=>?_⟩
 have h2:=hc q hq
 rw [show o+s+j*1+q=o+(s+j)*1+q by omega]
 exact h2
theorem zaT {w:World} {ops:Array Oper} {rest:List Oper} {o:Oper} {a:Act} {Q:Exit->Act->World->Prop} (hgd:o.guard=none) (sl x:Operand)
  (ho:o.op=.call { callee:=.builtin .append,args:=#[sl,x],argTypes:=#[25, 25] })
  {base n:Nat} {v:Value} {R:Nat->Value} (h:Own w base 22 1 v n (fun i _=>R i)) (hv:a.eval sl=v) {ad:Addr} {c:Nat} {r:Value} (hx:a.eval x=.slice (some ad) 1 c)
  (hcell:w.cell? (ad.add 0)=some r) (h1:r.oneCell'=true) (hbase:base<=w.heap.size) (hN:n<=1048576)
  (K:∀ v' w',Own w' base 22 1 v' (n+1) (fun i _=>if i=n then r else R i)->w.grownBy w' v.ownBlock->wpList Tryz.prog ops Q rest (a.put o.dst v') w'):wpList Tryz.prog ops Q (o :: rest) a w:=by
 obtain ⟨i0,qi0,qz0,qz1,qz2⟩:=info_parts Tryz.infoInts
 have hown:Own w base 22 1 v n (fun i _=>if i=n then r else R i):=h.congr fun i hi _ _=>by rw [if_neg (by omega)]
 refine zaj w hgd sl x _ ho base 22 i0 _ 1 24 Tryz.underlying25 qi0 qz0 qz1 qz2 rfl (by omega) v n _ hv hown ad c hx (fun j hj=>by
   obtain rfl:j=0:=by omega
   rw [if_pos rfl]
   exact hcell) (fun _ _=>by rw [if_pos rfl]; exact h1) (by unfold maxLen; omega) (by omega) hbase ?_
 intro v' w3 hown3 hg3 _
 exact K v' w3 hown3 hg3
theorem zb8 {w:World} {ops:Array Oper} {rest:List Oper} {o:Oper} {a:Act} {Q:Exit->Act->World->Prop} (hgd:o.guard=none) (sl x:Operand)
  (ho:o.op=.call { callee:=.builtin .append,args:=#[sl,x],argTypes:=#[22, 22] }) (b0 o0:Nat) (hv:a.eval sl=.slice (some ⟨b0,o0,none⟩) 0 0)
  (A:Option Addr) (c:Nat) (hx:a.eval x=.slice A 0 c) (h:wpList Tryz.prog ops Q rest (a.put o.dst (.slice (some ⟨b0,o0,none⟩) 0 0)) w):wpList Tryz.prog ops Q (o :: rest) a w:=by
 obtain ⟨i0,qi0,qz0,qz1,qz2⟩:=info_parts Tryz.infoInt
 refine wpList_plain hgd fun K hK=>?_
 have hrun:=zaI (P:=Tryz.prog) w 22 o.type 3 i0 Tryz.underlying22 qi0 b0 o0 A c
 unfold Oper.wp execOp
 simp only [ho,resolve,invoke,builtin,Sem.run_bind,Sem.run_pure,Result.andThen_ok,List.map_toArray,List.map_cons,List.map_nil,hv,hx,hrun]
 exact hK _ _ h
theorem zhr (T:Option Addr) (n c:Nat) (W:Nat->Nat->Nat) (w:World) (h:MRows w T n 0 W) (hn:n<=1048576) :
  Calls Tryz.prog 224 #[.slice T n c] w fun e w'=>∃ A c',e=.returned (.slice A n c')/\n<=c'/\Below w.heap.size w w':=by
 have HR:=hid h
 have H0:Hid (∃ R:Nat->Value,Own w w.heap.size 22 1 (.slice none 0 0) 0 (fun i _=>R i)):=hid ⟨fun _=>undef,Own.nil _ _ _ _ _⟩
 clear h
 go_enter Tryz.func224, Tryz.ntmps224
 go_wp2
 obtain ⟨nv,hnv⟩:∃ x:Value,x=.slice none 0 0:=⟨_,rfl⟩
 rw [<-hnv] at H0 ⊢;clear hnv
 go_loopg [3,4] n (fun gg mv iv wx=>∃ i:Nat,iv=.int .i64 (i:Nat)/\i<=n/\n<=i+gg/\Hid (∃ R:Nat->Value,Own wx w.heap.size 22 1 mv i (fun i _=>R i))/\Below w.heap.size w wx)
 case atStart=>exact ⟨0,rfl,by omega,by omega,H0,Below.refl _ _⟩
 case round =>
  clear H0
  obtain ⟨i,rfl,hi,hig,HM,hB⟩:=hrel
  have hi0:(0:Int)<=(i:Int):=by omega
  by_cases hlt:i<n
  ·have hlt':(i:Int)<(n:Int):=by omega
   obtain ⟨b,o,RA,rc,hT,hb,x0,_,_,hrow,_⟩:=HR.out i hlt
   subst hT
   have kb1:Below wr.heap.size wr (wr.alloc (Obj.cells #[] 3)):=(Below.refl _ _).alloc (Nat.le_refl _) _
   have hB1:=onS hB kb1
   have x1:=(hB1.cell (p:=⟨b,o+i,none⟩) hb).trans x0
   have x2:=(hB.cell (p:=⟨b,o+i,none⟩) hb).trans x0
   have kb3:Below (wr.alloc (Obj.cells #[] 3)).heap.size (wr.alloc (Obj.cells #[] 3)) ((wr.alloc (Obj.cells #[] 3)).alloc (Obj.cells #[.slice (some ⟨wr.heap.size,0,none⟩) 0 0] 22)):=(Below.refl _ _).alloc (Nat.le_refl _) _
   obtain ⟨R,hR⟩:=HM.out
   have HM2:=hid ((hR.on kb1).on kb3)
   have HB2:=hid (onS hB1 kb3)
   have HZ2:=hid HB2.out.size
   have HC2:Hid (((wr.alloc (Obj.cells #[] 3)).alloc (Obj.cells #[.slice (some ⟨wr.heap.size,0,none⟩) 0 0] 22)).cell? ((⟨wr.heap.size+1,0,none⟩:Addr).add 0)=some (.slice (some ⟨wr.heap.size,0,none⟩) 0 0)):=by
    have h1:(wr.alloc (Obj.cells #[] 3)).heap.size=wr.heap.size+1:=by simp
    rw [<-h1]
    exact hid tbox2
   have HL:Hid (i<=1048576):=by show _<=_; omega
   clear kb1 kb3 hR HM hB1
   go_upto_region 4 with (first | (at_builtin; (refine zb8 rfl (.tmp 12) (.tmp 16) rfl wr.heap.size 0 rfl RA rc rfl ?_)) | (at_builtin; (refine zaT rfl (.tmp 11) (.tmp 18) rfl HM2.out rfl (ad:=⟨wr.heap.size+1,0,none⟩) (c:=1) rfl HC2.out rfl HZ2.out HL.out ?_); intro v9 w9 o1 o2))
   have HM9:Hid (∃ R:Nat->Value,Own w9 w.heap.size 22 1 v9 (i+1) (fun i _=>R i)):=hid ⟨_,o1⟩
   have HB9:=hid (HB2.out.grown o2 HZ2.out (fun q e=>(HM2.out.lt q e).1))
   clear o1 o2
   go_wp2
   go_roundg (gk - 1)
   case measure=>omega
   case rel=>exact ⟨i+1,by go_num,by omega,by omega,HM9,HB9.out⟩
  ·have hlt':¬ (i:Int)<(n:Int):=by omega
   obtain rfl:i=n:=by omega
   obtain ⟨R,hR⟩:=HM.out
   obtain ⟨A,c',rfl⟩:=hR.shape
   have hcl:=hR.capL
   go_wp2
   go_ret
   exact ⟨A,c',rfl,hcl.1,hB⟩
theorem zhs (P M:Int) (A:Option Addr) (k c:Nat) (T:Option Addr) (n d:Nat) (W:Nat->Nat->Nat) (w:World) (h:MRows w T n 0 W) (hn:n<=1048576) :
  Calls Tryz.prog 191 #[.agg #[.int .i64 P,.int .i64 M,.slice A k c],.slice T n d,.int .i64 0] w fun e w'=>∃ A c',e=.returned (.tuple #[.slice A n c',.slice none 0 0])/\n<=c'/\Below w.heap.size w w':=by
 have HR:=hid h
 clear h
 have hB:Below w.heap.size w (w.alloc (.cells #[.int .i64 P,.int .i64 M,.slice A k c] 24)):=(Below.refl _ _).alloc (Nat.le_refl _) _
 obtain ⟨w0,hw0⟩:∃ W,W=w.alloc (.cells #[.int .i64 P,.int .i64 M,.slice A k c] 24):=⟨_,rfl⟩
 rw [<-hw0] at hB
 have HB:=hid hB
 clear hB
 go_enter Tryz.func191, Tryz.ntmps191
 go_upto_region 1 with fail
 rw [<-hw0];clear hw0
 go_wp2_with fail
 refine (zhr T n d W w0 (IntRows.on HR.out HB.out) hn).mono ?_
 rintro e w1 ⟨A1,c1,rfl,hc1,kb⟩
 replace HB:=hid (onS HB.out kb)
 have HC1:=hid hc1
 clear kb hc1
 go_upto_region 5 with fail
 go_loopg [9,11] 0 (fun gg pv cv wx=>pv=.slice none 0 0/\cv=.int .i64 0/\wx=w1)
 case atStart=>exact ⟨rfl,rfl,rfl⟩
 case round =>
  obtain ⟨rfl,rfl,hwx⟩:=hrel
  obtain rfl:w1=wr:=hwx.symm
  go_wp2
  go_ret2
  exact ⟨A1,c1,rfl,HC1.out,HB.out⟩
theorem zgs (P M:Int) (A:Option Addr) (k c:Nat) (T:Option Addr) (n d:Nat) (W:Nat->Nat->Nat) (w:World) (h:MRows w T n 0 W) (hn:n<=1048576) :
  Calls Tryz.prog 136 #[.agg #[.int .i64 P,.int .i64 M,.slice A k c],.slice T n d,.int .i64 0] w fun e w'=>∃ v,e=.returned (.tuple #[v,.slice none 0 0])/\Below w.heap.size w w':=by
 have HR:=hid h
 clear h
 have rf:=zaf (w:=w) (a:=.int .i64 P) (b:=.int .i64 M) (c:=.slice A k c) (T := 24)
 have hB:Below w.heap.size w (w.alloc (.cells #[.int .i64 P,.int .i64 M,.slice A k c] 24)):=(Below.refl _ _).alloc (Nat.le_refl _) _
 obtain ⟨w0,hw0⟩:∃ W,W=w.alloc (.cells #[.int .i64 P,.int .i64 M,.slice A k c] 24):=⟨_,rfl⟩
 rw [<-hw0] at hB rf
 have HB:=hid hB
 clear hB
 go_enter Tryz.func136, Tryz.ntmps136
 go_upto_region 1 with fail
 rw [<-hw0];clear hw0
 have q0:=qc0 rf
 have q1:=qc1 rf
 have q2:=qc2 rf
 clear rf
 go_wp2_with fail
 refine (zhs P M A k c T n d W w0 (IntRows.on HR.out HB.out) hn).mono ?_
 rintro e w1 ⟨A1,c1,rfl,hc1,kb⟩
 replace HB:=hid (onS HB.out kb);clear kb q0 q1 q2
 have hc0:0<=c1:=Nat.zero_le _
 cases A1 with
 | none =>
  go_wp2
  go_ret2
  exact ⟨_,rfl,HB.out⟩
 | some a1 =>
  go_wp2
  go_ret2
  exact ⟨_,rfl,HB.out⟩
def RankIs (q:Nat) (add mul:Nat->Nat->Nat) (n:Nat) (V:Nat->Nat->Nat) (lo m a:Nat):Prop:=∃ p W,EchN q n m m a p W/\RowOps q add mul n m (fun i j=>V i (lo+j)) W
theorem zbQ (P M:Nat) (m:Nat->Nat) (A:Option Addr) (k c N:Nat) (T:Option Addr) (n d:Nat) (V:Nat->Nat->Nat) (lo hi:Nat) (w:World) (h:CodeR w P M m A k N T n V) (hlh:lo<=hi) (hhN:hi<=N) :
  Calls Tryz.prog 72 #[.agg #[.int .i64 (P:Nat),.int .i64 (M:Nat),.slice A k c,.int .i64 (N:Nat),.slice T n d],.int .i64 (lo:Nat),.int .i64 (hi:Nat)] w fun e w'=>∃ a:Nat,e=.returned (.int .i64 (a:Nat))/\RankIs (P ^ M) (addF P M) (mulF P M m) n V lo (hi - lo) a/\Below w.heap.size w w':=by
 have HC:=hid h
 have hN64:=h.ln2
 have hnN:=h.n_le
 clear h
 have rf:=zai (w:=w) (a:=.int .i64 (P:Nat)) (b:=.int .i64 (M:Nat)) (c:=.slice A k c) (d:=.int .i64 (N:Nat)) (e:=.slice T n d) (T := 27)
 have hB:Below w.heap.size w (w.alloc (.cells #[.int .i64 (P:Nat),.int .i64 (M:Nat),.slice A k c,.int .i64 (N:Nat),.slice T n d] 27)):=(Below.refl _ _).alloc (Nat.le_refl _) _
 obtain ⟨w1,hw1⟩:∃ W,W=w.alloc (.cells #[.int .i64 (P:Nat),.int .i64 (M:Nat),.slice A k c,.int .i64 (N:Nat),.slice T n d] 27):=⟨_,rfl⟩
 rw [<-hw1] at hB rf
 go_enter Tryz.func72, Tryz.ntmps72
 go_upto_region 1 with fail
 rw [<-hw1];clear hw1
 obtain ⟨b0,hb0⟩:∃ b,b=w.heap.size:=⟨_,rfl⟩
 rw [<-hb0] at rf;rw [<-hb0];clear hb0
 have HBOX:Hid (∀ X,Below w1.heap.size w1 X->(X.cell? ⟨b0,0,none⟩=some (.int .i64 (P:Nat))/\X.cell? ⟨b0,1,none⟩=some (.int .i64 (M:Nat))/\X.cell? ⟨b0,2,none⟩=some (.slice A k c)/\X.cell? ⟨b0,3,none⟩=some (.int .i64 (N:Nat))/\X.cell? ⟨b0,4,none⟩=some (.slice T n d))):=hid fun X hx =>
  ⟨(zab rf hx).cell (i:=0) (by omega),(zab rf hx).cell (i:=1) (by omega),(zab rf hx).cell (i:=2) (by omega),(zab rf hx).cell (i:=3) (by omega),(zab rf hx).cell (i:=4) (by omega)⟩
 have HB:=hid hB
 clear hB rf
 go_upto_region 2 with fail
 have kb:=(Below.refl w1.heap.size w1).alloc (Nat.le_refl _) (Obj.cells #[] 22)
 have HO:Hid (Own (w1.alloc (Obj.cells #[] 22)) w1.heap.size 22 1 (.slice (some ⟨w1.heap.size,0,none⟩) 0 0) 0 (fun _ _=>undef)):=hid (Own.new (Nat.le_refl _) (Nat.le_refl _) (by unfold maxLen; omega) (by simp) fun k hk=>absurd hk (by omega))
 obtain ⟨w2,hw2⟩:∃ W,W=w1.alloc (Obj.cells #[] 22):=⟨_,rfl⟩
 rw [<-hw2] at HO kb ⊢
 obtain ⟨v0,hv0⟩:∃ v:Value,v=.slice (some ⟨w1.heap.size,0,none⟩) 0 0:=⟨_,rfl⟩
 rw [<-hv0] at HO ⊢
 have K2:=hid kb
 clear kb hw2 hv0
 go_upto_region 3 with fail
 go_loopg [7,8] n (fun gg tv iv wx=>∃ (i:Nat) (R:Nat->Value),iv=.int .i64 (i:Nat)/\i<=n/\n<=i+gg/\Hid (Own wx w1.heap.size 22 1 tv i (fun u _=>R u))/\Hid (∀ u,u<i->∃ X c,R u=.slice X (hi - lo) c/\hi - lo<=c/\c<=maxLen/\IntsR w1 w1.heap.size X (hi - lo) (fun j=>((V u (lo+j):Nat):Int)))/\Below w1.heap.size w1 wx)
 case atStart=>exact ⟨0,fun _=>undef,rfl,by omega,by omega,HO,hid fun _ h=>absurd h (by omega),K2.out⟩
 case round =>
  clear HO K2
  obtain ⟨i,R,rfl,hi',hig,HO,HRS,hBx⟩:=hrel
  have hi0:(0:Int)<=(i:Int):=by omega
  have K2:=hid hBx
  obtain ⟨w3,hw3⟩:∃ X,X=wr:=⟨_,rfl⟩
  subst hw3
  clear hBx
  obtain ⟨q0,q1,q2,q3,q4⟩:=HBOX.out _ K2.out
  by_cases hin:i<n
  ·have hin':(i:Int)<(n:Int):=by omega
   obtain ⟨pb,po,RA,rc,hTe,_,x0,hc1,hc2,hrow,hrng⟩:=(HC.out.on HB.out).rows i hin
   subst hTe
   have hrow:IntsR w1 w1.heap.size RA N (fun j=>((V i j:Nat):Int)):=hrow
   replace x0:=cellS K2.out x0
   have hc1:N<=rc:=hc1
   have hN1:=HC.out.ln1
   obtain ⟨ab,ao,hAe,_,_⟩:=hrow.at (i:=0) (by omega)
   subst hAe
   have hlo0:(0:Int)<=(lo:Int):=by omega
   have hlohi:(lo:Int)<=(hi:Int):=by omega
   have hhic:(hi:Int)<=(rc:Int):=by omega
   have HROW:=hid hrow
   have HK2:Hid (∀ v:Value,Below w3.heap.size w3 (w3.alloc (Obj.cells #[v] 22))):=hid fun v=>(Below.refl _ _).alloc (Nat.le_refl _) _
   have HO8:Hid (∀ v:Value,Own (w3.alloc (Obj.cells #[v] 22)) w1.heap.size 22 1 u7 i (fun u _=>R u)):=hid fun v=>HO.out.on (HK2.out v)
   have HZ8:Hid (∀ v:Value,w1.heap.size<=(w3.alloc (Obj.cells #[v] 22)).heap.size):=hid fun v=>Nat.le_trans K2.out.size (HK2.out v).size
   have HIL:Hid (i<=1048576):=by show _<=_; omega
   have HM1:Hid (rc<=maxLen):=hid hc2
   have HM2:Hid (N<=rc):=hid hc1
   clear hrow hrng hc1 hc2
   by_cases hcl:lo=rc
   ·subst hcl
    go_upto_region 4 with (first | (at_builtin; (refine zaT rfl (.tmp 19) (.tmp 28) rfl (HO8.out _) rfl (ad:=⟨w3.heap.size,0,none⟩) (c:=1) rfl tbox2 rfl (HZ8.out _) HIL.out ?_); intro v9 w9 o1 o2))
    have HM9:=hid o1
    have HB9:=hid (Below.grown (onS K2.out (HK2.out _)) o2 (HZ8.out _) (fun q e=>(HO.out.lt q e).1))
    have HRS2:Hid (∀ u,u<i+1->∃ X c,(if u=i then Value.slice (some ⟨ab,ao,none⟩) (hi - lo) 0 else R u)=.slice X (hi - lo) c/\hi - lo<=c/\c<=maxLen/\IntsR w1 w1.heap.size X (hi - lo) (fun j=>((V u (lo+j):Nat):Int))):=hid fun u hu=>by
     by_cases e:u=i
     ·refine ⟨_,_,if_pos e,by have:=HM2.out; omega,by unfold maxLen; omega,fun j hj=>absurd hj (by have:=HM2.out; omega)⟩
     ·rw [if_neg e]
      exact HRS.out u (by omega)
    clear o1 o2 q0 q1 q2 q3 q4 x0
    go_wp2
    go_roundg (gk - 1)
    case measure=>omega
    case rel=>exact ⟨i+1,_,by go_num,by omega,by omega,HM9,HRS2,HB9.out⟩
   ·have hcl2:¬ rc=lo:=fun h=>hcl h.symm
    go_upto_region 4 with (first | (at_builtin; (refine zaT rfl (.tmp 19) (.tmp 28) rfl (HO8.out _) rfl (ad:=⟨w3.heap.size,0,none⟩) (c:=1) rfl tbox2 rfl (HZ8.out _) HIL.out ?_); intro v9 w9 o1 o2))
    have HM9:=hid o1
    have HB9:=hid (Below.grown (onS K2.out (HK2.out _)) o2 (HZ8.out _) (fun q e=>(HO.out.lt q e).1))
    have HRS2:Hid (∀ u,u<i+1->∃ X c,(if u=i then Value.slice (some ⟨ab,ao+lo,none⟩) (hi - lo) (rc - lo) else R u)=.slice X (hi - lo) c/\hi - lo<=c/\c<=maxLen/\IntsR w1 w1.heap.size X (hi - lo) (fun j=>((V u (lo+j):Nat):Int))):=hid fun u hu=>by
     by_cases e:u=i
     ·refine ⟨_,_,if_pos e,by have:=HM2.out; omega,by have:=HM1.out; omega,?_⟩
      rw [e]
      exact zhp (zhq HROW.out (by omega)) (by omega)
     ·rw [if_neg e]
      exact HRS.out u (by omega)
    clear o1 o2 q0 q1 q2 q3 q4 x0
    go_wp2
    go_roundg (gk - 1)
    case measure=>omega
    case rel=>exact ⟨i+1,_,by go_num,by omega,by omega,HM9,HRS2,HB9.out⟩
  ·have hin':¬ (i:Int)<(n:Int):=by omega
   obtain rfl:i=n:=by omega
   obtain ⟨tA,tc,hT⟩:=HO.out.shape
   subst hT
   obtain ⟨m1,hm1⟩:∃ x,x=hi - lo:=⟨_,rfl⟩
   have hsub:wrap64 ((hi:Int) - (lo:Int))=(m1:Int):=by unfold wrap64; omega
   have hsub2:IntKind.i64.wrap ((hi:Int) - (lo:Int))=(m1:Int):=by rw [IntWalk.i64_in _ (by omega)]; omega
   have HMR:Hid (MRows w3 tA i m1 (fun u j=>V u (lo+j))):=hid fun u hu=>by
    obtain ⟨X,cc,hR,h1,h2,h3⟩:=HRS.out u hu
    obtain ⟨b,off,e,hb,hcell⟩:=HO.out.rd rfl u hu
    have hc0:=hcell 0 (by omega)
    rw [Nat.mul_one,Nat.add_zero] at hc0
    have hc0:w3.cell? ⟨b,off+u,none⟩=some (R u):=hc0
    rw [hR] at hc0
    subst hm1
    exact ⟨b,off,X,cc,e,hb,hc0,h1,h2,h3.on K2.out,fun j hj=>by
     have hj:j<hi - lo:=hj
     have:=HC.out.lt u hu (lo+j) (by omega)
     show -9223372036854775808<=((V u (lo+j):Nat):Int)/\((V u (lo+j):Nat):Int)<=9223372036854775807
     have:=HC.out.fld.1.2.2.2
     omega⟩
   have HLT:Hid (∀ u,u<i->∀ j,j<m1->V u (lo+j)<P ^ M):=hid fun u hu j hj=>HC.out.lt u hu _ (by omega)
   have hm64:m1<=64:=by omega
   have HMM:=hid hm1
   clear hm1
   go_wp2_with fail
   by_cases hz:m1=0
   ·subst hz
    refine (zgs (P:Int) (M:Int) A k c tA i tc _ w3 HMR.out (by omega)).mono ?_
    rintro e w4 ⟨v,rfl,kb⟩
    have K3:=hid (onS HB.out (onS K2.out kb))
    clear kb q0 q1 q2 q3 q4
    go_wp2
    go_ret
    rw [<-HMM.out]
    refine ⟨0,rfl,⟨fun _=>0,fun u j=>V u (lo+j),?_,.refl⟩,K3.out⟩
    exact ⟨Nat.zero_le _,fun u hu j hj=>absurd hj (by omega),fun _ _ _ h=>absurd h (by omega),fun _ h=>absurd h (by omega),fun _ h=>absurd h (by omega),fun _ h=>absurd h (by omega),fun _ h=>absurd h (by omega),fun u _ _ j hj=>absurd hj (by omega)⟩
   ·have h1:=HC.out.on (onS HB.out K2.out)
    refine (zeS P M A k c m tA i tc m1 m1 (fun u j=>V u (lo+j)) w3 h1.fld h1.mod h1.km HMR.out HLT.out (Nat.le_refl _) (by omega) (by omega) (by omega)).mono ?_
    rintro e w4 ⟨lv,pv,a,p,W,rfl,_,hpv,kb,hE,hR⟩
    obtain ⟨pA,pc,rfl⟩:=hpv.shape
    have K3:=hid (onS HB.out (onS K2.out kb))
    have HRK:Hid (RankIs (P ^ M) (addF P M) (mulF P M m) i V lo m1 a):=hid ⟨p,W,hE,hR⟩
    clear kb q0 q1 q2 q3 q4 hpv hE hR h1 hz
    go_wp2
    go_ret
    rw [<-HMM.out]
    exact ⟨a,rfl,HRK.out,K3.out⟩
def RanksTo (q:Nat) (add mul:Nat->Nat->Nat) (n N:Nat) (V:Nat->Nat->Nat) (t:Nat) (ra rb:Nat->Nat):Prop:=∀ i,i<t->RankIs q add mul n V 0 i (ra i)/\RankIs q add mul n V i (N - i) (rb i)
theorem RankIs.le {q:Nat} {add mul:Nat->Nat->Nat} {n:Nat} {V:Nat->Nat->Nat} {lo m a:Nat} (h:RankIs q add mul n V lo m a):a<=n:=by
 obtain ⟨p,W,hE,_⟩:=h
 exact hE.le
def ProfPost (q:Nat) (add mul:Nat->Nat->Nat) (n N:Nat) (V:Nat->Nat->Nat) (w:World) (e:Ending) (w':World):Prop :=
 ∃ g ra rb,e=.returned (.slice (some ⟨g,0,none⟩) (N+1) (N+1))/\w.heap.size<=g/\w'.rowIs g 3 (N+1) (fun i=>.int .i64 (((ra i+rb i:Nat):Int) - (n:Nat)))/\RanksTo q add mul n N V (N+1) ra rb/\Below w.heap.size w w'
theorem zdX (P M:Nat) (m:Nat->Nat) (A:Option Addr) (k c N:Nat) (T:Option Addr) (n d:Nat) (V:Nat->Nat->Nat) (w:World) (h:CodeR w P M m A k N T n V) :
  Calls Tryz.prog 28 #[.agg #[.int .i64 (P:Nat),.int .i64 (M:Nat),.slice A k c,.int .i64 (N:Nat),.slice T n d]] w (ProfPost (P ^ M) (addF P M) (mulF P M m) n N V w):=by
 have HC:=hid h
 have hN64:=h.ln2
 have hnN:=h.n_le
 clear h
 have rf:=zai (w:=w) (a:=.int .i64 (P:Nat)) (b:=.int .i64 (M:Nat)) (c:=.slice A k c) (d:=.int .i64 (N:Nat)) (e:=.slice T n d) (T := 27)
 have hB:Below w.heap.size w (w.alloc (.cells #[.int .i64 (P:Nat),.int .i64 (M:Nat),.slice A k c,.int .i64 (N:Nat),.slice T n d] 27)):=(Below.refl _ _).alloc (Nat.le_refl _) _
 obtain ⟨w1,hw1⟩:∃ W,W=w.alloc (.cells #[.int .i64 (P:Nat),.int .i64 (M:Nat),.slice A k c,.int .i64 (N:Nat),.slice T n d] 27):=⟨_,rfl⟩
 rw [<-hw1] at hB rf
 have hN1w:wrap64 ((N:Int)+1)=(N:Int)+1:=by unfold wrap64; omega
 have hN1x:IntKind.i64.wrap ((N:Int)+1)=(N:Int)+1:=IntWalk.i64_in _ (by omega)
 have hmk:=fun W=>zah (P:=Tryz.prog) 22 3 _ 8 Tryz.underlying22 Tryz.infoInt rfl ((N:Int)+1) (by omega) (by omega) (by omega) W
 simp only [show ((N:Int)+1).toNat=N+1 by omega] at hmk
 go_enter Tryz.func28, Tryz.ntmps28
 go_upto_region 1 with fail
 rw [<-hw1];clear hw1
 obtain ⟨b0,hb0⟩:∃ b,b=w.heap.size:=⟨_,rfl⟩
 rw [<-hb0] at rf;rw [<-hb0];clear hb0
 have HBOX:Hid (∀ X,Below w1.heap.size w1 X->(X.cell? ⟨b0,0,none⟩=some (.int .i64 (P:Nat))/\X.cell? ⟨b0,1,none⟩=some (.int .i64 (M:Nat))/\X.cell? ⟨b0,2,none⟩=some (.slice A k c)/\X.cell? ⟨b0,3,none⟩=some (.int .i64 (N:Nat))/\X.cell? ⟨b0,4,none⟩=some (.slice T n d))):=hid fun X hx =>
  ⟨(zab rf hx).cell (i:=0) (by omega),(zab rf hx).cell (i:=1) (by omega),(zab rf hx).cell (i:=2) (by omega),(zab rf hx).cell (i:=3) (by omega),(zab rf hx).cell (i:=4) (by omega)⟩
 have HB:=hid hB
 have HB0L:Hid (b0<w1.heap.size):=hid rf.lt
 clear hB rf
 obtain ⟨q0,q1,q2,q3,q4⟩:=HBOX.out _ (Below.refl _ _)
 go_upto_region 2 with fail
 clear q0 q1 q2 q3 q4
 have rz:World.rowIs (World.alloc w1 (Obj.cells (madeCells #[Value.int .i64 0] (N+1)) 3)) w1.heap.size 3 (N+1) (fun _=>.int .i64 0):=World.rowIs_made _ (.int .i64 0) (N+1) 3
 have kb:Below w1.heap.size w1 (World.alloc w1 (Obj.cells (madeCells #[Value.int .i64 0] (N+1)) 3)):=(Below.refl _ _).alloc (Nat.le_refl _) _
 obtain ⟨w2,hw2⟩:∃ W,W=World.alloc w1 (Obj.cells (madeCells #[Value.int .i64 0] (N+1)) 3):=⟨_,rfl⟩
 rw [<-hw2] at rz kb ⊢
 obtain ⟨go,hgo⟩:∃ g,g=w1.heap.size:=⟨_,rfl⟩
 have hgoB:w.heap.size<=go:=by rw [hgo]; exact HB.out.size
 have HGO:=hid hgo
 rw [<-hgo] at rz ⊢
 have K2:=hid kb
 clear kb hw2 hgo hmk hN1w hN1x
 go_upto_region 3 with fail
 go_loopg [4] (N+1) (fun gg iv wx=>∃ (i:Nat) (ra rb:Nat->Nat),iv=.int .i64 (i:Nat)/\i<=N+1/\N+1<=i+gg/\Hid (RanksTo (P ^ M) (addF P M) (mulF P M m) n N V i ra rb)/\Hid (wx.rowIs go 3 (N+1) (fun t=>.int .i64 (if t<i then ((ra t+rb t:Nat):Int) - (n:Nat) else 0)))/\Below w1.heap.size w1 wx)
 case atStart=>exact ⟨0,fun _=>0,fun _=>0,rfl,by omega,by omega,hid fun _ h=>absurd h (by omega),rz.congr fun t _=>by rw [if_neg (by omega)],K2.out⟩
 case round =>
  clear rz K2
  obtain ⟨i,ra,rb,rfl,hi,hig,HRK,HROW,hBx⟩:=hrel
  have hi0:(0:Int)<=(i:Int):=by omega
  have K2:=hid hBx
  obtain ⟨w3,hw3⟩:∃ X,X=wr:=⟨_,rfl⟩
  subst hw3
  clear hBx
  by_cases hin:i<=N
  ·have hin':(i:Int)<=(N:Int):=by omega
   obtain ⟨q0,q1,q2,q3,q4⟩:=HBOX.out _ K2.out
   go_upto_region 5 with fail
   clear q0 q1 q2 q3 q4
   refine wp_region_held_drew (S:=fun X=>(X.cell? ⟨b0,0,none⟩=some (.int .i64 (P:Nat))/\X.cell? ⟨b0,1,none⟩=some (.int .i64 (M:Nat))/\X.cell? ⟨b0,2,none⟩=some (.slice A k c)/\X.cell? ⟨b0,3,none⟩=some (.int .i64 (N:Nat))/\X.cell? ⟨b0,4,none⟩=some (.slice T n d))) (by kernel_rfl) (HBOX.out _ (onS K2.out (Below.refl _ _).drew)) (fun hHeld=>?_)
   obtain ⟨w4,hw⟩:∃ W,W=World.drew w3:=⟨_,rfl⟩
   have kb:Below w3.heap.size w3 w4:=by rw [hw]; exact (Below.refl _ _).drew
   rw [<-hw] at hHeld ⊢;clear hw
   have K3:=hid kb
   clear kb
   refine tkq 0 (h:=tkq 1 (h:=tkq 2 (h:=tkq 3 (h:=tkq 5 (h:=tkq 6 (h:=tkq 7 (h:=tkq 8 (h:=tkq 11 (h:=tkq 12 (h:=tkq 13 (h:=?_)))))))))))
   clear hHeld
   refine rdq 4 (h:=fun K hK=>?_)
   go_simp
   go_wp2_with fail
   refine (zbQ P M m A k c N T n d V 0 i w4 (HC.out.on (onS HB.out (onS K2.out K3.out))) (Nat.zero_le _) hin).mono ?_
   rintro e w5 ⟨a,rfl,ha,kb⟩
   have HRA:=hid ha
   have han:=ha.le
   replace K3:=hid (onS K3.out kb);clear kb ha
   refine bkq hK (HBOX.out _ (onS K2.out K3.out)) (h:=fun hHeld=>?_)
   clear hK K hHeld
   refine rdq 9 (h:=fun K hK=>?_)
   go_simp
   go_wp2_with fail
   refine (zbQ P M m A k c N T n d V i N w5 (HC.out.on (onS HB.out (onS K2.out K3.out))) hin (Nat.le_refl _)).mono ?_
   rintro e w6 ⟨b,rfl,hb,kb⟩
   have HRB:=hid hb
   have hbn:=hb.le
   replace K3:=hid (onS K3.out kb);clear kb hb
   refine bkq hK (HBOX.out _ (onS K2.out K3.out)) (h:=fun hHeld=>?_)
   clear hK K
   have hs1:wrap64 ((a:Int)+(b:Int))=(a:Int)+(b:Int):=by unfold wrap64; omega
   have hs2:IntKind.i64.wrap ((a:Int)+(b:Int))=(a:Int)+(b:Int):=IntWalk.i64_in _ (by omega)
   obtain ⟨z,hz⟩:∃ z:Int,z=((a+b:Nat):Int) - (n:Nat):=⟨_,rfl⟩
   have hs3:wrap64 ((a:Int)+(b:Int) - (n:Int))=z:=by unfold wrap64; omega
   have hs4:IntKind.i64.wrap ((a:Int)+(b:Int) - (n:Int))=z:=by rw [IntWalk.i64_in _ (by omega)]; omega
   have hN1:(i:Int)<((N+1:Nat):Int):=by omega
   have hN2:(i:Int)<(N:Int)+1:=by omega
   have HZ:=hid hz
   clear hz
   refine tkq 10 (h:=tkq 14 (h:=tkq 15 (h:=?_)))
   clear hHeld hs1 hs2 hs3 hs4
   refine rdq 16 (h:=fun K hK=>?_)
   have u0:=(zab HROW.out K3.out).cell (i:=i) (by omega)
   have u1:=(zab HROW.out K3.out).frozen i
   go_simp
   clear u0 u1
   have hrow2:=(zab HROW.out K3.out).set i (.int .i64 z)
   have kb:=(onS K2.out K3.out).setCell (p:=⟨go,i,none⟩) (by show _<=go; rw [HGO.out]; exact Nat.le_refl _) (.int .i64 z)
   have hb0:=HBOX.out _ (onS K2.out K3.out)
   have hne:b0≠go:=by rw [HGO.out]; exact Nat.ne_of_lt HB0L.out
   obtain ⟨a0,a1,a2,a3,a4⟩:=hb0
   replace a0:=zaa (p:=⟨go,i,none⟩) (u:=.int .i64 z) a0 hne;replace a1:=zaa (p:=⟨go,i,none⟩) (u:=.int .i64 z) a1 hne;replace a2:=zaa (p:=⟨go,i,none⟩) (u:=.int .i64 z) a2 hne;replace a3:=zaa (p:=⟨go,i,none⟩) (u:=.int .i64 z) a3 hne;replace a4:=zaa (p:=⟨go,i,none⟩) (u:=.int .i64 z) a4 hne
   obtain ⟨w7,hw⟩:∃ W,W=w6.setCell ⟨go,i,none⟩ (.int .i64 z):=⟨_,rfl⟩
   rw [<-hw] at hrow2 kb a0 a1 a2 a3 a4 ⊢
   have HROW2:Hid (w7.rowIs go 3 (N+1) (fun t=>.int .i64 (if t<i+1 then (((if t=i then a else ra t)+(if t=i then b else rb t):Nat):Int) - (n:Nat) else 0))):=hid (hrow2.congr fun t _=>by
    by_cases et:t=i
    ·rw [if_pos et,if_pos (by omega),if_pos et,if_pos et,HZ.out]
    ·have h1:(t<i)↔(t<i+1):=by omega
     rw [if_neg et,if_neg et,if_neg et]
     simp only [h1])
   have HRK2:Hid (RanksTo (P ^ M) (addF P M) (mulF P M m) n N V (i+1) (fun t=>if t=i then a else ra t) (fun t=>if t=i then b else rb t)):=hid fun t ht=>by
    by_cases et:t=i
    ·subst et
     simp only [if_true]
     exact ⟨HRA.out,HRB.out⟩
    ·simp only [if_neg et]
     exact HRK.out t (by omega)
   have K9:=hid kb
   clear hrow2 kb hw hne
   refine bkq hK ⟨a0,a1,a2,a3,a4⟩ (h:=fun hHeld=>?_)
   clear hK K a0 a1 a2 a3 a4
   refine wpAnyH_done (by kernel_rfl) ?_ _
   clear hHeld
   go_wp2
   go_roundg (gk - 1)
   case measure=>omega
   case rel=>exact ⟨i+1,_,_,by go_num,by omega,by omega,HRK2,HROW2,K9.out⟩
  ·have hin':¬ (i:Int)<=(N:Int):=by omega
   obtain rfl:i=N+1:=by omega
   obtain ⟨q0,q1,q2,q3,q4⟩:=HBOX.out _ K2.out
   have HF:Hid (w3.rowIs go 3 (N+1) (fun t=>.int .i64 (((ra t+rb t:Nat):Int) - (n:Nat)))):=hid (HROW.out.congr fun t ht=>by rw [if_pos ht])
   go_wp2
   go_ret
   exact ⟨go,ra,rb,rfl,hgoB,HF.out,HRK.out,onS HB.out K2.out⟩
def cntB (D:Nat->Bool):Nat->Nat
 | 0=>0
 | n+1=>cntB D n+if D n then 1 else 0
theorem zhY (D:Nat->Bool):∀ n,cntB D n<=n
 | 0=>Nat.le_refl _
 | n+1=>by
  have:=zhY D n
  show cntB D n+(if D n then 1 else 0)<=n+1
  split <;> omega
theorem zgt {D E:Nat->Bool}:∀ n,(∀ s,s<n->D s=E s)->cntB D n=cntB E n
 | 0,_=>rfl
 | n+1,h=>by
  show cntB D n+(if D n then 1 else 0)=cntB E n+if E n then 1 else 0
  rw [zgt n fun s hs=>h s (by omega),h n (by omega)]
theorem zeV {A B:Nat->Bool}:∀ n,(∀ s,s<n->A s=true∨B s=true)->cntB A n+cntB B n=cntB (fun s=>A s && B s) n+n
 | 0,_=>rfl
 | n+1,h=>by
  have ih:=zeV n fun s hs=>h s (by omega)
  have h1:=h n (by omega)
  show cntB A n+(if A n then 1 else 0)+(cntB B n+if B n then 1 else 0)=cntB (fun s=>A s && B s) n+(if (A n && B n) then 1 else 0)+(n+1)
  cases hA:A n <;> cases hB:B n
  ·rw [hA,hB] at h1; simp at h1
  ·simp; omega
  ·simp; omega
  ·simp; omega
def packB (q:Nat) (D:Nat->Bool) (c:Nat->Nat):Nat->Nat
 | 0=>0
 | n+1=>if D n then packB q D c n*q+c n else packB q D c n
theorem zbH {q:Nat} {D:Nat->Bool} {c:Nat->Nat}:∀ n,(∀ s,s<n->c s<q)->packB q D c n<q ^ cntB D n
 | 0,_=>by show 0<q ^ 0; simp
 | n + 1, h => by
  have ih:=zbH (D:=D) n fun s hs=>h s (by omega)
  have h1:=h n (by omega)
  show (if D n then packB q D c n*q+c n else packB q D c n)<q ^ (cntB D n+if D n then 1 else 0)
  split
  ·rw [Nat.pow_succ]
   have:=Nat.mul_le_mul_right q (show packB q D c n+1<=q ^ cntB D n from ih)
   rw [Nat.add_mul,Nat.one_mul] at this
   omega
  ·exact ih
theorem zdx {q:Nat} {D:Nat->Bool} {c c':Nat->Nat}:∀ n,(∀ s,s<n->c s<q)->(∀ s,s<n->c' s<q)->packB q D c n=packB q D c' n->∀ s,s<n->D s=true->c s=c' s
 | 0,_,_,_,s,hs,_=>absurd hs (by omega)
 | n + 1, h, h', e, s, hs, hD => by
  have e:(if D n then packB q D c n*q+c n else packB q D c n)=if D n then packB q D c' n*q+c' n else packB q D c' n:=e
  have h1:=h n (by omega)
  have h2:=h' n (by omega)
  have ih:=zdx (D:=D) (c:=c) (c':=c') n (fun s hs=>h s (by omega)) (fun s hs=>h' s (by omega))
  by_cases hn:D n=true
  ·rw [if_pos hn,if_pos hn] at e
   have e1:c n=c' n:=by
    have:=congrArg (· % q) e
    simp only [Nat.mul_add_mod_self_right,Nat.mod_eq_of_lt h1,Nat.mod_eq_of_lt h2] at this
    exact this
   have e2:packB q D c n=packB q D c' n:=by
    rw [e1] at e
    exact Nat.eq_of_mul_eq_mul_right (show 0<q by omega) (by omega)
   by_cases en:s=n
   ·rw [en]; exact e1
   ·exact ih e2 s (by omega) hD
  ·rw [if_neg hn,if_neg hn] at e
   by_cases en:s=n
   ·rw [en] at hD; exact absurd hD hn
   ·exact ih e s (by omega) hD
theorem zbA {q:Nat} {D:Nat->Bool} {c c':Nat->Nat}:∀ n,(∀ s,s<n->D s=true->c s=c' s)->packB q D c n=packB q D c' n
 | 0,_=>rfl
 | n+1,h=>by
  show (if D n then packB q D c n*q+c n else packB q D c n)=if D n then packB q D c' n*q+c' n else packB q D c' n
  rw [zbA n fun s hs=>h s (by omega)]
  by_cases hn:D n=true
  ·rw [if_pos hn,if_pos hn,h n (by omega) hn]
  ·rw [if_neg hn,if_neg hn]
theorem zaN {q:Nat} (hq:0<q) {D:Nat->Bool}:∀ n y,y<q ^ cntB D n->∃ c:Nat->Nat,(∀ s,c s<q)/\(∀ s,D s=false->c s=0)/\packB q D c n=y
 | 0,y,h=>by
  have h:y<q ^ 0:=h
  rw [Nat.pow_zero] at h
  exact ⟨fun _=>0,fun _=>hq,fun _ _=>rfl,by show 0=y; omega⟩
 | n + 1, y, h => by
  have h:y<q ^ (cntB D n+if D n then 1 else 0):=h
  by_cases hn:D n=true
  ·rw [if_pos hn,Nat.pow_succ] at h
   obtain ⟨c,h1,h2,h3⟩:=zaN hq (D:=D) n (y / q) (Nat.div_lt_of_lt_mul (by rw [Nat.mul_comm]; exact h))
   refine ⟨fun s=>if s=n then y % q else c s,fun s=>?_,fun s hs=>?_,?_⟩
   ·show (if s=n then y % q else c s)<q
    split
    ·exact Nat.mod_lt _ hq
    ·exact h1 s
   ·show (if s=n then y % q else c s)=0
    rw [if_neg (fun e=>by rw [e,hn] at hs; cases hs)]
    exact h2 s hs
   ·show (if D n then packB q D (fun s=>if s=n then y % q else c s) n*q+(if n=n then y % q else c n) else _)=y
    rw [if_pos hn,if_pos rfl,zbA (c':=c) n fun s hs _=>if_neg (by omega),h3]
    exact Nat.div_add_mod' y q
  ·rw [if_neg hn,Nat.add_zero] at h
   obtain ⟨c,h1,h2,h3⟩:=zaN hq (D:=D) n y h
   refine ⟨c,h1,h2,?_⟩
   show (if D n then packB q D c n*q+c n else packB q D c n)=y
   rw [if_neg hn]; exact h3
section
variable {q n N:Nat} {add mul:Nat->Nat->Nat}
theorem zem (hL:FieldLaws q add mul) {x y z:Nat} (hx:x<q) (hy:y<q) (hz:z<q) (h:add x y=add x z):y=z:=by
 obtain ⟨w,hw,e⟩:=hL.neg x hx
 have h2:add w (add x y)=add w (add x z):=by rw [h]
 rw [<-hL.addAssoc w x y hw hx hy,<-hL.addAssoc w x z hw hx hz,hL.addComm w x,e,hL.zeroAdd y hy,hL.zeroAdd z hz] at h2
 exact h2
theorem zgu (hL:FieldLaws q add mul) {R:Nat->Nat->Nat} {c c':Nat->Nat} {j s:Nat}:∀ n,s<n->(∀ t,t<n->t≠s->mul (c t) (R t j)=mul (c' t) (R t j))->spE add mul R c n j=spE add mul R c' n j->mul (c s) (R s j)=mul (c' s) (R s j)
 | 0,h,_,_=>absurd h (by omega)
 | n + 1, h, ht, e => by
  have e:add (spE add mul R c n j) (mul (c n) (R n j))=add (spE add mul R c' n j) (mul (c' n) (R n j)):=e
  by_cases hn:s=n
  ·subst hn
   have h1:∀ m,m<=s->spE add mul R c m j=spE add mul R c' m j:=by
    intro m
    induction m with
    | zero=>intro _; rfl
    | succ m ih =>
     intro hm
     show add (spE add mul R c m j) (mul (c m) (R m j))=add (spE add mul R c' m j) (mul (c' m) (R m j))
     rw [ih (by omega),ht m (by omega) (by omega)]
   rw [h1 s (Nat.le_refl _)] at e
   exact zem hL (zbb hL _ _ _) (hL.mulLt _ _) (hL.mulLt _ _) e
  ·rw [ht n (by omega) (by omega),hL.addComm _ (mul (c' n) (R n j)),hL.addComm _ (mul (c' n) (R n j))] at e
   exact zgu hL n (by omega) (fun t h1 h2=>ht t (by omega) h2) (zem hL (hL.mulLt _ _) (zbb hL _ _ _) (zbb hL _ _ _) e)
theorem zgv {R:Nat->Nat->Nat} {c c':Nat->Nat} {j:Nat}:∀ n,(∀ t,t<n->mul (c t) (R t j)=mul (c' t) (R t j))->spE add mul R c n j=spE add mul R c' n j
 | 0,_=>rfl
 | n+1,h=>by
  show add (spE add mul R c n j) (mul (c n) (R n j))=add (spE add mul R c' n j) (mul (c' n) (R n j))
  rw [zgv n fun t ht=>h t (by omega),h n (by omega)]
theorem zht (hL:FieldLaws q add mul) {x y z:Nat} (hx:x<q) (hy:y<q) (hz:z<q) (hz0:z≠0) (h:mul x z=mul y z):x=y:=by
 obtain ⟨v,hv,e⟩:=hL.inv z hz hz0
 have h2:mul (mul x z) v=mul (mul y z) v:=by rw [h]
 rw [hL.mulAssoc x z v hx hz hv,hL.mulAssoc y z v hy hz hv,e,hL.mulOne hx,hL.mulOne hy] at h2
 exact h2
theorem zdy {V:Nat->Nat->Nat} {c:Nat->Nat} {lo j:Nat}:∀ n,spE add mul (fun i j=>V i (lo+j)) c n j=spE add mul V c n (lo+j)
 | 0=>rfl
 | n+1=>by
  show add (spE add mul (fun i j=>V i (lo+j)) c n j) (mul (c n) (V n (lo+j)))=add (spE add mul V c n (lo+j)) (mul (c n) (V n (lo+j)))
  rw [zdy n]
theorem SameSp.cut {V R:Nat->Nat->Nat} {n' lo m:Nat} (h:SameSp q add mul N n n' V R) (hlm:lo+m<=N):SameSp q add mul m n n' (fun i j=>V i (lo+j)) (fun i j=>R i (lo+j)):=by
 have key:∀ {n n':Nat} {V R:Nat->Nat->Nat},(∀ x,InSp q add mul n N V x->InSp q add mul n' N R x)->∀ x,InSp q add mul n m (fun i j=>V i (lo+j)) x->InSp q add mul n' m (fun i j=>R i (lo+j)) x:=fun {n n' V R} h x ⟨c,hc,hx⟩=>by
  obtain ⟨c2,hc2,hx2⟩:=h (spE add mul V c n) ⟨c,hc,fun _ _=>rfl⟩
  refine ⟨c2,hc2,fun j hj=>?_⟩
  rw [hx j hj,zdy,zdy,hx2 (lo+j) (by omega)]
 exact fun x=>⟨key (fun x=>(h x).1) x,key (fun x=>(h x).2) x⟩
theorem zgw (hL:FieldLaws q add mul) {m a:Nat} {R W:Nat->Nat->Nat} {p:Nat->Nat} {D:Nat->Bool} {κ μ:Nat->Nat} (hR:∀ s,s<n->∀ j,j<m->R s j<q)
  (hE:EchN q a m m a p W) (hS:SameSp q add mul m n a R W)
  (hκ:∀ s,s<n->D s=true->κ s<m/\R s (κ s)≠0) (htri:∀ s t,s<n->t<n->D s=true->t≠s->R t (κ s)=0∨(D t=true/\μ t<μ s)) (hz:∀ s,s<n->D s=false->∀ j,j<m->R s j=0) :
  a=cntB D n:=by
 have hq2:=hL.two
 have hq:0<q:=by omega
 have uniq:∀ c c':Nat->Nat,(∀ s,s<n->c s<q)->(∀ s,s<n->c' s<q)->(∀ j,j<m->spE add mul R c n j=spE add mul R c' n j)->∀ b s,μ s<b->s<n->D s=true->c s=c' s:=fun c c' hc hc' h b=>by
  induction b with
  | zero=>intro s hb; omega
  | succ b ih =>
   intro s hb hs hD
   obtain ⟨k1,k2⟩:=hκ s hs hD
   have e:=zgu hL (R:=R) (c:=c) (c':=c') (j:=κ s) (s:=s) n hs (fun t ht hne=>by
    rcases htri s t hs ht hD hne with e | ⟨e1,e2⟩
    ·rw [e,hL.mulZero (hc t ht),hL.mulZero (hc' t ht)]
    ·rw [ih t (by omega) ht e1]) (h _ k1)
   exact zht hL (hc s hs) (hc' s hs) (hR s hs _ k1) k2 e
 have uniq2:∀ c c':Nat->Nat,(∀ s,s<n->c s<q)->(∀ s,s<n->c' s<q)->(∀ j,j<m->spE add mul R c n j=spE add mul R c' n j)->∀ s,s<n->D s=true->c s=c' s:=fun c c' hc hc' h s hs hD=>uniq c c' hc hc' h (μ s+1) s (by omega) hs hD
 have same:∀ c c':Nat->Nat,(∀ s,s<n->c s<q)->(∀ s,s<n->c' s<q)->(∀ s,s<n->D s=true->c s=c' s)->∀ j,j<m->spE add mul R c n j=spE add mul R c' n j:=fun c c' hc hc' h j hj=>zgv n fun t ht=>by
  cases hD:D t with
  | true=>rw [h t ht hD]
  | false=>rw [hz t ht hD j hj,hL.mulZero (hc t ht),hL.mulZero (hc' t ht)]
 have pw:∀ i,∃ c,(∀ s,s<n->c s<q)/\∀ j,j<m->spE add mul W (msgD q a i) a j=spE add mul R c n j:=fun i=>by
  obtain ⟨c,hc,hx⟩:=(hS (spE add mul W (msgD q a i) a)).2 ⟨msgD q a i,fun _ _=>zdU hq,fun _ _=>rfl⟩
  exact ⟨c,hc,hx⟩
 have le1:q ^ a<=q ^ cntB D n:=by
  refine pigeon (f:=fun i=>packB q D (pw i).choose n) (fun i _=>zbH n (pw i).choose_spec.1) fun i k hi hk e=>?_
  have h1:=zdx n (pw i).choose_spec.1 (pw k).choose_spec.1 e
  have h2:∀ j,j<m->spE add mul W (msgD q a i) a j=spE add mul W (msgD q a k) a j:=fun j hj=>by
   rw [(pw i).choose_spec.2 j hj,(pw k).choose_spec.2 j hj]
   exact same _ _ (pw i).choose_spec.1 (pw k).choose_spec.1 h1 j hj
  refine zgb hq hi hk fun t ht=>?_
  have h3:=h2 (p (a - 1 - t)) (hE.pvlt _ (by omega))
  rw [hE.spE_pv hL (fun _ _=>zdU hq) (by omega),hE.spE_pv hL (fun _ _=>zdU hq) (by omega)] at h3
  unfold msgD at h3
  rwa [show a - 1 - (a - 1 - t)=t by omega] at h3
 have le2:q ^ cntB D n<=q ^ a:=by
  have sj:∀ y,∃ c:Nat->Nat,(∀ s,c s<q)/\(y<q ^ cntB D n->packB q D c n=y):=fun y=>by
   by_cases hy:y<q ^ cntB D n
   ·obtain ⟨c,h1,_,h3⟩:=zaN hq (D:=D) n y hy
    exact ⟨c,h1,fun _=>h3⟩
   ·exact ⟨fun _=>0,fun _=>hq,fun h=>absurd h hy⟩
  refine pigeon (f:=fun y=>code q (fun s=>spE add mul R (sj y).choose n (p s)) a) (fun y _=>zcx fun s _=>zbb hL _ _ _) fun y z hy hz2 e=>?_
  have e1:=zc7 (fun s _=>zbb hL _ _ _) (fun s _=>zbb hL _ _ _) e
  have hin:∀ y,InSp q add mul a m W (spE add mul R (sj y).choose n):=fun y=>(hS _).1 ⟨_,fun s _=>(sj y).choose_spec.1 s,fun _ _=>rfl⟩
  have co:∀ y j,j<m->spE add mul R (sj y).choose n j=spE add mul W (fun s=>spE add mul R (sj y).choose n (p s)) a j:=fun y j hj=>(zho hL hE (fun j _=>zbb hL _ _ _)).1 (hin y) j hj
  have h2:∀ j,j<m->spE add mul R (sj y).choose n j=spE add mul R (sj z).choose n j:=fun j hj=>by
   rw [co y j hj,co z j hj]
   exact zbO a fun s hs=>⟨e1 s hs,rfl⟩
  have h3:=uniq2 _ _ (fun s _=>(sj y).choose_spec.1 s) (fun s _=>(sj z).choose_spec.1 s) h2
  have h4:=zbA (q:=q) (D:=D) n h3
  rw [(sj y).choose_spec.2 hy,(sj z).choose_spec.2 hz2] at h4
  exact h4
 have h1:=(Nat.pow_le_pow_iff_right (show 1<q by omega)).1 le1
 have h2:=(Nat.pow_le_pow_iff_right (show 1<q by omega)).1 le2
 omega
theorem SpanF.ranks (hL:FieldLaws q add mul) {pv:Nat->Nat} {V R:Nat->Nat->Nat} (h:SpanF q n N pv R) (hV:∀ i,i<n->∀ j,j<N->V i j<q) (hS:SameSp q add mul N n n V R) (hd:∀ i j,i<j->j<n->lE (R i) N≠lE (R j) N)
  {i a b:Nat} (hi:i<=N) (ha:RankIs q add mul n V 0 i a) (hb:RankIs q add mul n V i (N - i) b):a+b=cntB (fun s=>decide (pv s<i) && decide ((i:Int)<=lE (R s) N)) n+n:=by
 obtain ⟨p1,W1,hE1,hR1⟩:=ha
 obtain ⟨p2,W2,hE2,hR2⟩:=hb
 have e1:SameSp q add mul i n a (fun s j=>R s (0+j)) W1:=fun x=>((hS.cut (lo:=0) (m:=i) (by omega) x).symm.trans ((RowOps.sp hL (fun s hs j hj=>hV s hs (0+j) (by omega)) hR1).1 x)).trans (EchN.sp_top hL hE1 x)
 have e2:SameSp q add mul (N - i) n b (fun s j=>R s (i+j)) W2:=fun x=>((hS.cut (lo:=i) (m:=N - i) (by omega) x).symm.trans ((RowOps.sp hL (fun s hs j hj=>hV s hs (i+j) (by omega)) hR2).1 x)).trans (EchN.sp_top hL hE2 x)
 have k1:a=cntB (fun s=>decide (pv s<i)) n:=by
  refine zgw hL (κ:=pv) (μ:=fun s=>s) (fun s hs j hj=>h.lt s hs (0+j) (by omega)) hE1.top e1 (fun s hs hD=>?_) (fun s t hs ht hD hne=>?_) (fun s hs hD j hj=>?_)
  ·have hD:=of_decide_eq_true hD
   refine ⟨hD,?_⟩
   show R s (0+pv s)≠0
   rw [Nat.zero_add,h.one s hs]
   omega
  ·have hD:=of_decide_eq_true hD
   rcases Nat.lt_or_ge t s with g | g
   ·exact .inr ⟨decide_eq_true (by have:=h.inc t s g hs; omega),g⟩
   ·refine .inl ?_
    show R t (0+pv s)=0
    rw [Nat.zero_add]
    exact h.low t ht _ (h.inc s t (by omega) ht)
  ·have hD:=of_decide_eq_false hD
   show R s (0+j)=0
   rw [Nat.zero_add]
   exact h.low s hs j (by omega)
 have k2:b=cntB (fun s=>decide ((i:Int)<=lE (R s) N)) n:=by
  have hin:=fun s=>ziJ (u:=R s) N
  refine zgw hL (κ:=fun s=>(lE (R s) N).toNat - i) (μ:=fun s=>N - (lE (R s) N).toNat) (fun s hs j hj=>h.lt s hs (i+j) (by omega)) hE2.top e2 (fun s hs hD=>?_) (fun s t hs ht hD hne=>?_) (fun s hs hD j hj=>?_)
  ·have hD:=of_decide_eq_true hD
   have h1:=hin s
   have h2:=zjm (u:=R s) N (lE (R s) N).toNat (by omega)
   refine ⟨by omega,?_⟩
   show R s (i+((lE (R s) N).toNat - i))≠0
   rw [show i+((lE (R s) N).toNat - i)=(lE (R s) N).toNat by omega]
   exact h2.2
  ·have hD:=of_decide_eq_true hD
   have h1:=hin s
   have h2:=hin t
   show R t (i+((lE (R s) N).toNat - i))=0∨_
   rw [show i+((lE (R s) N).toNat - i)=(lE (R s) N).toNat by omega]
   have hdd:lE (R s) N≠lE (R t) N:=by
    rcases Nat.lt_or_ge s t with g | g
    ·exact hd s t g ht
    ·exact (hd t s (by omega) hs).symm
   by_cases g:lE (R t) N<lE (R s) N
   ·exact .inl (zb7 (n:=N) (by omega) (by omega))
   ·exact .inr ⟨decide_eq_true (by omega),by omega⟩
  ·have hD:=of_decide_eq_false hD
   have h1:=hin s
   show R s (i+j)=0
   exact zb7 (n:=N) (by omega) (by omega)
 rw [k1,k2]
 exact zeV n fun s hs=>by
  have h1:=h.pos hs
  by_cases g:pv s<i
  ·exact .inl (decide_eq_true g)
  ·exact .inr (decide_eq_true (by omega))
end
end Go.Proofs.YtgekjfpapmlndaaGreat