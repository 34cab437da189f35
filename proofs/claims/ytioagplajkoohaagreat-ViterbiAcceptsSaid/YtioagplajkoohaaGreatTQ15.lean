/- Merged texts of a claim: Turn09, Cmp11, SameN, RefIs, Check47, Cont47, TChk, ChkLaw, NullWord, WordsMath, PathPl, ZeroV, ZeroR. -/
import Derived.Test.YtioagplajkoohaaGreatTQ7
import Derived.Test.YtioagplajkoohaaGreatTQ10
import Derived.Test.YtioagplajkoohaaGreatTQ11
import Derived.Test.YtioagplajkoohaaGreatTQ12
import Derived.Test.YtioagplajkoohaaGreatTQ13
import Derived.Test.YtioagplajkoohaaGreatTQ14
import Derived.Laws.StructEq
namespace Go.Proofs.YtioagplajkoohaaGreat
set_option maxRecDepth 100000
set_option maxHeartbeats 32000000
open KA KB KC KD KE KF
open Go.RowKit
theorem zg2 (T:Option Addr) (n k c:Nat) (W:Nat->Nat->Nat) (w:World) (h:MRows w T n k W) (hk:k<=1048576) (hn:n<=1048576) :
  Calls Tryz.prog 194 #[.slice T n c,.int .i64 (k:Nat)] w (MPost k n (fun i j=>W j i) w):=by
 have HR:=hid h
 have H0:=hid (MTab.nil w w.heap.size n (fun i j=>W j i))
 clear h
 go_enter Tryz.func194, Tryz.ntmps194
 go_wp2
 obtain ⟨nv,hnv⟩:∃ x:Value,x=.slice none 0 0:=⟨_,rfl⟩
 have HNV:=hid hnv
 rw [<-hnv] at H0
 simp only [<-hnv]
 clear hnv
 go_loopg [5,6,7,8] k (fun gg ov iv _ _ wx=>∃ i:Nat,iv=.int .i64 (i:Nat)/\i<=k/\k<=i+gg/\Hid (MTab wx w.heap.size ov i n (fun i j=>W j i))/\Below w.heap.size w wx)
 case atStart=>exact ⟨0,rfl,by omega,by omega,H0,Below.refl _ _⟩
 case round =>
  clear H0
  obtain ⟨i,rfl,hi,hig,HM,hB⟩:=hrel
  have hi0:(0:Int)<=(i:Int):=by omega
  by_cases hlt:i<k
  ·have hlt':(i:Int)<(k:Int):=by omega
   obtain ⟨gO,hgO⟩:∃ x,x=gk:=⟨_,rfl⟩
   subst hgO
   obtain ⟨w7,hw7⟩:∃ X,X=wr:=⟨_,rfl⟩
   subst hw7
   have HB7:=hid hB
   have HC0:Hid (Own w7 w7.heap.size 3 1 nv 0 (fun j _=>.int .i64 ((W j i:Nat):Int))):=by rw [HNV.out]; exact hid (Own.nil w7 w7.heap.size 3 1 _)
   have HZ7:=hid hB.size
   clear hB
   go_wp2
   go_loopg [7,8] n (fun gg cv jv wx=>∃ j:Nat,jv=.int .i64 (j:Nat)/\j<=n/\n<=j+gg/\Hid (Own wx w7.heap.size 3 1 cv j (fun j _=>.int .i64 (W j i:Nat)))/\Below w7.heap.size w7 wx)
   case atStart=>exact ⟨0,rfl,by omega,by omega,HC0,Below.refl _ _⟩
   case round =>
    clear HC0
    obtain ⟨j,rfl,hj,hjg,HC,hB⟩:=hrel
    have hj0:(0:Int)<=(j:Int):=by omega
    by_cases hjt:j<n
    ·have hjt':(j:Int)<(n:Int):=by omega
     obtain ⟨b,o,RA,rc,hT,hb,x0,_,_,hrow,_⟩:=HR.out j hjt
     subst hT
     replace x0:=(hB.cell (p:=⟨b,o+j,none⟩) (by have:=HZ7.out; show b<_; omega)).trans ((HB7.out.cell (p:=⟨b,o+j,none⟩) hb).trans x0)
     obtain ⟨rb,ro,hRA,_,y0⟩:=(show IntsR wr wr.heap.size RA k (fun i=>((W j i:Nat):Int)) from (hrow.on (onS HB7.out hB))).at (i:=i) (by omega)
     subst hRA
     obtain ⟨x,hx⟩:∃ x,x=W j i:=⟨_,rfl⟩
     rw [<-hx] at y0
     have kb2:=(Below.refl wr.heap.size wr).alloc (Nat.le_refl _) (Obj.cells #[Value.int .i64 (x:Int)] 3)
     have HO8:=hid (HC.out.on kb2)
     have HB8:=hid (onS hB kb2)
     have HC8:Hid ((wr.alloc (Obj.cells #[Value.int .i64 (x:Int)] 3)).cell? ((⟨wr.heap.size,0,none⟩:Addr).add 0)=some (.int .i64 (x:Nat))):=tbox2
     have HZ8:=hid HB8.out.size
     have HIL:Hid (j<=1048576):=by show _<=_; omega
     have HX:=hid hx
     clear kb2 hB hx hrow
     go_wp2_with (first | (at_builtin; (refine zaA rfl (.tmp 20) (.tmp 28) rfl HO8.out rfl (ad:=⟨wr.heap.size,0,none⟩) (c:=1) rfl HC8.out HZ8.out HIL.out ?_); intro v9 w9 o1 o2 o3))
     have HM9:=hid (o1.congr (f':=fun j _=>.int .i64 (W j i:Nat)) fun u hu q _=>by
      by_cases e:u=j
      ·subst e; rw [if_pos rfl,HX.out]
      ·rw [if_neg e])
     have HB9:=hid (HB8.out.grown o2 HZ8.out (fun q e=>(HO8.out.lt q e).1))
     clear o1 o2 o3
     go_wp2
     go_roundg (gk - 1)
     case measure=>omega
     case rel=>exact ⟨j+1,by go_num,by omega,by omega,HM9,HB9.out⟩
    ·have hjt':¬ (j:Int)<(n:Int):=by omega
     obtain rfl:j=n:=by omega
     obtain ⟨RA,rc,hRV⟩:=HC.out.shape
     subst hRV
     have kb2:=(Below.refl wr.heap.size wr).alloc (Nat.le_refl _) (Obj.cells #[Value.slice RA j rc] 22)
     have hBW:=onS (onS HB7.out hB) kb2
     have HX8:=hid ((HC.out.mono HZ7.out).on kb2)
     have HO8:=hid (HM.out.on (onS hB kb2))
     have HC8:Hid ((wr.alloc (Obj.cells #[Value.slice RA j rc] 22)).cell? ((⟨wr.heap.size,0,none⟩:Addr).add 0)=some (.slice RA j rc)):=tbox2
     have HB8:=hid hBW
     have HZ8:=hid hBW.size
     have HIL:Hid (i<=1048576):=by show _<=_; omega
     clear kb2 hB hBW
     go_wp2_with (first | (at_builtin; (refine zaz rfl (.tmp 30) (.tmp 32) rfl HO8.out rfl (ad:=⟨wr.heap.size,0,none⟩) (c:=1) rfl HC8.out rfl HX8.out HZ8.out HIL.out ?_); intro v9 w9 o1 o2 o3))
     have HM9:=hid (o1.congr (W':=fun i j=>W j i) fun u hu q _=>by
      by_cases e:u=i
      ·subst e; rw [if_pos rfl]
      ·rw [if_neg e])
     have HB9:=hid (HB8.out.grown o2 HZ8.out o3)
     clear o1 o2 o3
     go_wp2
     go_roundg (gO - 1)
     case measure=>omega
     case rel=>exact ⟨i+1,by go_num,by omega,by omega,HM9,HB9.out⟩
  ·have hlt':¬ (i:Int)<(k:Int):=by omega
   obtain rfl:i=k:=by omega
   go_wp2
   go_ret
   exact ⟨_,rfl,HM.out,hB⟩
def EqRow (n m:Nat) (f g:Nat->Int):Prop:=n=m/\∀ i,i<n->f i=g i
theorem zeq (A B:Option Addr) (n m c d:Nat) (f g:Nat->Int) (w:World) (ha:IntsR w w.heap.size A n f) (hb:IntsR w w.heap.size B m g) (hn:n<=140737488351232) (hm:m<=140737488351232) :
  Calls Tryz.prog 114 #[.slice A n c,.slice B m d] w fun e w'=>∃ r:Int,e=.returned (.int .i64 r)/\(r=0↔EqRow n m f g)/\Below w.heap.size w w':=by
 have HA:=hid ha
 have HB:=hid hb
 clear ha hb
 go_enter Tryz.func114, Tryz.ntmps114
 go_wp2
 go_loopg [5] n (fun gg iv wx=>∃ k:Nat,iv=.int .i64 (k:Nat)/\k<=n/\k<=m/\n<=k+gg/\(∀ i,i<k->f i=g i)/\Below w.heap.size w wx)
 case atStart=>exact ⟨0,rfl,by omega,by omega,by omega,fun i hi=>absurd hi (by omega),Below.refl _ _⟩
 case round =>
  obtain ⟨k,rfl,hk,hkm,hkg,heq,hW⟩:=hrel
  have hk0:(0:Int)<=(k:Int):=by omega
  have HEQ:=hid heq
  clear heq
  by_cases hlt:k<n
  ·have hlt':(k:Int)<(n:Int):=by omega
   by_cases hlm:k<m
   ·have hlm':(k:Int)<(m:Int):=by omega
    have hd:decide ((k:Int)<(n:Int))=true:=by simp; omega
    have hd2:decide ((k:Int)<(m:Int))=true:=by simp; omega
    obtain ⟨ab,ao,rfl,hab,x0⟩:=(HA.out.on hW).at hlt
    obtain ⟨bb,bo,rfl,hbb,y0⟩:=(HB.out.on hW).at hlm
    obtain ⟨x,hx⟩:∃ x,x=f k:=⟨_,rfl⟩
    obtain ⟨y,hy⟩:∃ y,y=g k:=⟨_,rfl⟩
    rw [<-hx] at x0;rw [<-hy] at y0
    have HX:=hid hx
    have HY:=hid hy
    clear hx hy
    by_cases h1:x<y
    ·go_wp2
     go_quiet (fail)
     go_wp2
     go_ret
     exact ⟨-1,rfl,⟨fun h=>absurd h (by omega),fun h=>absurd (h.2 k hlt) (by rw [<-HX.out,<-HY.out]; omega)⟩,zac hW _⟩
    ·by_cases h2:y<x
     ·have h2':x > y:=h2
      go_wp2
      go_quiet (fail)
      go_wp2
      go_quiet (fail)
      go_wp2
      go_ret
      exact ⟨1,rfl,⟨fun h=>absurd h (by omega),fun h=>absurd (h.2 k hlt) (by rw [<-HX.out,<-HY.out]; omega)⟩,zac (zac hW _) _⟩
     ·have h2':¬ x > y:=h2
      go_wp2
      go_quiet (fail)
      go_wp2
      go_quiet (fail)
      go_wp2
      go_roundg (gk - 1)
      case measure=>omega
      case rel =>
       refine ⟨k+1,by go_num,by omega,by omega,by omega,fun i hi=>?_,zac hW _⟩
       by_cases e:i=k
       ·subst e; rw [<-HX.out,<-HY.out]; omega
       ·exact HEQ.out i (by omega)
   ·have hlm':¬ (k:Int)<(m:Int):=by omega
    have hd:decide ((k:Int)<(n:Int))=true:=by simp; omega
    have hd2:decide ((k:Int)<(m:Int))=false:=by simp; omega
    have h3:¬ (n:Int)<(m:Int):=by omega
    have h4:(n:Int) > (m:Int):=by omega
    go_wp2
    go_ret
    exact ⟨1,rfl,⟨fun h=>absurd h (by omega),fun h=>absurd h.1 (by omega)⟩,hW⟩
  ·have hlt':¬ (k:Int)<(n:Int):=by omega
   have hd:decide ((k:Int)<(n:Int))=false:=by simp; omega
   by_cases h3:(n:Int)<(m:Int)
   ·go_wp2
    go_ret
    exact ⟨-1,rfl,⟨fun h=>absurd h (by omega),fun h=>absurd h.1 (by omega)⟩,hW⟩
   ·have h4:¬ (n:Int) > (m:Int):=by omega
    go_wp2
    go_ret
    exact ⟨0,rfl,⟨fun _=>⟨by omega,fun i hi=>HEQ.out i (by omega)⟩,fun _=>rfl⟩,hW⟩
theorem ze0 (A A2:Option Addr) (c c2 x y:Nat) (w:World) (h:NatOk w w.heap.size A x) (h2:NatOk w w.heap.size A2 y) (hn:dl x<=maxLen) :
  Calls Tryz.prog 92 #[.slice A (dl x) c,.slice A2 (dl y) c2] w fun e w'=>∃ b:Bool,e=.returned (.bool b)/\(b=true↔x=y)/\Below w.heap.size w w':=by
 by_cases hxy:dl x=dl y
 rotate_left
 ·have hno:Hid (x≠y):=hid fun e=>hxy (by rw [e])
  obtain ⟨n,hn'⟩:∃ n,n=dl x:=⟨_,rfl⟩
  obtain ⟨m,hm'⟩:∃ m,m=dl y:=⟨_,rfl⟩
  rw [<-hn',<-hm'] at hxy ⊢
  have hb:((n:Int) != (m:Int))=true:=by simp; omega
  clear hn' hm' hn hxy
  go_enter Tryz.func92, Tryz.ntmps92
  go_wp2
  go_ret
  exact ⟨false,rfl,⟨fun h=>(nomatch h),fun h=>absurd h hno.out⟩,Below.refl _ _⟩
 obtain ⟨n,hn'⟩:∃ n,n=dl x:=⟨_,rfl⟩
 have hm':n=dl y:=hn'.trans hxy
 have HN:=hid hn'
 have HM:=hid hm'
 have HALL:Hid ((∀ i,i<n->dg x i=dg y i)->x=y):=hid fun hh=>by
  rw [<-zdX x,<-zdX y,<-hn',<-hm']
  exact zdm hh
 rw [<-hn'] at hn ⊢;rw [<-hm'];clear hn' hm' hxy
 unfold maxLen at hn
 have H:=hid h
 have H2:=hid h2
 clear h h2
 go_enter Tryz.func92, Tryz.ntmps92
 go_wp2
 go_loopg [5] n (fun gg iv wx=>∃ k:Nat,iv=.int .i64 (k:Nat)/\k<=n/\n<=k+gg/\Hid (∀ i,i<k->dg x i=dg y i)/\Below w.heap.size w wx)
 case atStart=>exact ⟨0,rfl,by omega,by omega,hid fun i h=>absurd h (by omega),Below.refl _ _⟩
 case round =>
  obtain ⟨k,rfl,hk,hkg,HE,hB⟩:=hrel
  by_cases hlt:k<n
  ·obtain ⟨b,o,rfl,hb,e0⟩:=Lims.at (H.out.on hB) (i:=k) (by rw [<-HN.out]; exact hlt)
   obtain ⟨b2,o2,rfl,hb2,e2⟩:=Lims.at (H2.out.on hB) (i:=k) (by rw [<-HM.out]; exact hlt)
   have hlt':(k:Int)<(n:Int):=by omega
   have hk0:(0:Int)<=(k:Int):=by omega
   obtain ⟨u,hu⟩:∃ u,u=dg x k:=⟨_,rfl⟩
   obtain ⟨v,hv⟩:∃ v,v=dg y k:=⟨_,rfl⟩
   rw [<-hu] at e0;rw [<-hv] at e2
   have HU:=hid hu
   have HV:=hid hv
   clear hu hv
   by_cases huv:u=v
   ·have hb:((u:Int) != (v:Int))=false:=by simp [huv]
    have HE2:Hid (∀ i,i<k+1->dg x i=dg y i):=hid fun i hi=>by
     by_cases e:i=k
     ·rw [e,<-HU.out,<-HV.out,huv]
     ·exact HE.out i (by omega)
    clear huv
    go_wp2
    go_quiet (fail)
    go_wp2
    go_roundg (gk - 1)
    case measure=>omega
    case rel=>exact ⟨k+1,by go_num,by omega,by omega,HE2,zac hB _⟩
   ·have hb:((u:Int) != (v:Int))=true:=by simp; omega
    have HNO:Hid (x≠y):=hid fun e=>huv (by rw [HU.out,HV.out,e])
    clear huv
    go_wp2
    go_quiet (fail)
    go_wp2
    go_ret
    exact ⟨false,rfl,⟨fun h=>(nomatch h),fun h=>absurd h HNO.out⟩,zac hB _⟩
  ·obtain rfl:k=n:=by omega
   have he:=HALL.out HE.out
   have HEQ:=hid he
   clear he
   go_wp2
   go_ret
   exact ⟨true,rfl,⟨fun _=>HEQ.out,fun _=>rfl⟩,hB⟩
open Go.ChangeShapes Go.WideShapes Go.ChangeAt
section
variable {add mul:Nat->Nat->Nat} {H:Nat->Nat->Nat} {T:Trel} {S:Nat->Nat->Nat} {i j v k:Nat}
theorem Trel.synF_old (h:T.asg i j v):T.synF add mul H S i (j+1) v k=T.synF add mul H S i j v k:=if_neg fun g=>g.2 h
theorem Trel.synF_new (h:¬ T.asg i j v) (e:(T.to i j).toNat=v):T.synF add mul H S i (j+1) v k=T.synv add mul H S i j k:=if_pos ⟨e,h⟩
theorem Trel.synF_far (e:(T.to i j).toNat≠v):T.synF add mul H S i (j+1) v k=T.synF add mul H S i j v k:=if_neg fun g=>e g.1
end
theorem zer {b b':Nat} {t:TypeId} {n:Nat} {f:Nat->Value} {w:World} (hne:b'≠b) (v:Value) (o:Nat) (h:w.rowIs b' t n f):(w.setCell ⟨b,o,none⟩ v).rowIs b' t n f:=h.of_block ((zaO w b o v).block _ h.lt fun e=>hne (Option.some.inj e))
def IsTr (q a:Nat) (add mul:Nat->Nat->Nat) (H:Nat->Nat->Nat) (T:Trel) (n:Nat):Prop :=
 T.SynOk add mul H q a/\(∀ k,k<a->T.syn add mul H T.n 0 k=0)/\T.fwd (fun _ _=>1) T.n 0=q ^ n
def IsPost (P M:Nat) (m:Nat->Nat) (T:Trel) (N n:Nat) (V:Nat->Nat->Nat) (w:World) (e:Ending) (w':World):Prop :=
 ∃ b:Bool,e=.returned (.bool b)/\Below w.heap.size w w'/\((T.n≠N/\b=false)∨(T.n=N/\∃ a H,NullRel (P ^ M) (addF P M) (mulF P M m) (negF P M) n N V a H/\(b=true↔IsTr (P ^ M) a (addF P M) (mulF P M m) H T n)))
theorem zhT (P M:Nat) (m:Nat->Nat) (A:Option Addr) (k c N:Nat) (TC:Option Addr) (n d:Nat) (V:Nat->Nat->Nat) (T:Trel) (TA TB:Option Addr) (ca cb:Nat) (w:World) (h:CodeR w P M m A k N TC n V) (hT:T.Reads w TA TB) (hp:T.Proper) :
  Calls Tryz.prog 124 #[.agg #[.int .i64 (P:Nat),.int .i64 (M:Nat),.slice A k c,.int .i64 (N:Nat),.slice TC n d],.agg #[.slice TA T.nw ca,.slice TB T.n cb]] w (IsPost P M m T N n V w):=by
 have HC:=hid h
 have HR:=hid hT
 have HP:=hid hp
 have HSH:=hid hp.shape
 have hn64:=hp.shape.n64
 have HNW1:=hid hp.shape.nw
 have HW:Hid (∀ i,i<=T.n->1<=T.W i/\T.W i<=65536):=hid fun i hi=>hp.shape.wid hi
 have HL:Hid (FieldLaws (P ^ M) (addF P M) (mulF P M m)):=hid (fieldLaws h.fld)
 have HFO:=hid h.fld.1
 have hN:=h.ln2
 have hN1:=h.ln1
 have HN:=hid h.n_le
 have HQ256:=hid h.fld.1.2.2.2
 have HRR:=hid h.rref
 clear h hT hp
 have rf:=zam (w:=w) (a:=.int .i64 (P:Nat)) (b:=.int .i64 (M:Nat)) (c:=.slice A k c) (d:=.int .i64 (N:Nat)) (e:=.slice TC n d) (T := 27)
 have hB:Below w.heap.size w (w.alloc (.cells #[.int .i64 (P:Nat),.int .i64 (M:Nat),.slice A k c,.int .i64 (N:Nat),.slice TC n d] 27)):=(Below.refl _ _).alloc (Nat.le_refl _) _
 obtain ⟨w1,hw1⟩:∃ W,W=w.alloc (.cells #[.int .i64 (P:Nat),.int .i64 (M:Nat),.slice A k c,.int .i64 (N:Nat),.slice TC n d] 27):=⟨_,rfl⟩
 rw [<-hw1] at hB rf
 have rt:=zae (w:=w1) (a:=.slice TA T.nw ca) (b:=.slice TB T.n cb) (T := 74)
 have kb:Below w1.heap.size w1 (w1.alloc (.cells #[.slice TA T.nw ca,.slice TB T.n cb] 74)):=(Below.refl _ _).alloc (Nat.le_refl _) _
 obtain ⟨w2,hw2⟩:∃ W,W=w1.alloc (.cells #[.slice TA T.nw ca,.slice TB T.n cb] 74):=⟨_,rfl⟩
 rw [<-hw2] at kb rt;replace rf:=zaa rf kb;replace hB:=onS hB kb
 have hsz1:w1.heap.size=w.heap.size+1:=by rw [hw1]; simp
 rw [hsz1] at rt
 go_enter Tryz.func124, Tryz.ntmps124
 go_upto_region 1 with fail
 rw [<-hw1,<-hw2];clear hw1 hw2 kb hsz1
 obtain ⟨b0,hb0⟩:∃ b,b=w.heap.size:=⟨_,rfl⟩
 obtain ⟨b1,hb1⟩:∃ b,b=w.heap.size+1:=⟨_,rfl⟩
 have HB0:Hid (w.heap.size<=b0):=hid (by omega)
 have HB1:Hid (w.heap.size<=b1):=hid (by omega)
 rw [<-hb0] at rf;rw [<-hb1] at rt;rw [<-hb1,<-hb0];clear hb0 hb1
 have HBOX:Hid (∀ X,Below w2.heap.size w2 X->X.rowIs b0 27 5 (codCell (.int .i64 (P:Nat)) (.int .i64 (M:Nat)) (.slice A k c) (.int .i64 (N:Nat)) (.slice TC n d))/\X.rowIs b1 74 2 (matCell (.slice TA T.nw ca) (.slice TB T.n cb))):=hid fun X hx=>⟨zaa rf hx,zaa rt hx⟩
 have HB:=hid hB
 clear hB
 have q3:=qc3 rf
 have p1:=qc1 rt
 by_cases hTN:T.n=N
 rotate_left
 ·have hne:((T.n:Int) != (N:Int))=true:=by simp; omega
  clear rf rt
  go_wp2
  go_ret
  exact ⟨false,rfl,HB.out,.inl ⟨hTN,rfl⟩⟩
 have hne:((T.n:Int) != (N:Int))=false:=by simp; omega
 go_upto_region 3 with fail
 clear hne p1
 subst hTN
 have q0:=qc0 rf
 have q1:=qc1 rf
 have q2:=qc2 rf
 have q4:=qc4 rf
 go_cut [5] (fun v5 wx=>∃ (a:Nat) (H:Nat->Nat->Nat),NullRel (P ^ M) (addF P M) (mulF P M m) (negF P M) n T.n V a H/\MTab wx w2.heap.size v5 T.n a (fun i j=>H j i)/\Below w2.heap.size w2 wx)
 case first =>
  have kb:Below w2.heap.size w2 w2.drew:=(Below.refl _ _).drew
  refine wp_region_held_drew (S:=fun w'=>w'.cell? ⟨b0,0,none⟩=some (.int .i64 (P:Nat))/\w'.cell? ⟨b0,1,none⟩=some (.int .i64 (M:Nat))/\w'.cell? ⟨b0,2,none⟩=some (.slice A k c)/\w'.cell? ⟨b0,3,none⟩=some (.int .i64 (T.n:Nat))/\w'.cell? ⟨b0,4,none⟩=some (.slice TC n d)) (by kernel_rfl) ⟨cellS kb q0,cellS kb q1,cellS kb q2,cellS kb q3,cellS kb q4⟩ (fun hHeld=>?_)
  obtain ⟨w3,hw⟩:∃ W,W=World.drew w2:=⟨_,rfl⟩
  rw [<-hw] at kb hHeld ⊢;clear hw
  have KB:=hid kb
  clear kb q0 q1 q2 q3 q4 rf rt
  refine tkq 0 (h:=tkq 2 (h:=tkq 3 (h:=?_)))
  clear hHeld
  refine rdq 1 (h:=fun K hK=>?_)
  go_simp
  go_wp2_with fail
  refine (zgu P M m A k c T.n TC n d V w3 (HC.out.on (onS HB.out KB.out))).mono ?_
  rintro e w4 ⟨lv,a,H,rfl,hM,kb,hrel⟩
  have HREL:=hid hrel
  have ha:n+a=T.n:=hrel.count HL.out (fun x _=>⟨za7 (by have:=HFO.out.1; omega),zaR (by have:=HFO.out.1; omega)⟩) HRR.out
  obtain ⟨p,hE⟩:=hrel.rref
  have hMR:∀ X,Below w4.heap.size w4 X->∀ PA pc,lv=.slice PA a pc->MRows X PA a T.n H:=fun X hx PA pc e=>(MTab.rd (e ▸ hM) HQ256.out hE.lt).on hx
  obtain ⟨PA,pc,hlv⟩:=hM.shape
  have HMR:=hid (hMR w4 (Below.refl _ _) PA pc hlv)
  subst hlv
  replace KB:=hid (onS KB.out kb);clear kb hM hrel hE hMR
  refine bkq hK ⟨((HBOX.out _ KB.out).1).cell (i:=0) (by omega),((HBOX.out _ KB.out).1).cell (i:=1) (by omega),((HBOX.out _ KB.out).1).cell (i:=2) (by omega),((HBOX.out _ KB.out).1).cell (i:=3) (by omega),((HBOX.out _ KB.out).1).cell (i:=4) (by omega)⟩ (h:=fun hHeld=>?_)
  clear hK K hHeld
  refine rdq 4 (h:=fun K hK=>?_)
  go_simp
  go_wp2_with fail
  refine (zg2 PA a T.n pc H w4 HMR.out (by omega) (by omega)).mono ?_
  rintro e w5 ⟨v5,rfl,hM,kb⟩
  have HM:=hid (hM.mono KB.out.size)
  replace KB:=hid (onS KB.out kb);clear kb hM
  refine bkq hK ⟨((HBOX.out _ KB.out).1).cell (i:=0) (by omega),((HBOX.out _ KB.out).1).cell (i:=1) (by omega),((HBOX.out _ KB.out).1).cell (i:=2) (by omega),((HBOX.out _ KB.out).1).cell (i:=3) (by omega),((HBOX.out _ KB.out).1).cell (i:=4) (by omega)⟩ (h:=fun hHeld=>?_)
  clear hK K
  refine tkq 5 (h:=?_)
  refine wpAnyH_done (by kernel_rfl) ?_ _
  clear hHeld
  go_wp2
  go_meet
  exact ⟨a,H,HREL.out,HM.out,KB.out⟩
 case rest =>
  obtain ⟨a,H,hrel,hM,hB5⟩:=hcut
  have ha:n+a=T.n:=hrel.count HL.out (fun x _=>⟨za7 (by have:=HFO.out.1; omega),zaR (by have:=HFO.out.1; omega)⟩) HRR.out
  have HREL:=hid hrel
  have HHq:Hid (∀ k,k<a->∀ i,i<T.n->H k i<P ^ M):=by
   obtain ⟨p,hE⟩:=hrel.rref
   exact hid hE.lt
  have HMT:=hid hM
  obtain ⟨w6,hw6⟩:∃ X,X=wc:=⟨_,rfl⟩
  subst hw6
  have HK5:=hid hB5
  obtain ⟨LA,lc,hlv⟩:=hM.shape
  subst hlv
  have q3:w6.cell? ⟨b0,3,none⟩=some (.int .i64 (T.n:Nat)):=((HBOX.out _ HK5.out).1).cell (i:=3) (by omega)
  have q4:w6.cell? ⟨b0,4,none⟩=some (.slice TC n d):=((HBOX.out _ HK5.out).1).cell (i:=4) (by omega)
  clear hrel hM hB5 rf rt
  have HMI:∀ (z:Nat),z<=65536->∀ W,_:=fun z hz W=>zaf (P:=Tryz.prog) 22 3 _ 8 Tryz.underlying22 Tryz.infoInt rfl (z:Int) (by omega) (by omega) (by omega) W
  have HMR:∀ (z:Nat),z<=65536->∀ W,_:=fun z hz W=>zaf (P:=Tryz.prog) 25 22 _ 24 Tryz.underlying25 Tryz.infoInts rfl (z:Int) (by omega) (by omega) (by omega) W
  simp only [Int.toNat_natCast] at HMI HMR
  have HMR:=hid HMR
  have hmk:=HMI a (by omega)
  clear HMI
  have hsub:wrap64 ((T.n:Int) - (n:Int))=(a:Int):=by unfold wrap64; omega
  have hsub2:IntKind.i64.wrap ((T.n:Int) - (n:Int))=(a:Int):=by rw [IntWalk.i64_in _ (by omega)]; omega
  have hsub3:((T.n:Int) - (n:Int))=(a:Int):=by omega
  go_upto_region 5 with fail
  clear q3 q4 hmk hsub hsub2 hsub3
  have rz:World.rowIs (World.alloc w6 (Obj.cells (madeCells #[Value.int .i64 0] a) 3)) w6.heap.size 3 a (fun _=>.int .i64 ((0:Nat):Int)):=World.rowIs_made _ (.int .i64 0) a 3
  have kb7:Below w6.heap.size w6 (World.alloc w6 (Obj.cells (madeCells #[Value.int .i64 0] a) 3)):=(Below.refl _ _).alloc (Nat.le_refl _) _
  have hs7:(World.alloc w6 (Obj.cells (madeCells #[Value.int .i64 0] a) 3)).heap.size=w6.heap.size+1:=by simp
  obtain ⟨w7,hw7⟩:∃ W,W=World.alloc w6 (Obj.cells (madeCells #[Value.int .i64 0] a) 3):=⟨_,rfl⟩
  rw [<-hw7] at rz kb7 hs7 ⊢
  obtain ⟨gz,hgz⟩:∃ g,g=w6.heap.size:=⟨_,rfl⟩
  have hgzB:w2.heap.size<=gz:=by rw [hgz]; exact HK5.out.size
  have hww:w.heap.size<=gz:=Nat.le_trans HB.out.size hgzB
  rw [<-hgz] at rz hs7 ⊢
  have rb8:(w7.alloc (.cells #[.slice (some ⟨gz,0,none⟩) a a] 22)).rowIs w7.heap.size 22 1 (fun _=>.slice (some ⟨gz,0,none⟩) a a):=⟨_,zaw rfl,rfl,fun i hi=>by
   obtain rfl:i=0:=by omega
   rfl⟩
  have kb8:Below w7.heap.size w7 (w7.alloc (.cells #[.slice (some ⟨gz,0,none⟩) a a] 22)):=(Below.refl _ _).alloc (Nat.le_refl _) _
  obtain ⟨w8,hw8⟩:∃ W,W=w7.alloc (.cells #[.slice (some ⟨gz,0,none⟩) a a] 22):=⟨_,rfl⟩
  rw [<-hw8] at rb8 kb8 ⊢;rw [hs7] at rb8
  have hL0:LTab w8 w.heap.size (gz+1) 1 a (fun _=>True) (fun _=>.slice (some ⟨gz,0,none⟩) a a) (T.syn (addF P M) (mulF P M m) H 0) :=
   ⟨by omega,rb8,fun u _ _=>(zau (zaa rz kb8) hww (by unfold maxLen; omega)).congr fun k _ _ _=>rfl,fun u _ h=>absurd trivial h⟩
  have HK8:=hid (onS (onS HK5.out kb7) kb8)
  replace HMT:=hid ((HMT.out.on kb7).on kb8);clear hs7 hw7 hw8 rb8 rz kb7 kb8 hww hgz HK5
  go_upto_region 6 with fail
  go_loopg [6,7] T.n (fun gg nv iv wx=>∃ (i g:Nat) (R:Nat->Value),iv=.int .i64 (i:Nat)/\nv=.slice (some ⟨g,0,none⟩) (T.W i).toNat (T.W i).toNat/\i<=T.n/\T.n<=i+gg/\Hid (∀ i',i'<i->∀ j,j<T.el i'->T.agree (addF P M) (mulF P M m) H (P ^ M) a i' j)/\LTab wx w.heap.size g (T.W i).toNat a (fun _=>True) R (T.syn (addF P M) (mulF P M m) H i)/\Below w8.heap.size w8 wx)
  case atStart =>
   have hw0:(T.W 0).toNat=1:=by rw [HP.out.w0]; rfl
   refine ⟨0,gz+1,fun _=>.slice (some ⟨gz,0,none⟩) a a,rfl,?_,by omega,by omega,hid fun i' h=>absurd h (by omega),?_,Below.refl _ _⟩
   ·rw [hw0]
   ·rw [hw0]; exact hL0
  case round =>
   clear hL0
   obtain ⟨i,g,R,rfl,rfl,hi,hig,HOK,hLT,hB⟩:=hrel
   have hi0:(0:Int)<=(i:Int):=by omega
   have HLT:=hid hLT
   have HKB:=hid hB
   obtain ⟨w9,hw9⟩:∃ X,X=wr:=⟨_,rfl⟩
   subst hw9
   clear hLT hB
   have q3:w9.cell? ⟨b0,3,none⟩=some (.int .i64 (T.n:Nat)):=((HBOX.out _ (onS HK8.out HKB.out)).1).cell (i:=3) (by omega)
   by_cases hin:i<T.n
   ·have hin':(i:Int)<(T.n:Int):=by omega
    obtain ⟨eb,eo,E,ec,hBe,heb,e0w,hec,hec2,hEd,hI64⟩:=HR.out.sec hin
    have HED:=hid hEd
    have HKW:=hid (onS (onS HB.out HK8.out) HKB.out)
    have e0:=cellS HKW.out e0w
    subst hBe
    obtain ⟨el,hel⟩:∃ x,x=T.el i:=⟨_,rfl⟩
    have hel2:el<=262144:=by rw [hel]; exact HSH.out.elb hin
    rw [<-hel] at e0 e0w HED
    have HE0:=hid e0w
    have HEL:=hid hel
    clear hel hEd hI64 hec hec2 e0w
    have hW1:=HW.out (i+1) (by omega)
    obtain ⟨mm,hmm⟩:∃ x:Nat,x=(T.W (i+1)).toNat:=⟨_,rfl⟩
    have hWm:T.W (i+1)=(mm:Int):=by omega
    have hm65:mm<=65536:=by omega
    obtain ⟨ab,ao,hAe,_,a0,_⟩:=(HR.out.on HKW.out).width (i:=i+1) (by have:=HNW1.out; omega)
    subst hAe
    rw [hWm] at a0
    have HMM:=hid hmm
    have HWM:=hid hWm
    clear hmm hWm hW1
    have hi1w:IntKind.i64.wrap ((i:Int)+1)=((i+1:Nat):Int):=by rw [IntWalk.i64_in _ (by omega)]; rfl
    have hmk:=HMR.out mm hm65
    have hinw:((i+1:Nat):Int)<(T.nw:Int):=by have:=HNW1.out; omega
    have hinw2:(i:Int)+1<(T.nw:Int):=by omega
    have hi10:(0:Int)<=((i+1:Nat):Int):=by omega
    have p0:w9.cell? ⟨b1,0,none⟩=some (.slice (some ⟨ab,ao,none⟩) T.nw ca):=((HBOX.out _ (onS HK8.out HKB.out)).2).cell (i:=0) (by omega)
    go_upto_region 9 with fail
    have hmade:=LTab.made (m:=mm) w9 a (T.synF (addF P M) (mulF P M m) H (T.syn (addF P M) (mulF P M m) H i) i 0)
    have kb8:Below w9.heap.size w9 (w9.alloc (.cells (madeCells #[.slice none 0 0] mm) 22)):=(Below.refl _ _).alloc (Nat.le_refl _) _
    have hs10:(w9.alloc (.cells (madeCells #[.slice none 0 0] mm) 22)).heap.size=w9.heap.size+1:=by simp
    obtain ⟨w10,hw10⟩:∃ W,W=w9.alloc (.cells (madeCells #[.slice none 0 0] mm) 22):=⟨_,rfl⟩
    rw [<-hw10] at hmade kb8 hs10 ⊢
    obtain ⟨g2,hg2⟩:∃ x,x=w9.heap.size:=⟨_,rfl⟩
    have hg2w:w.heap.size<=g2:=by have:=HKW.out.size; omega
    have hg8:Hid (w8.heap.size<=g2):=hid (by have:=HKB.out.size; omega)
    rw [<-hg2] at hmade ⊢
    have hLTn:LTab w10 w.heap.size g2 mm a (T.asg i 0) (fun _=>.slice none 0 0) (T.synF (addF P M) (mulF P M m) H (T.syn (addF P M) (mulF P M m) H i) i 0):=⟨hg2w,hmade.row,fun u _ h=>absurd h Trel.asg_zero,fun _ _ _=>rfl⟩
    have hgg:Hid (g2≠g):=hid (by have:=HLT.out.row.lt; omega)
    have hLT8:=HLT.out.on kb8
    have hk8:=onS HKB.out kb8
    clear hmade hw10 kb8 hg2 HLT HKB hmk a0 e0 p0 q3 hs10 HKW hi1w hinw hinw2 hi10
    obtain ⟨wi,hwi⟩:∃ x:Nat,x=(T.W i).toNat:=⟨_,rfl⟩
    have hWi:T.W i=(wi:Int):=by have:=HW.out i (by omega); omega
    rw [<-hwi] at hLT8 ⊢
    have HWI:=hid hWi
    clear hwi hWi
    obtain ⟨gO,hgO⟩:∃ x,x=gk:=⟨_,rfl⟩
    subst hgO
    go_upto_region 10 with fail
    go_loopg [9] el (fun gg jv wx=>∃ (j:Nat) (R2:Nat->Value),jv=.int .i64 (j:Nat)/\j<=el/\el<=j+gg/\Hid (∀ e,e<j->T.agree (addF P M) (mulF P M m) H (P ^ M) a i e)/\LTab wx w.heap.size g wi a (fun _=>True) R (T.syn (addF P M) (mulF P M m) H i)/\LTab wx w.heap.size g2 mm a (T.asg i j) R2 (T.synF (addF P M) (mulF P M m) H (T.syn (addF P M) (mulF P M m) H i) i j)/\Below w8.heap.size w8 wx)
    case atStart=>exact ⟨0,_,rfl,by omega,by omega,hid fun e h=>absurd h (by omega),hLT8,hLTn,hk8⟩
    case round =>
     clear hLT8 hLTn hk8
     obtain ⟨j,R2,rfl,hj,hjg,HOJ,hLT,hLN,hB⟩:=hrel
     have hj0:(0:Int)<=(j:Int):=by omega
     have HLT:=hid hLT
     have HLN:=hid hLN
     have HKB:=hid hB
     obtain ⟨w9,hw9⟩:∃ X,X=wr:=⟨_,rfl⟩
     subst hw9
     clear hLT hLN hB
     have hK9:=onS (onS HB.out HK8.out) HKB.out
     have p1:w9.cell? ⟨b1,1,none⟩=some (.slice (some ⟨eb,eo,none⟩) T.n cb):=((HBOX.out _ (onS HK8.out HKB.out)).2).cell (i:=1) (by omega)
     have e0:=cellS hK9 HE0.out
     by_cases hjl:j<el
     ·have hjl':(j:Int)<(el:Int):=by omega
      obtain ⟨xb,xo,hEe,hxb,x0,x1,x2⟩:=zaS HED.out hjl
      subst hEe
      replace x0:=cellS hK9 x0;replace x1:=cellS hK9 x1;replace x2:=cellS hK9 x2
      have hins:=HSH.out.ins i hin j (by rw [<-HEL.out]; exact hjl)
      obtain ⟨f0,f1,t0,t1⟩:=hins
      obtain ⟨fu,hfu⟩:∃ x:Nat,x=(T.fr i j).toNat:=⟨_,rfl⟩
      obtain ⟨tu,htu⟩:∃ x:Nat,x=(T.to i j).toNat:=⟨_,rfl⟩
      have hf:T.fr i j=(fu:Int):=by omega
      have ht:T.to i j=(tu:Int):=by omega
      rw [hf] at x0 f0 f1;rw [ht] at x2 t0 t1;rw [HWI.out] at f1;rw [HWM.out] at t1
      have HFU:=hid hfu
      have HTU:=hid htu
      obtain ⟨lb,hlb⟩:∃ x:Int,x=T.lb i j:=⟨_,rfl⟩
      rw [<-hlb] at x1
      have HLB:=hid hlb
      clear hf ht hfu htu hlb
      go_upto_region 13 with fail
      have rx:=zad (w:=w9) (a:=.int .i64 (fu:Nat)) (b:=.int .i64 lb) (c:=.int .i64 (tu:Nat)) (T := 148)
      have kb:Below w9.heap.size w9 (w9.alloc (.cells #[.int .i64 (fu:Nat),.int .i64 lb,.int .i64 (tu:Nat)] 148)):=(Below.refl _ _).alloc (Nat.le_refl _) _
      obtain ⟨w10,hw10⟩:∃ W,W=w9.alloc (.cells #[.int .i64 (fu:Nat),.int .i64 lb,.int .i64 (tu:Nat)] 148):=⟨_,rfl⟩
      rw [<-hw10] at rx kb ⊢;clear hw10
      obtain ⟨b12,hb12⟩:∃ b,b=w9.heap.size:=⟨_,rfl⟩
      rw [<-hb12] at rx ⊢;clear hb12 x0 x1 x2 e0 p1;replace HLT:=hid (HLT.out.on kb);replace HLN:=hid (HLN.out.on kb);replace HKB:=hid (onS HKB.out kb);clear kb hK9
      have y1:=qc1 rx
      have r10:=(HBOX.out _ (onS HK8.out HKB.out)).1
      have q0:=qc0 r10
      have q1:=qc1 r10
      have q2:=qc2 r10
      clear r10
      go_wp2_with fail
      refine (zey P M A k c lb w10 HFO.out).mono ?_
      rintro e w11 ⟨rfl,kb⟩
      have HRX:=hid (zaa rx kb)
      replace HLT:=hid (HLT.out.on kb);replace HLN:=hid (HLN.out.on kb);replace HKB:=hid (onS HKB.out kb);clear kb rx y1 q0 q1 q2
      have hIS:isB (P ^ M) lb=true↔0<=lb/\lb<((P ^ M:Nat):Int):=by unfold isB; simp
      obtain hb | hb:=Bool.eq_false_or_eq_true (isB (P ^ M) lb)
      rotate_left
      ·rw [hb]
       have hno:¬ T.SynOk (addF P M) (mulF P M m) H (P ^ M) a:=fun h=>by
        have h1:=(h i hin j (by rw [<-HEL.out]; exact hjl)).1
        rw [<-HLB.out] at h1;rw [hIS.2 h1] at hb
        cases hb
       have hB11:=onS (onS HB.out HK8.out) HKB.out
       clear hb hIS
       go_wp2
       go_ret
       exact ⟨false,rfl,hB11,.inr ⟨rfl,a,H,HREL.out,⟨fun h=>(nomatch h),fun h=>absurd h.1 hno⟩⟩⟩
      have hlb:=hIS.1 hb
      rw [hb]
      obtain ⟨lu,rfl⟩:∃ x:Nat,lb=x:=⟨lb.toNat,by omega⟩
      have HLUQ:Hid (lu<P ^ M):=hid (by omega)
      have HLU:Hid ((T.lb i j).toNat=lu):=hid (by rw [<-HLB.out]; exact Int.toNat_natCast _)
      have HLR:Hid (0<=T.lb i j/\T.lb i j<((P ^ M:Nat):Int)):=hid (by rw [<-HLB.out]; exact hlb)
      clear hb hIS hlb
      go_upto_region 15 with fail
      have hfw:fu<wi:=by omega
      have htw:tu<mm:=by omega
      obtain ⟨SF,fc,hRf⟩:=(HLT.out.yes fu hfw trivial).shape
      have HRf:=hid hRf
      have hgN:=HLT.out.row.cell hfw
      rw [hRf] at hgN
      obtain ⟨tb,tO,RA,rc,hLA,_,_,h0,_,hrow⟩:=(HMT.out.on HKB.out).row hin
      subst hLA
      have HROW:=hid hrow
      have r10:=(HBOX.out _ (onS HK8.out HKB.out)).1
      have q0:=qc0 r10
      have q1:=qc1 r10
      have q2:=qc2 r10
      have z0:=qc0 HRX.out
      have z1:=qc1 HRX.out
      clear r10 hRf hrow
      refine wp_region_held_drew (S:=fun w'=>w'.cell? ⟨g,fu,none⟩=some (.slice SF a fc)/\w'.cell? ⟨tb,tO+i,none⟩=some (.slice RA a rc)/\w'.cell? ⟨b0,0,none⟩=some (.int .i64 (P:Nat))/\w'.cell? ⟨b0,1,none⟩=some (.int .i64 (M:Nat))/\w'.cell? ⟨b0,2,none⟩=some (.slice A k c)/\w'.cell? ⟨b12,0,none⟩=some (.int .i64 (fu:Nat))/\w'.cell? ⟨b12,1,none⟩=some (.int .i64 (lu:Nat))) (by kernel_rfl) ⟨cellS (Below.refl _ _).drew hgN,cellS (Below.refl _ _).drew h0,cellS (Below.refl _ _).drew q0,cellS (Below.refl _ _).drew q1,cellS (Below.refl _ _).drew q2,cellS (Below.refl _ _).drew z0,cellS (Below.refl _ _).drew z1⟩ (fun hHeld=>?_)
      obtain ⟨w12,hw⟩:∃ W,W=World.drew w11:=⟨_,rfl⟩
      have kb:Below w11.heap.size w11 w12:=by rw [hw]; exact (Below.refl _ _).drew
      rw [<-hw] at hHeld ⊢;clear hw;replace HRX:=hid (zaa HRX.out kb);replace HLT:=hid (HLT.out.on kb);replace HLN:=hid (HLN.out.on kb);replace HKB:=hid (onS HKB.out kb);replace HROW:=hid (HROW.out.on kb);replace hgN:=cellS kb hgN;replace h0:=cellS kb h0;replace q0:=cellS kb q0;replace q1:=cellS kb q1;replace q2:=cellS kb q2;replace z0:=cellS kb z0;replace z1:=cellS kb z1;clear kb
      refine tkq 0 (h:=tkq 1 (h:=tkq 2 (h:=tkq 3 (h:=tkq 4 (h:=tkq 5 (h:=tkq 6 (h:=tkq 7 (h:=tkq 8 (h:=tkq 9 (h:=tkq 10 (h:=tkq 11 (h:=tkq 12 (h:=?_)))))))))))))
      clear hHeld
      refine rdq 13 (h:=fun K hK=>?_)
      go_simp
      go_wp2_with fail
      have hOf:=HLT.out.yes fu hfw trivial
      rw [HRf.out] at hOf
      have HSF:=hid (show IntsR w12 w12.heap.size SF a (fun k=>((T.syn (addF P M) (mulF P M m) H i fu k:Nat):Int)) from hOf.rd rfl)
      have HSL:=hid (show IntsR w12 w12.heap.size RA a (fun k=>((H k i:Nat):Int)) from HROW.out.rd rfl)
      have KW:=onS (onS HB.out HK8.out) HKB.out
      have HSW:=hid KW.size
      clear hOf
      refine (zb0 P M A k c m lu SF RA a fc a rc (fun k=>T.syn (addF P M) (mulF P M m) H i fu k) (fun k=>H k i) w12 HFO.out (HC.out.on KW).mod HC.out.km HLUQ.out HSF.out (fun k _=>Trel.syn_lt HL.out _ _ _) HSL.out (fun k hk=>HHq.out k hk i hin) (Nat.le_refl _) (by omega)).mono ?_
      rintro e w13 ⟨gs,rfl,hgs,hr,kb⟩
      have hO:=zau hr (Nat.le_trans KW.size hgs) (by unfold maxLen; omega)
      have HO13:Hid (Own w13 w.heap.size 3 1 (.slice (some ⟨gs,0,none⟩) a a) a (fun k _=>.int .i64 (T.synv (addF P M) (mulF P M m) H (T.syn (addF P M) (mulF P M m) H i) i j k:Nat))):=hid (hO.congr fun k hk _ _=>by
       show Value.int .i64 (atF P M m lu (fun k=>T.syn (addF P M) (mulF P M m) H i fu k) (fun k=>H k i) k:Nat)=_
       congr 2
       unfold Trel.synv atF
       rw [HLU.out,<-HFU.out]
       show (if H k i=0 then _ else _)=_
       split
       ·rename_i h0
        rw [h0,HL.out.mulZero HLUQ.out,HL.out.addZero (Trel.syn_lt HL.out _ _ _)]
       ·rfl)
      refine bkq hK ⟨cellS kb hgN,cellS kb h0,cellS kb q0,cellS kb q1,cellS kb q2,cellS kb z0,cellS kb z1⟩ (h:=fun hHeld=>?_)
      replace HRX:=hid (zaa HRX.out kb);replace HLT:=hid (HLT.out.on kb);replace HLN:=hid (HLN.out.on kb);replace HKB:=hid (onS HKB.out kb);clear hK K hO kb hgN h0 q0 q1 q2 z0 z1 HSF HSL KW hr hgs HROW
      refine tkq 14 (h:=?_)
      refine wpAnyH_done (by kernel_rfl) ?_ _
      clear hHeld
      have hold:∃ OA oc on,R2 tu=.slice OA on oc/\((T.asg i j tu/\on=a)∨(¬ T.asg i j tu/\on=0)):=by
       by_cases hasg:T.asg i j tu
       ·obtain ⟨OA,oc,e⟩:=(HLN.out.yes tu htw hasg).shape
        exact ⟨OA,oc,a,e,.inl ⟨hasg,rfl⟩⟩
       ·exact ⟨none,0,0,HLN.out.no tu htw hasg,.inr ⟨hasg,rfl⟩⟩
      obtain ⟨OA,oc,on,hRo,hcase⟩:=hold
      have hgM:=HLN.out.row.cell htw
      rw [hRo] at hgM
      have HRo:=hid hRo
      clear hRo
      have HCASE:=hid hcase
      clear hcase
      have hb2:=qc2 HRX.out
      go_upto_if 91 with fail
      go_cut [] (fun wx=>∃ R3:Nat->Value,LTab wx w.heap.size g2 mm a (T.asg i (j+1)) R3 (T.synF (addF P M) (mulF P M m) H (T.syn (addF P M) (mulF P M m) H i) i (j+1))/\LTab wx w.heap.size g wi a (fun _=>True) R (T.syn (addF P M) (mulF P M m) H i)/\wx.rowIs b12 148 3 (fldCell (.int .i64 (fu:Nat)) (.int .i64 (lu:Nat)) (.int .i64 (tu:Nat)))/\Own wx w.heap.size 3 1 (.slice (some ⟨gs,0,none⟩) a a) a (fun k _=>.int .i64 (T.synv (addF P M) (mulF P M m) H (T.syn (addF P M) (mulF P M m) H i) i j k:Nat))/\Below w8.heap.size w8 wx)
      case first =>
       have keepL:∀ (hz:T.asg i j tu),0<a->LTab w13 w.heap.size g2 mm a (T.asg i (j+1)) R2 (T.synF (addF P M) (mulF P M m) H (T.syn (addF P M) (mulF P M m) H i) i (j+1)):=fun hz _=>HLN.out.congr (fun u hu=>by
        rw [Trel.asg_succ]
        refine ⟨.inl,fun h=>h.elim id fun h=>?_⟩
        rw [<-h,<-HTU.out]; exact hz) fun u hu hp k hk=>by
        rw [Trel.synF_old hp]
       have KEEPL:=hid keepL
       clear keepL
       by_cases hon:on=0
       ·have hob:((on:Int) == 0)=true:=by simp [hon]
        have hfree:¬ T.asg i j tu∨a=0:=by
         rcases HCASE.out with ⟨_,h⟩ | ⟨h,_⟩
         ·exact .inr (by omega)
         ·exact .inl h
        have HFREE:=hid hfree
        have HON:=hid hon
        clear hon hfree
        have u0:=HLN.out.row.cell htw
        have u1:=HLN.out.row.frozen tu
        go_wp2
        have hLN2:=HLN.out.set (u:=tu) HO13.out
        have hLT2:=HLT.out.kept (zaO w13 g2 tu (.slice (some ⟨gs,0,none⟩) a a)) hgg.out fun u hu hp e=>(zaL HLN.out.row (HLT.out.yes u hu hp) (by decide)).elim (fun h=>by rw [h] at e; cases e) (fun h=>h e)
        have hne2:b12≠g2:=fun e=>(zaL HRX.out (zau HLN.out.row (Nat.zero_le _) (by unfold maxLen; omega)) (by decide)).elim (fun h=>by cases h) (fun h=>h (by rw [e]; rfl))
        have hrx18:=zer hne2 (.slice (some ⟨gs,0,none⟩) a a) tu HRX.out
        have hO2:=HO13.out.setCell (a:=⟨g2,tu,none⟩) (fun e=>(zaL HLN.out.row HO13.out (by decide)).elim (fun h=>by cases h) (fun h=>h e)) (.slice (some ⟨gs,0,none⟩) a a)
        have hk2:=HKB.out.setCell (p:=⟨g2,tu,none⟩) hg8.out (.slice (some ⟨gs,0,none⟩) a a)
        go_meet
        refine ⟨_,hLN2.congr (fun u _=>by rw [Trel.asg_succ,<-HTU.out]; exact or_congr Iff.rfl eq_comm) fun u _ hu k hk=>?_,hLT2,hrx18,hO2,hk2⟩
        show (if u=tu then T.synv (addF P M) (mulF P M m) H (T.syn (addF P M) (mulF P M m) H i) i j k else T.synF (addF P M) (mulF P M m) H (T.syn (addF P M) (mulF P M m) H i) i j u k)=_
        by_cases e:u=tu
        ·rw [if_pos e]
         rcases HFREE.out with h | h
         ·rw [Trel.synF_new (by rw [e]; exact h) (by rw [e]; exact HTU.out.symm)]
         ·omega
        ·rw [if_neg e,Trel.synF_far (fun g=>e (g.symm.trans HTU.out.symm))]
       ·have hob:((on:Int) == 0)=false:=by simpa using hon
        have hL3:=KEEPL.out (by
         rcases HCASE.out with ⟨h,_⟩ | ⟨_,h⟩
         ·exact h
         ·omega) (by
         rcases HCASE.out with ⟨_,h⟩ | ⟨_,h⟩ <;> omega)
        have HL3:=hid hL3
        clear hL3
        go_wp2
        go_meet
        exact ⟨_,HL3.out,HLT.out,HRX.out,HO13.out,HKB.out⟩
      case rest =>
       obtain ⟨R3,hLN,hLT,hRX,hO,hB⟩:=hcut
       obtain ⟨w14,hw14⟩:∃ X,X=wc:=⟨_,rfl⟩
       subst hw14
       clear HLN HLT HRX HO13 HKB hgM hb2 HRo HRf HCASE
       have HRX:=hid hRX
       have HLT:=hid hLT
       have HLN:=hid hLN
       have HO:=hid hO
       have HKB:=hid hB
       clear hLN hLT hRX hO hB
       have hasg:T.asg i (j+1) tu:=Trel.asg_succ.2 (.inr HTU.out.symm)
       have hOn:=HLN.out.yes tu htw hasg
       obtain ⟨OA3,oc3,hR3⟩:=hOn.shape
       have hgM:=HLN.out.row.cell htw
       rw [hR3] at hgM hOn
       have HON:=hid hOn
       have HASG:=hid hasg
       clear hR3 hOn hasg
       have hb2:=qc2 HRX.out
       go_wp2_with fail
       refine (zeq OA3 (some ⟨gs,0,none⟩) a a oc3 a (fun k=>((T.synF (addF P M) (mulF P M m) H (T.syn (addF P M) (mulF P M m) H i) i (j+1) tu k:Nat):Int)) (fun k=>((T.synv (addF P M) (mulF P M m) H (T.syn (addF P M) (mulF P M m) H i) i j k:Nat):Int)) w14 (HON.out.rd rfl) (HO.out.rd rfl) (by omega) (by omega)).mono ?_
       rintro e w15 ⟨r,rfl,hr,kb⟩
       replace HLT:=hid (HLT.out.on kb);replace HLN:=hid (HLN.out.on kb);replace HKB:=hid (onS HKB.out kb)
       have hSF1:T.asg i j tu->∀ k,k<a->T.synF (addF P M) (mulF P M m) H (T.syn (addF P M) (mulF P M m) H i) i (j+1) tu k=T.synL (addF P M) (mulF P M m) H (T.syn (addF P M) (mulF P M m) H i) i j tu k:=fun hz k hk=>by
        rw [Trel.synF_old hz]
        exact Trel.syn_first j HOJ.out tu hz k hk
       have hSF2:¬ T.asg i j tu->∀ k,T.synF (addF P M) (mulF P M m) H (T.syn (addF P M) (mulF P M m) H i) i (j+1) tu k=T.synv (addF P M) (mulF P M m) H (T.syn (addF P M) (mulF P M m) H i) i j k:=fun hz k=>Trel.synF_new hz HTU.out.symm
       have hagr:r=0↔T.agree (addF P M) (mulF P M m) H (P ^ M) a i j:=by
        rw [hr]
        constructor
        ·intro h
         refine ⟨HLR.out,?_⟩
         rw [<-HTU.out]
         intro hz k hk
         have h1:=Int.ofNat.inj (h.2 k hk)
         rw [hSF1 hz k hk] at h1
         exact h1
        ·intro h
         refine ⟨rfl,fun k hk=>?_⟩
         show ((T.synF (addF P M) (mulF P M m) H (T.syn (addF P M) (mulF P M m) H i) i (j+1) tu k:Nat):Int)=_
         by_cases hz:T.asg i j tu
         ·have:=h.2
          rw [<-HTU.out] at this;rw [hSF1 hz k hk,this hz k hk]
         ·rw [hSF2 hz k]
       have HAGR:=hid hagr
       clear hr hSF1 hSF2 hagr kb hgM hb2 HON HO HRX
       by_cases hr0:r=0
       ·have hrb:(r != 0)=false:=by simp [hr0]
        have HOK2:Hid (∀ e,e<j+1->T.agree (addF P M) (mulF P M m) H (P ^ M) a i e):=hid fun e he=>by
         by_cases h:e=j
         ·rw [h]; exact HAGR.out.1 hr0
         ·exact HOJ.out e (by omega)
        clear hr0
        go_wp2
        go_roundg (gk - 1)
        case measure=>omega
        case rel=>exact ⟨j+1,R3,by go_num,by omega,by omega,HOK2,HLT.out,HLN.out,HKB.out⟩
       ·have hrb:(r != 0)=true:=by simpa using hr0
        have hno:¬ T.SynOk (addF P M) (mulF P M m) H (P ^ M) a:=fun h=>hr0 (HAGR.out.2 (h i hin j (by rw [<-HEL.out]; exact hjl)))
        have hB15:=onS (onS HB.out HK8.out) HKB.out
        have HNO:=hid hno
        clear hr0 hno
        go_wp2
        go_ret
        exact ⟨false,rfl,hB15,.inr ⟨rfl,a,H,HREL.out,⟨fun h=>(nomatch h),fun h=>absurd h.1 HNO.out⟩⟩⟩
     ·have hjl':¬ (j:Int)<(el:Int):=by omega
      obtain rfl:el=j:=by omega
      have hLTf:LTab w9 w.heap.size g2 (T.W (i+1)).toNat a (fun _=>True) R2 (T.syn (addF P M) (mulF P M m) H (i+1)):=by
       rw [<-HMM.out]
       refine HLN.out.congr (fun u hu=>⟨fun _=>trivial,fun _=>?_⟩) fun u _ hu k hk=>by
        show _=T.synL (addF P M) (mulF P M m) H (T.syn (addF P M) (mulF P M m) H i) i (T.el i) u k
        rw [<-HEL.out]
        exact Trel.syn_first el HOJ.out u hu k hk
       obtain ⟨e,he,h1⟩:=zdM.1 ((HP.out.sec i hin).2.2 u (by rw [<-HMM.out]; exact hu))
       exact ⟨e,by rw [HEL.out]; exact he,by rw [h1]; exact Int.toNat_natCast _⟩
      have HLTf:=hid hLTf
      have HMMf:Hid ((mm:Nat)=(T.W (i+1)).toNat):=HMM
      have HOKf:Hid (∀ i',i'<i+1->∀ j,j<T.el i'->T.agree (addF P M) (mulF P M m) H (P ^ M) a i' j):=hid fun i' h' j hj=>by
       by_cases e:i'=i
       ·subst e
        exact HOJ.out j (by rw [HEL.out]; exact hj)
       ·exact HOK.out i' (by omega) j hj
      clear hLTf
      go_wp2
      go_roundg (gO - 1)
      case measure=>omega
      case rel=>exact ⟨i+1,g2,R2,by go_num,by rw [HMMf.out],by omega,by omega,HOKf,HLTf.out,HKB.out⟩
   ·have hin':¬ (i:Int)<(T.n:Int):=by omega
    obtain rfl:i=T.n:=by omega
    have hw1:(T.W T.n).toNat=1:=by rw [HP.out.wn]; rfl
    have HOKN:Hid (T.SynOk (addF P M) (mulF P M m) H (P ^ M) a):=HOK
    obtain ⟨SA,sc,hRS⟩:=(HLT.out.yes 0 (by rw [hw1]; omega) trivial).shape
    have hO:=HLT.out.yes 0 (by rw [hw1]; omega) trivial
    have hg0:=HLT.out.row.cell (i:=0) (by rw [hw1]; omega)
    rw [hRS] at hO hg0;rw [hw1]
    have HSA:=hid (show IntsR w9 w9.heap.size SA a (fun k=>((T.syn (addF P M) (mulF P M m) H T.n 0 k:Nat):Int)) from hO.rd rfl)
    have HK9:=hid (onS HK8.out HKB.out)
    clear HLT HKB HOK hw1 hRS hO
    go_upto_region 22 with fail
    go_loopg [12] a (fun gg kv wx=>∃ k2:Nat,kv=.int .i64 (k2:Nat)/\k2<=a/\a<=k2+gg/\Hid (∀ k',k'<k2->T.syn (addF P M) (mulF P M m) H T.n 0 k'=0)/\wx=w9)
    case atStart=>exact ⟨0,rfl,by omega,by omega,hid fun k' h=>absurd h (by omega),rfl⟩
    case round =>
     obtain ⟨k2,rfl,hk,hkg,HZ,hwx⟩:=hrel
     obtain rfl:w9=wr:=hwx.symm
     have hk0:(0:Int)<=(k2:Int):=by omega
     by_cases hka:k2<a
     ·have hka':(k2:Int)<(a:Int):=by omega
      obtain ⟨sb,so,rfl,_,y0⟩:=HSA.out.at hka
      obtain ⟨y,hy⟩:∃ y,y=T.syn (addF P M) (mulF P M m) H T.n 0 k2:=⟨_,rfl⟩
      rw [<-hy] at y0
      have HY:=hid hy
      clear hy
      by_cases hy0:y=0
      ·have hyb:((y:Int) != 0)=false:=by simp [hy0]
       have HZ2:Hid (∀ k',k'<k2+1->T.syn (addF P M) (mulF P M m) H T.n 0 k'=0):=hid fun k' hk'=>by
        by_cases e:k'=k2
        ·rw [e,<-HY.out,hy0]
        ·exact HZ.out k' (by omega)
       clear hy0
       go_wp2
       go_roundg (gk - 1)
       case measure=>omega
       case rel=>exact ⟨k2+1,by go_num,by omega,by omega,HZ2,rfl⟩
      ·have hyb:((y:Int) != 0)=true:=by simpa using hy0
       have HNO:Hid (¬ ∀ k',k'<a->T.syn (addF P M) (mulF P M m) H T.n 0 k'=0):=hid fun h=>hy0 (by rw [HY.out]; exact h k2 hka)
       clear hy0
       go_wp2
       go_ret
       exact ⟨false,rfl,onS HB.out HK9.out,.inr ⟨rfl,a,H,HREL.out,⟨fun h=>(nomatch h),fun h=>absurd h.2.1 HNO.out⟩⟩⟩
     ·have hka':¬ (k2:Int)<(a:Int):=by omega
      obtain rfl:k2=a:=by omega
      have r9:=(HBOX.out _ HK9.out).1
      have q0:=qc0 r9
      have q1:=qc1 r9
      have q2:=qc2 r9
      have q4:=qc4 r9
      clear r9
      have HORD:=hid (zbS HFO.out)
      obtain ⟨Q,hQ⟩:∃ Q,Q=P ^ M:=⟨_,rfl⟩
      have hq256:Q<=256:=by rw [hQ]; exact HQ256.out
      have hq2:2<=Q:=by rw [hQ]; exact HL.out.two
      have hnT:n<=64:=by omega
      have hdq:dl Q<=1:=zhe (by omega)
      have hdp:dl (Q ^ n)<=64:=zhe (Nat.lt_of_le_of_lt (Nat.le_trans (Nat.pow_le_pow_left hq256 n) (Nat.pow_le_pow_right (by omega) hnT)) (by decide))
      rw [<-hQ] at HORD
      have HQ:=hid hQ
      have HDQ:=hid hdq
      have HDP:=hid hdp
      clear hQ hdq hdp
      go_upto_region 26 with fail
      go_cut [13] (fun v13 wx=>∃ (PA:Option Addr) (pc:Nat),v13=.slice PA (dl (Q ^ n)) pc/\NatOk wx wx.heap.size PA (Q ^ n)/\Below w9.heap.size w9 wx)
      case first =>
       have kb:Below w9.heap.size w9 w9.drew:=(Below.refl _ _).drew
       refine wp_region_held_drew (S:=fun w'=>w'.cell? ⟨b0,0,none⟩=some (.int .i64 (P:Nat))/\w'.cell? ⟨b0,1,none⟩=some (.int .i64 (M:Nat))/\w'.cell? ⟨b0,2,none⟩=some (.slice A k c)/\w'.cell? ⟨b0,4,none⟩=some (.slice TC n d)) (by kernel_rfl) ⟨cellS kb q0,cellS kb q1,cellS kb q2,cellS kb q4⟩ (fun hHeld=>?_)
       obtain ⟨w10,hw⟩:∃ W,W=World.drew w9:=⟨_,rfl⟩
       rw [<-hw] at kb hHeld ⊢;clear hw;replace q0:=cellS kb q0;replace q1:=cellS kb q1;replace q2:=cellS kb q2;replace q4:=cellS kb q4
       have KB:=hid kb
       clear kb
       refine tkq 0 (h:=tkq 1 (h:=tkq 5 (h:=tkq 6 (h:=tkq 7 (h:=?_)))))
       clear hHeld
       refine rdq 2 (h:=fun K hK=>?_)
       go_simp
       go_wp2_with fail
       refine (zbB (P:Int) (M:Int) A k c w10).mono ?_
       rintro e w11 ⟨rfl,kb⟩
       rw [HORD.out];replace q0:=cellS kb q0;replace q1:=cellS kb q1;replace q2:=cellS kb q2;replace q4:=cellS kb q4;replace KB:=hid (onS KB.out kb);clear kb
       refine bkq hK ⟨q0,q1,q2,q4⟩ (h:=fun hHeld=>?_)
       clear hK K
       refine tkq 3 (h:=?_)
       clear hHeld
       refine rdq 4 (h:=fun K hK=>?_)
       go_simp
       go_wp2_with fail
       rw [show IntKind.u64.wrap (Q:Int)=(Q:Int) from by rw [IntWalk.u64_in _ (by omega)]]
       refine (ze6 Q w11 (by omega)).mono ?_
       rintro e w12 ⟨A2,c2,rfl,h1,h2,h3,kb⟩
       have HNO:=hid h3
       have HC2:=hid h1
       have HC3:=hid h2
       replace q0:=cellS kb q0;replace q1:=cellS kb q1;replace q2:=cellS kb q2;replace q4:=cellS kb q4;replace KB:=hid (onS KB.out kb);clear kb h1 h2 h3
       refine bkq hK ⟨q0,q1,q2,q4⟩ (h:=fun hHeld=>?_)
       clear hK K hHeld
       refine rdq 8 (h:=fun K hK=>?_)
       go_simp
       go_wp2_with fail
       refine (zgy A2 c2 Q n w12 HNO.out HC2.out HC3.out (by have:=HDQ.out; omega) (by omega) (by have:=HDP.out; omega)).mono ?_
       rintro e w13 ⟨A3,c3,rfl,h1,h2,h3,kb⟩
       have HNP:=hid h3
       replace q0:=cellS kb q0;replace q1:=cellS kb q1;replace q2:=cellS kb q2;replace q4:=cellS kb q4;replace KB:=hid (onS KB.out kb);clear kb h1 h2 h3 HC2 HC3 HNO
       refine bkq hK ⟨q0,q1,q2,q4⟩ (h:=fun hHeld=>?_)
       clear hK K
       refine tkq 9 (h:=tkq 10 (h:=tkq 11 (h:=tkq 12 (h:=tkq 13 (h:=?_)))))
       refine wpAnyH_done (by kernel_rfl) ?_ _
       clear hHeld
       go_wp2
       go_meet
       exact ⟨A3,c3,rfl,HNP.out,KB.out⟩
      case rest =>
       obtain ⟨PA,pc,rfl,hNP,hB⟩:=hcut
       obtain ⟨w10,hw10⟩:∃ X,X=wc:=⟨_,rfl⟩
       subst hw10
       clear q0 q1 q2 q4
       have r10:=(HBOX.out _ (onS HK9.out hB)).2
       have p0:=qc0 r10
       have p1:=qc1 r10
       have HNP:=hid hNP
       have KB:=hid (onS (onS HB.out HK9.out) hB)
       clear r10 hNP hB
       go_wp2_with fail
       refine (zeY T TA TB ca cb w10 (HR.out.on KB.out) HP.out).mono ?_
       rintro e w11 ⟨A4,c4,rfl,h1,h2,h3,kb⟩
       have HN4:=hid h3
       have HC4:=hid h1
       have HC5:=hid h2
       have HN5:=hid (show NatOk w11 w11.heap.size PA (Q ^ n) from HNP.out.on kb)
       replace KB:=hid (onS KB.out kb);clear kb h1 h2 h3 p0 p1
       have HD4:Hid (dl (T.fwd (fun _ _=>1) T.n 0)<=maxLen):=hid (Nat.le_trans HC4.out HC5.out)
       go_wp2_with fail
       refine (ze0 A4 PA c4 pc (T.fwd (fun _ _=>1) T.n 0) (Q ^ n) w11 HN4.out HN5.out HD4.out).mono ?_
       rintro e w12 ⟨b,rfl,hb,kb⟩
       replace KB:=hid (onS KB.out kb)
       have HBB:Hid (b=true↔IsTr (P ^ M) k2 (addF P M) (mulF P M m) H T n):=hid (by
        rw [hb,HQ.out]
        exact ⟨fun h=>⟨HOKN.out,HZ.out,h⟩,fun h=>h.2.2⟩)
       clear kb hb
       go_wp2
       go_ret
       exact ⟨b,rfl,KB.out,.inr ⟨rfl,k2,H,HREL.out,HBB.out⟩⟩
def TChk (P M:Int) (k:Nat) (f:Nat->Int) (N:Int) (n:Nat) (ln:Nat->Nat) (V:Nat->Nat->Int) (T:Trel) (v:Int):Prop :=
 (v≠0/\FirstErr (CodeErrs P M k f N n ln V) v) ∨
 (FirstErr (CodeErrs P M k f N n ln V) 0/\((T.properE≠0/\v=T.properE)∨(T.properE=0/\∃ P' M' N':Nat,P=P'/\M=M'/\N=N'/\((T.n≠N'/\v=13) ∨
  (T.n=N'/\∃ a H,NullRel (P' ^ M') (addF P' M') (mulF P' M' fun i=>(f i).toNat) (negF P' M') n N' (natT V) a H/\(v=0∨v=13)/\(v=0↔IsTr (P' ^ M') a (addF P' M') (mulF P' M' fun i=>(f i).toNat) H T n))))))
section
variable {add mul:Nat->Nat->Nat} {H H':Nat->Nat->Nat} {T:Trel} {q a n:Nat}
theorem Trel.synL_congr {S S':Nat->Nat->Nat} {i:Nat} (hi:i<T.n) (hH:∀ k,k<a->∀ i,i<T.n->H k i=H' k i) (hS:∀ v k,k<a->S v k=S' v k):∀ j v k,k<a->T.synL add mul H S i j v k=T.synL add mul H' S' i j v k
 | 0,_,_,_=>rfl
 | j+1,v,k,hk=>by
  show (if (T.to i j).toNat=v then T.synv add mul H S i j k else T.synL add mul H S i j v k)=if (T.to i j).toNat=v then T.synv add mul H' S' i j k else T.synL add mul H' S' i j v k
  unfold Trel.synv
  rw [hS _ k hk,hH k hk i hi,Trel.synL_congr hi hH hS j v k hk]
theorem Trel.syn_congr (hH:∀ k,k<a->∀ i,i<T.n->H k i=H' k i):∀ i,i<=T.n->∀ v k,k<a->T.syn add mul H i v k=T.syn add mul H' i v k
 | 0,_,_,_,_=>rfl
 | i+1,hi,v,k,hk=>Trel.synL_congr (by omega) hH (fun v k hk=>Trel.syn_congr hH i (by omega) v k hk) _ v k hk
theorem IsTr.congr (hH:∀ k,k<a->∀ i,i<T.n->H k i=H' k i) (h:IsTr q a add mul H T n):IsTr q a add mul H' T n:=by
 refine ⟨fun i hi j hj=>⟨(h.1 i hi j hj).1,fun hz k hk=>?_⟩,fun k hk=>?_,h.2.2⟩
 ·have h1:=(h.1 i hi j hj).2 hz k hk
  rw [Trel.synL_congr hi hH (fun v k hk=>Trel.syn_congr hH i (by omega) v k hk) _ _ k hk] at h1
  rw [h1]
  unfold Trel.synv
  rw [Trel.syn_congr hH i (by omega) _ k hk,hH k hk i hi]
 ·rw [<-Trel.syn_congr hH T.n (Nat.le_refl _) _ k hk]
  exact h.2.1 k hk
end
theorem TChk.unique {P M:Int} {A:Option Addr} {k:Nat} {f:Nat->Int} {N:Int} {TC:Option Addr} {n:Nat} {ln:Nat->Nat} {V:Nat->Nat->Int} {T:Trel} {w:World} {u v:Int} (hr:IntsR w w.heap.size A k f) (h:IntRows w TC n ln V)
  (h1:TChk P M k f N n ln V T u) (h2:TChk P M k f N n ln V T v):u=v:=by
 rcases h1 with ⟨a1,b1⟩ | ⟨a1,b1⟩ <;> rcases h2 with ⟨a2,b2⟩ | ⟨a2,b2⟩
 ·exact FirstErr.unique b1 b2
 ·exact absurd (FirstErr.unique b1 a2) a1
 ·exact absurd (FirstErr.unique b2 a1) a2
 ·rcases b1 with ⟨c1,d1⟩ | ⟨c1,P',M',N',rfl,rfl,rfl,d1⟩ <;> rcases b2 with ⟨c2,d2⟩ | ⟨c2,P2,M2,N2,e1,e2,e3,d2⟩
  ·rw [d1,d2]
  ·exact absurd c2 c1
  ·exact absurd c1 c2
  ·obtain rfl:P'=P2:=by omega
   obtain rfl:M'=M2:=by omega
   obtain rfl:N'=N2:=by omega
   rcases d1 with ⟨g1,k1⟩ | ⟨g1,a,H,k1,l1,m1⟩ <;> rcases d2 with ⟨g2,k2⟩ | ⟨g2,a2,H2,k2,l2,m2⟩
   ·rw [k1,k2]
   ·exact absurd g2 g1
   ·exact absurd g1 g2
   ·obtain ⟨P3,M3,N3,x1,x2,x3,hC⟩:=zbP hr h a1
    obtain rfl:P'=P3:=by omega
    obtain rfl:M'=M3:=by omega
    obtain rfl:N'=N3:=by omega
    obtain ⟨s1,s2⟩:=NullRel.same (fieldLaws hC.fld) (fun x _=>⟨za7 (by have:=hC.fld.1.1; omega),zaR (by have:=hC.fld.1.1; omega)⟩) hC.lt k1 k2
    subst s1 g1
    have hiff:u=0↔v=0:=by
     rw [m1,m2]
     exact ⟨IsTr.congr s2,IsTr.congr fun k hk i hi=>(s2 k hk i hi).symm⟩
    rcases l1 with l1 | l1 <;> rcases l2 with l2 | l2 <;> omega
theorem zdO (P M:Int) (A:Option Addr) (k c:Nat) (f:Nat->Int) (N:Int) (TC:Option Addr) (n d:Nat) (ln:Nat->Nat) (V:Nat->Nat->Int) (T:Trel) (TA TB:Option Addr) (ca cb:Nat) (w:World) (hr:IntsR w w.heap.size A k f) (h:IntRows w TC n ln V) (hT:T.Reads w TA TB) :
  Calls Tryz.prog 48 #[.agg #[.int .i64 P,.int .i64 M,.slice A k c,.int .i64 N,.slice TC n d],.agg #[.slice TA T.nw ca,.slice TB T.n cb]] w fun e w'=>∃ v:Int,e=.returned (.int .i64 v)/\TChk P M k f N n ln V T v/\Below w.heap.size w w':=by
 have HI:=hid hr
 have HT:=hid h
 have HR:=hid hT
 clear hr h hT
 have rf:=zam (w:=w) (a:=.int .i64 P) (b:=.int .i64 M) (c:=.slice A k c) (d:=.int .i64 N) (e:=.slice TC n d) (T := 27)
 have hB:Below w.heap.size w (w.alloc (.cells #[.int .i64 P,.int .i64 M,.slice A k c,.int .i64 N,.slice TC n d] 27)):=(Below.refl _ _).alloc (Nat.le_refl _) _
 obtain ⟨w1,hw1⟩:∃ W,W=w.alloc (.cells #[.int .i64 P,.int .i64 M,.slice A k c,.int .i64 N,.slice TC n d] 27):=⟨_,rfl⟩
 rw [<-hw1] at hB rf
 have rt:=zae (w:=w1) (a:=.slice TA T.nw ca) (b:=.slice TB T.n cb) (T := 74)
 have kb:Below w1.heap.size w1 (w1.alloc (.cells #[.slice TA T.nw ca,.slice TB T.n cb] 74)):=(Below.refl _ _).alloc (Nat.le_refl _) _
 obtain ⟨w2,hw2⟩:∃ W,W=w1.alloc (.cells #[.slice TA T.nw ca,.slice TB T.n cb] 74):=⟨_,rfl⟩
 rw [<-hw2] at kb rt;replace rf:=zaa rf kb;replace hB:=onS hB kb
 have hsz1:w1.heap.size=w.heap.size+1:=by rw [hw1]; simp
 rw [hsz1] at rt
 go_enter Tryz.func48, Tryz.ntmps48
 go_upto_region 1 with fail
 rw [<-hw1,<-hw2];clear hw1 hw2 kb hsz1
 obtain ⟨b0,hb0⟩:∃ b,b=w.heap.size:=⟨_,rfl⟩
 obtain ⟨b1,hb1⟩:∃ b,b=w.heap.size+1:=⟨_,rfl⟩
 rw [<-hb0] at rf;rw [<-hb1] at rt;rw [<-hb1,<-hb0];clear hb0 hb1
 have HBOX:Hid (∀ X,Below w2.heap.size w2 X->X.rowIs b0 27 5 (codCell (.int .i64 P) (.int .i64 M) (.slice A k c) (.int .i64 N) (.slice TC n d))/\X.rowIs b1 74 2 (matCell (.slice TA T.nw ca) (.slice TB T.n cb))):=hid fun X hx=>⟨zaa rf hx,zaa rt hx⟩
 have HB:=hid hB
 clear hB rt
 have q0:=qc0 rf
 have q1:=qc1 rf
 have q2:=qc2 rf
 have q3:=qc3 rf
 have q4:=qc4 rf
 clear rf
 go_wp2_with fail
 refine (zdc P M A k c f N TC n d ln V w2 (HI.out.on HB.out) (HT.out.on HB.out)).mono ?_
 rintro e w3 ⟨v,rfl,hv,kb⟩
 have KB:=hid kb
 have HV:=hid hv
 clear q0 q1 q2 q3 q4 kb hv
 by_cases hv0:v=0
 rotate_left
 ·have hvb:(v == 0)=false:=by simpa using hv0
  have HV0:=hid hv0
  clear hv0
  go_wp2
  go_ret
  exact ⟨v,rfl,.inl ⟨HV0.out,HV.out⟩,onS HB.out KB.out⟩
 subst hv0
 obtain ⟨P',M',N',rfl,rfl,rfl,hC⟩:=zbP HI.out HT.out HV.out
 have HC:=hid hC
 clear hC
 have r3:=HBOX.out _ KB.out
 have p0:=qc0 r3.2
 have p1:=qc1 r3.2
 clear r3
 go_wp2_with fail
 refine (zem T TA TB ca cb w3 (HR.out.on (onS HB.out KB.out))).mono ?_
 rintro e w4 ⟨rfl,kb⟩
 replace KB:=hid (onS KB.out kb);clear kb p0 p1
 obtain ⟨u,hu⟩:∃ u,u=T.properE:=⟨_,rfl⟩
 rw [<-hu]
 by_cases hu0:u=0
 rotate_left
 ·have hub:(u == 0)=false:=by simpa using hu0
  have HU:Hid (T.properE≠0/\u=T.properE):=hid ⟨by rw [<-hu]; exact hu0,hu⟩
  clear hu hu0
  go_wp2
  go_ret
  exact ⟨u,rfl,.inr ⟨HV.out,.inl HU.out⟩,onS HB.out KB.out⟩
 subst hu0
 have HPE:Hid (T.properE=0):=hid hu.symm
 have HP:=hid (Trel.proper_of HPE.out)
 clear hu
 have r4:=HBOX.out _ KB.out
 have q0:=qc0 r4.1
 have q1:=qc1 r4.1
 have q2:=qc2 r4.1
 have q3:=qc3 r4.1
 have q4:=qc4 r4.1
 have p0:=qc0 r4.2
 have p1:=qc1 r4.2
 clear r4
 go_wp2_with fail
 refine (zhT P' M' (fun i=>(f i).toNat) A k c N' TC n d (natT V) T TA TB ca cb w4 (HC.out.on (onS HB.out KB.out)) (HR.out.on (onS HB.out KB.out)) HP.out).mono ?_
 rintro e w5 ⟨b,rfl,kb,hb⟩
 replace KB:=hid (onS KB.out kb)
 have HBB:=hid hb
 clear kb hb q0 q1 q2 q3 q4 p0 p1
 cases b with
 | false =>
  go_wp2
  go_ret
  refine ⟨13,rfl,.inr ⟨HV.out,.inr ⟨HPE.out,P',M',N',rfl,rfl,rfl,?_⟩⟩,onS HB.out KB.out⟩
  rcases HBB.out with ⟨h1,_⟩ | ⟨h1,a,H,h2,h3⟩
  ·exact .inl ⟨h1,rfl⟩
  ·exact .inr ⟨h1,a,H,h2,.inr rfl,⟨fun h=>absurd h (by omega),fun h=>(nomatch h3.2 h)⟩⟩
 | true =>
  go_wp2
  go_ret
  refine ⟨0,rfl,.inr ⟨HV.out,.inr ⟨HPE.out,P',M',N',rfl,rfl,rfl,?_⟩⟩,onS HB.out KB.out⟩
  rcases HBB.out with ⟨_,h1⟩ | ⟨h1,a,H,h2,h3⟩
  ·cases h1
  ·exact .inr ⟨h1,a,H,h2,.inl rfl,⟨fun _=>h3.1 trivial,fun _=>rfl⟩⟩
theorem zes (x:Int) (w:World):Calls Tryz.prog 119 #[.int .i64 x] w fun e w'=>e=.returned (.bool (x != 0))/\w=w':=by
 go_enter Tryz.func119, Tryz.ntmps119
 go_wp2
 go_ret
 exact ⟨rfl,rfl⟩
def idxP (p:Int->Bool) (f:Nat->Int):Nat->Int
 | 0 => -1
 | k+1=>if 0<=idxP p f k then idxP p f k else if p (f k) then k else -1
theorem zfq {p:Int->Bool} {f:Nat->Int} {k:Nat} (h:idxP p f k = -1) (hp:p (f k)=false):idxP p f (k+1) = -1:=by simp [idxP,h,hp]
theorem zg3 {p:Int->Bool} {f:Nat->Int} {k n:Nat} (h:idxP p f k = -1) (hp:p (f k)=true) (hn:k<n):idxP p f n=k:=by
 induction n with
 | zero=>omega
 | succ n ih =>
  by_cases e:k=n
  ·subst e; simp [idxP,h,hp]
  ·have:=ih (by omega); simp [idxP,this]
theorem zhU (p:Int->Bool) (f:Nat->Int) (n:Nat):(idxP p f n = -1/\∀ i,i<n->p (f i)=false)∨(∃ i,i<n/\idxP p f n=i/\p (f i)=true):=by
 induction n with
 | zero=>exact .inl ⟨rfl,fun i hi=>absurd hi (by omega)⟩
 | succ n ih =>
  rcases ih with ⟨h1,h2⟩ | ⟨i,hi,h1,h2⟩
  ·cases hp:p (f n)
   ·refine .inl ⟨zfq h1 hp,fun i hi=>?_⟩
    by_cases e:i=n
    ·subst e; exact hp
    ·exact h2 i (by omega)
   ·exact .inr ⟨n,by omega,zg3 h1 hp (by omega),hp⟩
  ·exact .inr ⟨i,by omega,by simp [idxP,h1],h2⟩
theorem zdP (fid:Nat) (p:Int->Bool) (hcf:∀ (x:Value) (W:World),(callFunc fid #[x]).run Tryz.prog W=.ok (.enter fid #[x]) W) (hp:∀ (x:Int) (W:World),Calls Tryz.prog fid #[.int .i64 x] W fun e W'=>e=.returned (.bool (p x))/\W=W')
  (F:Option Addr) (n d:Nat) (f:Nat->Int) (w:World) (hf:IntsR w w.heap.size F n f) (hn:n<=1024) :
  Calls Tryz.prog 190 #[.slice F n d,.func (.func fid) #[] #[]] w fun e w'=>e=.returned (.int .i64 (idxP p f n))/\w=w':=by
 have HP:=hid hp
 clear hp
 go_enter Tryz.func190, Tryz.ntmps190
 go_wp2
 go_loopw [8] (fun i wr=>∃ k:Nat,k<=n/\i=.int .i64 k/\idxP p f k = -1/\w=wr) (fun i _=>n - (intOf i).toNat)
 case atStart=>exact ⟨0,by omega,rfl,rfl,rfl⟩
 case round =>
  obtain ⟨k,hk,rfl,hi,rfl⟩:=hrel
  have hi':=hid hi
  clear hi
  by_cases hlt:k<n
  ·obtain ⟨b,off,rfl,hb,e0⟩:=hf.at hlt
   cases hq:p (f k)
   ·have HQ:=hid hq
    clear hq
    go_wp2_with fail
    refine (HP.out _ _).mono ?_
    rintro e w1 ⟨rfl,rfl⟩
    rw [HQ.out]
    go_wp2
    go_roundw
    case rel=>exact ⟨k+1,by omega,by go_num,zfq hi'.out HQ.out,by first | trivial | rfl⟩
    case measure=>simp [intOf]; omega
   ·have HQ:=hid hq
    clear hq
    go_wp2_with fail
    refine (HP.out _ _).mono ?_
    rintro e w1 ⟨rfl,rfl⟩
    rw [HQ.out]
    go_wp2
    go_ret
    exact ⟨zah (zg3 hi'.out HQ.out hlt).symm,rfl⟩
  ·obtain rfl:k=n:=by omega
   go_wp2
   go_ret
   exact ⟨zah hi'.out.symm,rfl⟩
theorem zdQ (F:Option Addr) (n d:Nat) (f:Nat->Int) (w:World) (hf:IntsR w w.heap.size F n f) (hn:n<=1024) :
  Calls Tryz.prog 118 #[.slice F n d,.func (.func 119) #[] #[]] w fun e w'=>∃ b:Bool,e=.returned (.bool b)/\(b=true↔∃ i,i<n/\f i≠0)/\w=w':=by
 go_enter Tryz.func118, Tryz.ntmps118
 go_wp2_with fail
 refine (zdP 119 (fun x=>x != 0) (fun _ _=>by kernel_rfl) zes F n d f w hf hn).mono ?_
 rintro e w1 ⟨rfl,rfl⟩
 obtain ⟨z,hz⟩:∃ z,z=idxP (fun x=>x != 0) f n:=⟨_,rfl⟩
 have hs:=zhU (fun x=>x != 0) f n
 rw [<-hz] at hs ⊢
 have hd:decide (0<=z)=true↔∃ i,i<n/\f i≠0:=by
  rw [decide_eq_true_iff]
  rcases hs with ⟨h1,h2⟩ | ⟨i,hi,h1,h2⟩
  ·refine ⟨fun h=>by omega,fun ⟨i,hi,h⟩=>?_⟩
   have:=h2 i hi
   simp at this
   exact absurd this h
  ·exact ⟨fun _=>⟨i,hi,by simpa using h2⟩,fun _=>by omega⟩
 have HD:=hid hd
 clear hs hd hz
 go_wp2
 go_ret
 exact ⟨_,rfl,HD.out,rfl⟩
theorem zet (P M:Int) (A:Option Addr) (k c:Nat) (f:Nat->Int) (N:Int) (TC:Option Addr) (n d:Nat) (ln:Nat->Nat) (V:Nat->Nat->Int) (T:Trel) (TA TB:Option Addr) (ca cb:Nat) (w:World) (hr:IntsR w w.heap.size A k f) (h:IntRows w TC n ln V) (hkc:k<=c) (hT:T.Reads w TA TB) :
  Calls Tryz.prog 47 #[.agg #[.int .i64 P,.int .i64 M,.slice A k c,.int .i64 N,.slice TC n d],.agg #[.slice TA T.nw ca,.slice TB T.n cb]] w fun e w'=>∃ v:Int,e=.returned (.int .i64 v)/\TChk P M k f N n ln V T v/\Below w.heap.size w w':=by
 have HI:=hid hr
 have HT:=hid h
 have HR:=hid hT
 clear hr h hT
 have rf:=zam (w:=w) (a:=.int .i64 P) (b:=.int .i64 M) (c:=.slice A k c) (d:=.int .i64 N) (e:=.slice TC n d) (T := 27)
 have hB:Below w.heap.size w (w.alloc (.cells #[.int .i64 P,.int .i64 M,.slice A k c,.int .i64 N,.slice TC n d] 27)):=(Below.refl _ _).alloc (Nat.le_refl _) _
 obtain ⟨w1,hw1⟩:∃ W,W=w.alloc (.cells #[.int .i64 P,.int .i64 M,.slice A k c,.int .i64 N,.slice TC n d] 27):=⟨_,rfl⟩
 rw [<-hw1] at hB rf
 have rt:=zae (w:=w1) (a:=.slice TA T.nw ca) (b:=.slice TB T.n cb) (T := 74)
 have kb:Below w1.heap.size w1 (w1.alloc (.cells #[.slice TA T.nw ca,.slice TB T.n cb] 74)):=(Below.refl _ _).alloc (Nat.le_refl _) _
 obtain ⟨w2,hw2⟩:∃ W,W=w1.alloc (.cells #[.slice TA T.nw ca,.slice TB T.n cb] 74):=⟨_,rfl⟩
 rw [<-hw2] at kb rt;replace rf:=zaa rf kb;replace hB:=onS hB kb
 have hsz1:w1.heap.size=w.heap.size+1:=by rw [hw1]; simp
 rw [hsz1] at rt
 go_enter Tryz.func47, Tryz.ntmps47
 go_upto_region 1 with fail
 rw [<-hw1,<-hw2];clear hw1 hw2 kb hsz1
 obtain ⟨b0,hb0⟩:∃ b,b=w.heap.size:=⟨_,rfl⟩
 obtain ⟨b1,hb1⟩:∃ b,b=w.heap.size+1:=⟨_,rfl⟩
 rw [<-hb0] at rf;rw [<-hb1] at rt;rw [<-hb1,<-hb0];clear hb0 hb1
 have HBOX:Hid (∀ X,Below w2.heap.size w2 X->X.rowIs b0 27 5 (codCell (.int .i64 P) (.int .i64 M) (.slice A k c) (.int .i64 N) (.slice TC n d))/\X.rowIs b1 74 2 (matCell (.slice TA T.nw ca) (.slice TB T.n cb))):=hid fun X hx=>⟨zaa rf hx,zaa rt hx⟩
 have HB:=hid hB
 clear hB rt
 have q0:=qc0 rf
 have q1:=qc1 rf
 have q2:=qc2 rf
 have q3:=qc3 rf
 have q4:=qc4 rf
 clear rf
 go_wp2_with fail
 refine (zhI P M A k c f N TC n d ln V w2 (HI.out.on HB.out) (HT.out.on HB.out) hkc).mono ?_
 rintro e w3 ⟨kb,v,hv,hcase⟩
 have HV:=hid hv
 have KB:=hid kb
 clear kb hv q0 q1 q2 q3 q4
 rcases hcase with ⟨hv0,rfl⟩ | ⟨rfl,P',M',N',rfl,rfl,rfl,hD⟩
 ·have hvn:(v != 0)=true:=by simpa using hv0
  have HV0:=hid hv0
  clear hv0
  have hB2:=(onS HB.out KB.out).alloc (onS HB.out KB.out).size (.cells #[.int .i64 0,.int .i64 0,.slice none 0 0,.int .i64 0,.slice none 0 0] 27)
  have HB2:=hid hB2
  clear hB2
  go_wp2
  go_ret
  exact ⟨v,rfl,.inl ⟨HV0.out,HV.out⟩,HB2.out⟩
 obtain ⟨dv,lv,a,H,rfl,hdO,hM,_,hrel⟩:=hD
 obtain ⟨P2,M2,N2,hP2,hM2,hN2,hC⟩:=zbP HI.out HT.out HV.out
 obtain rfl:P'=P2:=by omega
 obtain rfl:M'=M2:=by omega
 obtain rfl:N'=N2:=by omega
 clear hP2 hM2 hN2
 have HC:=hid hC
 have hN:=hC.ln2
 have hN1:=hC.ln1
 have HL:=hid (fieldLaws hC.fld)
 have HFO:=hid hC.fld.1
 have hnN:=hC.n_le
 have hcnt:=hrel.count HL.out (fun x _=>⟨za7 (by have:=HFO.out.1; omega),zaR (by have:=HFO.out.1; omega)⟩) hC.rref
 have HREL:=hid hrel
 have HWL:=hid hrel.rref.choose_spec.lt
 obtain ⟨DA,dc,hdv⟩:=hdO.shape
 subst hdv
 obtain ⟨LA,lc,hlv⟩:=hM.shape
 subst hlv
 clear hC hrel hdO
 obtain ⟨b6,hb6⟩:∃ b,b=w3.heap.size:=⟨_,rfl⟩
 have rd:=zam (w:=w3) (a:=.int .i64 (P':Nat)) (b:=.int .i64 (M':Nat)) (c:=.slice DA k dc) (d:=.int .i64 (N':Nat)) (e:=.slice LA a lc) (T := 27)
 have kb:Below w3.heap.size w3 (w3.alloc (.cells #[.int .i64 (P':Nat),.int .i64 (M':Nat),.slice DA k dc,.int .i64 (N':Nat),.slice LA a lc] 27)):=(Below.refl _ _).alloc (Nat.le_refl _) _
 obtain ⟨w4,hw4⟩:∃ W,W=w3.alloc (.cells #[.int .i64 (P':Nat),.int .i64 (M':Nat),.slice DA k dc,.int .i64 (N':Nat),.slice LA a lc] 27):=⟨_,rfl⟩
 rw [<-hw4] at rd kb
 have r4:=(HBOX.out _ (onS KB.out kb)).2
 have p0:=qc0 r4
 have p1:=qc1 r4
 have hMR:MRows w4 LA a N' H:=MTab.rd (hM.on kb) HFO.out.2.2.2 HWL.out
 go_upto_region 4 with fail
 rw [<-hw4,<-hb6];rw [<-hb6] at rd;clear hw4 hb6
 have HM:=hid hMR
 replace KB:=hid (onS KB.out kb)
 have HRD:Hid (∀ X,Below w4.heap.size w4 X->X.rowIs b6 27 5 (codCell (.int .i64 (P':Nat)) (.int .i64 (M':Nat)) (.slice DA k dc) (.int .i64 (N':Nat)) (.slice LA a lc))):=hid fun X hx=>zaa rd hx
 clear kb hM hMR rd r4
 go_wp2_with fail
 refine (zcX T TA TB ca cb w4 (HR.out.on (onS HB.out KB.out))).mono ?_
 rintro e w5 ⟨rfl,kb⟩
 have K4:=hid kb
 clear kb p0 p1
 obtain ⟨u,hu⟩:∃ u,u=T.properE:=⟨_,rfl⟩
 rw [<-hu]
 by_cases hu0:u=0
 rotate_left
 ·have hub:(u != 0)=true:=by simpa using hu0
  have HU:Hid (T.properE≠0/\u=T.properE):=hid ⟨by rw [<-hu]; exact hu0,hu⟩
  clear hu hu0
  go_wp2
  go_ret
  exact ⟨u,rfl,.inr ⟨HV.out,.inl HU.out⟩,onS (onS HB.out KB.out) K4.out⟩
 subst hu0
 have HPE:Hid (T.properE=0):=hid hu.symm
 have HP:=hid (Trel.proper_of HPE.out)
 clear hu
 have r5:=HBOX.out _ (onS KB.out K4.out)
 have p1:=qc1 r5.2
 have q3:=qc3 r5.1
 by_cases hTN:T.n=N'
 rotate_left
 ·have hne:((T.n:Int) != (N':Int))=true:=by simp; omega
  have HTN:=hid hTN
  clear r5 hTN
  go_wp2
  go_ret
  exact ⟨13,rfl,.inr ⟨HV.out,.inr ⟨HPE.out,P',M',N',rfl,rfl,rfl,.inl ⟨HTN.out,rfl⟩⟩⟩,onS (onS HB.out KB.out) K4.out⟩
 have hne:((T.n:Int) != (N':Int))=false:=by simp; omega
 have hne:((T.n:Int) != (T.n:Int))=false:=by simp
 subst hTN
 go_upto_region 9 with fail
 have q0:=qc0 r5.1
 have q1:=qc1 r5.1
 have q2:=qc2 r5.1
 clear r5 hne p1
 go_wp2_with fail
 refine (zdJ (P':Int) (M':Int) A k c f w5 (HI.out.on (onS (onS HB.out KB.out) K4.out))).mono ?_
 rintro e w6 ⟨kb,hcase⟩
 rcases hcase with ⟨hbad,_⟩ | ⟨_,g,P2,M2,hP2,hM2,rfl,_,hG⟩
 ·refine absurd ?_ hbad
  rcases HV.out with ⟨_,h9⟩ | ⟨h1,_⟩
  ·cases h9
  ·exact h1
 obtain rfl:P'=P2:=by omega
 obtain rfl:M'=M2:=by omega
 have HG:=hid hG.gf
 replace K4:=hid (onS K4.out kb);clear kb q0 q1 q2 q3 hP2 hM2 hG
 have r6:=HRD.out _ K4.out
 have y2:=qc4 r6
 have s6:=HBOX.out _ (onS KB.out K4.out)
 have p0:=qc0 s6.2
 have p1:=qc1 s6.2
 clear r6 s6
 go_wp2_with fail
 refine (zep T TA TB LA ca cb lc a (P' ^ M') H w6 (hid rfl) HG.out (HR.out.on (onS (onS HB.out KB.out) K4.out)) HP.out (HM.out.on K4.out) HWL.out (by omega)).mono ?_
 rintro e w7 ⟨kb,hcase⟩
 replace K4:=hid (onS K4.out kb);replace HG:=hid (HG.out.on kb);clear kb y2 p0 p1
 rcases hcase with ⟨hok,go,gg,R,rfl,hcell,hLT⟩ | ⟨hno,rfl⟩
 rotate_left
 ·have HNO:=hid hno
  clear hno
  go_wp2
  go_ret
  exact ⟨13,rfl,.inr ⟨HV.out,.inr ⟨HPE.out,P',M',T.n,rfl,rfl,rfl,.inr ⟨rfl,a,H,HREL.out,.inr rfl,⟨fun h=>absurd h (by omega),fun h=>absurd h.1 HNO.out⟩⟩⟩⟩,onS (onS HB.out KB.out) K4.out⟩
 have HOK:=hid hok
 have hw1:(T.W T.n).toNat=1:=by rw [HP.out.wn]; rfl
 rw [hw1] at hcell hLT
 obtain ⟨SA,sc,hRS⟩:=(hLT.yes 0 (by omega) trivial).shape
 have hO:=hLT.yes 0 (by omega) trivial
 have hg0:=hLT.row.cell (i:=0) (by omega)
 rw [hRS] at hO hg0
 have HSA:=hid (show IntsR w7 w7.heap.size SA a (fun k=>((T.syn (addF P' M') (mulF P' M' fun i=>(f i).toNat) H T.n 0 k:Nat):Int)) from hO.rd rfl)
 have HNW:=hid HP.out.shape.nw
 have hnw2:(T.n:Int)<(T.nw:Int):=by have:=HNW.out; omega
 have hn0:(0:Int)<=(T.n:Int):=by omega
 have r7:=HBOX.out _ (onS KB.out K4.out)
 have q3:=qc3 r7.1
 clear hw1 hLT hRS hO hok r7
 go_wp2_with fail
 refine (zdQ SA a sc _ w7 HSA.out (by omega)).mono ?_
 rintro e w8 ⟨b,rfl,hb,rfl⟩
 have HBB:=hid hb
 clear hb hcell hg0 q3
 cases b with
 | true =>
  have HNO:Hid (¬ ∀ k,k<a->T.syn (addF P' M') (mulF P' M' fun i=>(f i).toNat) H T.n 0 k=0):=hid fun h=>by
   obtain ⟨i,hi,h1⟩:=HBB.out.1 rfl
   exact h1 (by rw [h i hi]; rfl)
  go_wp2
  go_ret
  exact ⟨13,rfl,.inr ⟨HV.out,.inr ⟨HPE.out,P',M',T.n,rfl,rfl,rfl,.inr ⟨rfl,a,H,HREL.out,.inr rfl,⟨fun h=>absurd h (by omega),fun h=>absurd h.2.1 HNO.out⟩⟩⟩⟩,onS (onS HB.out KB.out) K4.out⟩
 | false =>
  have HZ:Hid (∀ k,k<a->T.syn (addF P' M') (mulF P' M' fun i=>(f i).toNat) H T.n 0 k=0):=hid fun k hk=>by
   by_cases hz:T.syn (addF P' M') (mulF P' M' fun i=>(f i).toNat) H T.n 0 k=0
   ·exact hz
   ·exact nomatch HBB.out.2 ⟨k,hk,by show ((T.syn (addF P' M') (mulF P' M' fun i=>(f i).toNat) H T.n 0 k:Nat):Int)≠0; omega⟩
  have s6:=HBOX.out _ (onS KB.out K4.out)
  have p0:=qc0 s6.2
  have p1:=qc1 s6.2
  clear s6 HSA HBB hnw2 hn0
  go_wp2_with fail
  refine (zhS T TA TB ca cb w7 (HR.out.on (onS (onS HB.out KB.out) K4.out))).mono ?_
  rintro e w8 hpp
  rcases hpp with ⟨hbad,_⟩ | ⟨_,A4,c4,rfl,g1,g2,g3,kb⟩
  ·exact absurd HPE.out hbad
  have HN4:=hid g3
  have HG1:=hid g1
  have HG2:=hid g2
  replace K4:=hid (onS K4.out kb);replace HG:=hid (HG.out.on kb);clear kb g1 g2 g3 p0 p1
  have q4:w8.cell? ⟨b0,4,none⟩=some (.slice TC n d):=((HBOX.out _ (onS KB.out K4.out)).1).cell (i:=4) (by omega)
  have HD4:Hid (∃ Q,Q=P' ^ M'):=hid ⟨_,rfl⟩
  obtain ⟨Q,hQ⟩:=HD4.out
  have hq256:Q<=256:=by rw [hQ]; exact HFO.out.2.2.2
  have hq2:2<=Q:=by rw [hQ]; exact HL.out.two
  have hnT:n<=64:=by omega
  have hdq:dl Q<=1:=zhe (by omega)
  have hnl:nlen Q<=9:=ze5 (by omega)
  have hnl2:nlen Q<=1∨(nlen Q - 1)*n<131072:=.inr (Nat.lt_of_le_of_lt (Nat.mul_le_mul (by omega:nlen Q - 1<=8) hnT) (by decide))
  have hdp:dl (Q ^ n)<=64:=zhe (Nat.lt_of_le_of_lt (Nat.le_trans (Nat.pow_le_pow_left hq256 n) (Nat.pow_le_pow_right (by omega) hnT)) (by decide))
  have HORD:Hid (∀ W,GF W W.heap.size g P' M' (fun i=>(f i).toNat)->Calls Tryz.prog 98 #[.pointer (some ⟨g,0,none⟩)] W fun e w'=>e=.returned (.int .i64 (Q:Nat))/\Below W.heap.size W w'):=hid fun W hW=>by rw [hQ]; exact zhB hW
  have HQ:=hid hQ
  have HDQ:=hid hdq
  have HNL:=hid hnl2
  have HDP:=hid hdp
  clear hQ hdq hdp hnl hnl2 HD4
  go_upto_region 14 with fail
  go_cut [14] (fun v14 wx=>∃ (PA:Option Addr) (pc:Nat),v14=.slice PA (dl (Q ^ n)) pc/\dl (Q ^ n)<=pc/\pc<=maxLen/\NatOk wx wx.heap.size PA (Q ^ n)/\Below w8.heap.size w8 wx)
  case first =>
   have kb:Below w8.heap.size w8 w8.drew:=(Below.refl _ _).drew
   refine wp_region_held_drew (S:=fun w'=>w'.cell? ⟨b0,4,none⟩=some (.slice TC n d)) (by kernel_rfl) (cellS kb q4) (fun hHeld=>?_)
   obtain ⟨w10,hw⟩:∃ W,W=World.drew w8:=⟨_,rfl⟩
   rw [<-hw] at kb hHeld ⊢;clear hw;replace q4:=cellS kb q4
   have K8:=hid kb
   have HG8:=hid (HG.out.on kb)
   clear kb
   refine tkq 0 (h:=tkq 4 (h:=tkq 5 (h:=tkq 6 (h:=?_))))
   clear hHeld
   refine rdq 1 (h:=fun K hK=>?_)
   go_simp
   go_wp2_with fail
   refine (HORD.out w10 HG8.out).mono ?_
   rintro e w11 ⟨rfl,kb⟩
   replace q4:=cellS kb q4;replace K8:=hid (onS K8.out kb);clear kb
   refine bkq hK q4 (h:=fun hHeld=>?_)
   clear hK K
   refine tkq 2 (h:=?_)
   clear hHeld
   refine rdq 3 (h:=fun K hK=>?_)
   go_simp
   go_wp2_with fail
   rw [show IntKind.u64.wrap (Q:Int)=(Q:Int) from by rw [IntWalk.u64_in _ (by omega)]]
   refine (zcw Q w11 (by omega)).mono ?_
   rintro e w12 ⟨A2,c2,rfl,h1,h2,h3,kb⟩
   have HNO:=hid h3
   have HC2:=hid h1
   have HC3:=hid h2
   replace q4:=cellS kb q4;replace K8:=hid (onS K8.out kb);clear kb h1 h2 h3
   refine bkq hK q4 (h:=fun hHeld=>?_)
   clear hK K hHeld
   refine rdq 7 (h:=fun K hK=>?_)
   go_simp
   go_wp2_with fail
   refine (zgx A2 c2 Q n w12 HNO.out HC2.out HC3.out (by have:=HDQ.out; omega) (by omega) HNL.out (by have:=HDP.out; omega)).mono ?_
   rintro e w13 ⟨A3,c3,rfl,h1,h2,h3,kb⟩
   have HNP:=hid h3
   have HC6:=hid h1
   have HC7:=hid h2
   replace q4:=cellS kb q4;replace K8:=hid (onS K8.out kb);clear kb h1 h2 h3 HC2 HC3 HNO
   refine bkq hK q4 (h:=fun hHeld=>?_)
   clear hK K
   refine tkq 8 (h:=tkq 9 (h:=tkq 10 (h:=tkq 11 (h:=tkq 12 (h:=?_)))))
   refine wpAnyH_done (by kernel_rfl) ?_ _
   clear hHeld
   go_wp2
   go_meet
   exact ⟨A3,c3,rfl,HC6.out,HC7.out,HNP.out,K8.out⟩
  case rest =>
   obtain ⟨PA,pc,rfl,hp1,hp2,hNP,hB⟩:=hcut
   obtain ⟨w10,hw10⟩:∃ X,X=wc:=⟨_,rfl⟩
   subst hw10
   have HNP:=hid hNP
   have HP1:=hid hp1
   have HP2:=hid hp2
   have HN5:=hid (show NatOk w10 w10.heap.size A4 (T.fwd (fun _ _=>1) T.n 0) from HN4.out.on hB)
   replace K4:=hid (onS K4.out hB);clear q4 hNP hp1 hp2 hB
   go_wp2_with fail
   refine (zgA A4 PA c4 pc (T.fwd (fun _ _=>1) T.n 0) (Q ^ n) w10 HN5.out HNP.out HG1.out HG2.out HP1.out HP2.out (by have:=HDP.out; omega)).mono ?_
   rintro e w11 ⟨rfl,kb⟩
   replace K4:=hid (onS K4.out kb);clear kb
   obtain ⟨z,hz⟩:∃ z,z=cmpN (T.fwd (fun _ _=>1) T.n 0) (Q ^ n):=⟨_,rfl⟩
   rw [<-hz]
   have hzz:z=0↔IsTr (P' ^ M') a (addF P' M') (mulF P' M' fun i=>(f i).toNat) H T n:=by
    have h0:z=0↔T.fwd (fun _ _=>1) T.n 0=Q ^ n:=by
     rw [hz]
     unfold cmpN
     split
     ·exact ⟨fun h=>absurd h (by omega),fun h=>absurd h (by omega)⟩
     ·split
      ·exact ⟨fun h=>absurd h (by omega),fun h=>absurd h (by omega)⟩
      ·exact ⟨fun _=>by omega,fun _=>rfl⟩
    rw [h0,HQ.out]
    exact ⟨fun h=>⟨HOK.out,HZ.out,h⟩,fun h=>h.2.2⟩
   have HZZ:=hid hzz
   clear hz hzz
   by_cases hz0:z=0
   ·have hzb:(z != 0)=false:=by simp [hz0]
    have HT0:=hid (HZZ.out.1 hz0)
    clear hz0
    go_wp2
    go_ret
    exact ⟨0,rfl,.inr ⟨HV.out,.inr ⟨HPE.out,P',M',T.n,rfl,rfl,rfl,.inr ⟨rfl,a,H,HREL.out,.inl rfl,⟨fun _=>HT0.out,fun _=>rfl⟩⟩⟩⟩,onS (onS HB.out KB.out) K4.out⟩
   ·have hzb:(z != 0)=true:=by simpa using hz0
    have HT0:Hid (¬ IsTr (P' ^ M') a (addF P' M') (mulF P' M' fun i=>(f i).toNat) H T n):=hid fun h=>hz0 (HZZ.out.2 h)
    clear hz0
    go_wp2
    go_ret
    exact ⟨13,rfl,.inr ⟨HV.out,.inr ⟨HPE.out,P',M',T.n,rfl,rfl,rfl,.inr ⟨rfl,a,H,HREL.out,.inr rfl,⟨fun h=>absurd h (by omega),fun h=>absurd h HT0.out⟩⟩⟩⟩,onS (onS HB.out KB.out) K4.out⟩
section
variable {q n N ap:Nat} {add mul:Nat->Nat->Nat} {neg:Nat->Nat} {V Wp:Nat->Nat->Nat}
theorem zdR (hL:FieldLaws q add mul) (hneg:∀ x,x<q->neg x<q/\add x (neg x)=0) (hV:RrefN q n N V) (hp:NullRel q add mul neg n N V ap Wp) {x:Nat->Nat} (hx:∀ j,j<N->x j<q) :
  InSp q add mul n N V x↔∀ k,k<ap->dotN add mul x (Wp k) N=0:=by
 have hq2:=hL.two
 have hq:0<q:=by omega
 obtain ⟨iA,iM,iN,i0,i1,F,hva,hvm,h0,h1⟩:=zgl hL
 have O:OnEl q add mul:=⟨F,hva,hvm,h0,h1⟩
 obtain ⟨pv,hE⟩:=id hV
 obtain ⟨pp,hEp⟩:=hp.rref
 obtain ⟨L,hLd⟩:∃ L:List (El q),L=(List.range q).map (toEl q hq):=⟨_,rfl⟩
 have hn:L.Nodup:=by
  rw [hLd]
  exact zbc List.nodup_range fun a ha b hb e=>zdx hq (List.mem_range.1 ha) (List.mem_range.1 hb) e
 have hc:∀ a,a ∈ L:=fun a=>by
  rw [hLd]
  exact List.mem_map.2 ⟨a.val,List.mem_range.2 a.lt,El.ext' (zak hq a.lt)⟩
 have g2:=zaG hq F hL hva hvm h0 hE.lt hx
 have hlx:=za1 hq N x
 have hperpV:perpW N (Gen N ap fun i=>wordK q hq N (Wp i)) (wordK q hq N x)↔Gen N n (fun i=>wordK q hq N (V i)) (wordK q hq N x):=by
  rw [<-zhK F hn hc (Gen.linC fun i _=>za1 hq N (V i)) (wordK q hq N x)]
  constructor
  ·rintro ⟨h2,h3⟩
   exact ⟨h2,fun y hy=>h3 y ((NullRel.perp hq O hL hneg hE.lt hp y).1 hy)⟩
  ·rintro ⟨h2,h3⟩
   exact ⟨h2,fun y hy=>h3 y ((NullRel.perp hq O hL hneg hE.lt hp y).2 hy)⟩
 have hdot:∀ k,k<ap->(dotW (wordK q hq N x) (wordK q hq N (Wp k))=0↔dotN add mul x (Wp k) N=0):=fun k hk=>by
  have e1:=zgU hq O (x:=x) (y:=Wp k) N fun j hj=>⟨hx j hj,hEp.lt k hk j hj⟩
  have e2:dotW (wordK q hq N x) (wordK q hq N (Wp k))=sumK N (fun j=>toEl q hq (x j)*toEl q hq (Wp k j)):=by
   rw [zcK F (za1 hq N _) (za1 hq N _)]
   exact zaX fun j hj=>by rw [zcf hq,zcf hq,za2 hj,za2 hj]
  rw [e2]
  constructor
  ·intro h
   rw [h,h0] at e1
   exact e1.symm
  ·intro h
   exact El.ext' (by rw [e1,h,h0])
 rw [g2,<-hperpV]
 constructor
 ·rintro ⟨h2,h3⟩ k hk
  exact (hdot k hk).1 (h3 _ (Gen.row (k:=N) (n:=ap) (r:=fun i=>wordK q hq N (Wp i)) k hk))
 ·intro h
  exact ⟨hlx,fun y hy=>Gen.perp F (fun i _=>za1 hq N _) (fun i hi=>(hdot i hi).2 (h i hi)) y hy⟩
end
def Trel.outs (T:Trel) (i:Nat) (v:Int) (m:Nat):List Nat:=(List.range m).filter fun j=>T.fr i j == v
def Trel.dn (T:Trel):Nat->Int->List (List Int)
 | 0,_=>[[]]
 | r+1,v=>(T.outs (T.n - (r+1)) v (T.el (T.n - (r+1)))).flatMap fun j=>(T.dn r (T.to (T.n - (r+1)) j)).map fun q=>T.lb (T.n - (r+1)) j :: q
def Trel.ext (T:Trel) (i m:Nat) (x:List Int × Int):List (List Int × Int):=(T.outs i x.2 m).map fun j=>(x.1 ++ [T.lb i j],T.to i j)
def Trel.lev (T:Trel):Nat->List (List Int × Int)
 | 0=>[([],0)]
 | i+1=>(T.lev i).flatMap (T.ext i (T.el i))
theorem Trel.outs_succ (T:Trel) (i:Nat) (v:Int) (m:Nat):T.outs i v (m+1)=T.outs i v m ++ if T.fr i m=v then [m] else []:=by
 unfold Trel.outs
 rw [List.range_succ,List.filter_append]
 by_cases h:T.fr i m=v
 ·simp [h]
 ·simp [h]
theorem Trel.outs_mem {T:Trel} {i m j:Nat} {v:Int}:j ∈ T.outs i v m↔j<m/\T.fr i j=v:=by
 simp [Trel.outs]
theorem Trel.ext_succ (T:Trel) (i m:Nat) (x:List Int × Int):T.ext i (m+1) x=T.ext i m x ++ if T.fr i m=x.2 then [(x.1 ++ [T.lb i m],T.to i m)] else []:=by
 unfold Trel.ext
 rw [Trel.outs_succ,List.map_append]
 congr 1
 split <;> simp
theorem Trel.lev_dn (T:Trel):∀ i,i<=T.n->(T.lev i).flatMap (fun x=>(T.dn (T.n - i) x.2).map fun q=>x.1 ++ q)=T.dn T.n 0:=by
 intro i
 induction i with
 | zero=>intro _; simp [Trel.lev]
 | succ i ih =>
  intro hi
  rw [<-ih (by omega)]
  show ((T.lev i).flatMap (T.ext i (T.el i))).flatMap _=_
  rw [List.flatMap_assoc]
  congr 1
  funext x
  have e:T.n - i=(T.n - (i+1))+1:=by omega
  rw [e]
  show _=(List.flatMap _ (T.outs _ _ _)).map _
  have e2:T.n - (T.n - (i+1)+1)=i:=by omega
  rw [e2,List.map_flatMap]
  unfold Trel.ext
  rw [List.flatMap_map]
  congr 1
  funext j
  simp [List.map_map,Function.comp_def]
theorem Trel.lev_words (T:Trel):(T.lev T.n).map (·.1)=T.dn T.n 0:=by
 rw [<-Trel.lev_dn T T.n (Nat.le_refl _)]
 have:∀ l:List (List Int × Int),l.map (·.1)=l.flatMap (fun x=>(T.dn (T.n - T.n) x.2).map fun q=>x.1 ++ q):=by
  intro l
  induction l with
  | nil=>rfl
  | cons a l ih=>rw [List.map_cons,List.flatMap_cons,ih,Nat.sub_self]; simp [Trel.dn]
 exact this _
theorem Trel.lev_in {T:Trel} (h:T.Proper):∀ i,i<=T.n->∀ x,x ∈ T.lev i->x.1.length=i/\0<=x.2/\x.2<T.W i:=by
 intro i
 induction i with
 | zero =>
  intro _ x hx
  simp [Trel.lev] at hx
  subst hx
  exact ⟨rfl,Int.le_refl _,by have:=h.w0; show (0:Int)<_; omega⟩
 | succ i ih =>
  intro hi x hx
  simp only [Trel.lev,List.mem_flatMap] at hx
  obtain ⟨y,hy,hx⟩:=hx
  unfold Trel.ext at hx
  rw [List.mem_map] at hx
  obtain ⟨j,hj,rfl⟩:=hx
  have h1:=ih (by omega) y hy
  have h2:=h.shape.ins i (by omega) j (Trel.outs_mem.1 hj).1
  unfold Trel.inside at h2
  refine ⟨by simp [h1.1],?_,?_⟩ <;> simp only <;> omega
theorem Trel.outs_pos {T:Trel} (h:T.Proper) {i:Nat} (hi:i<T.n) {v:Int} (h0:0<=v) (h1:v<T.W i):∃ j,j ∈ T.outs i v (T.el i):=by
 have h2:=(h.sec i hi).2.1 v.toNat (by omega)
 obtain ⟨j,hj,e⟩:=zdM.1 h2
 exact ⟨j,Trel.outs_mem.2 ⟨hj,by omega⟩⟩
def endsAt (l:List (List Int × Int)) (v:Nat):Nat:=l.countP fun x=>x.2.toNat == v
theorem zcn (T:Trel) (i u:Nat) (prev:Nat->Nat) (l:List (List Int × Int)) (hl:∀ x,x ∈ l->0<=x.2) (hp:∀ v,prev v=endsAt l v):∀ m,(∀ j,j<m->0<=T.fr i j)->endsAt (l.flatMap (T.ext i m)) u=T.fwdE (fun _ _=>1) prev i m u:=by
 intro m
 induction m with
 | zero =>
  intro _
  have:l.flatMap (T.ext i 0)=[]:=by
   rw [List.flatMap_eq_nil_iff]
   intro x _
   simp [Trel.ext,Trel.outs]
  rw [this]
  rfl
 | succ m ih =>
  intro hm
  show _=T.fwdE (fun _ _=>1) prev i m u+if (T.to i m).toNat=u then prev (T.fr i m).toNat*1 else 0
  rw [<-ih fun j hj=>hm j (by omega),hp]
  have h0:=hm m (by omega)
  clear hp ih hm
  unfold endsAt
  induction l with
  | nil=>simp
  | cons a l ih =>
   have ih:=ih fun x hx=>hl x (by simp [hx])
   have ha:=hl a (by simp)
   simp only [List.flatMap_cons,List.countP_append,ih,Trel.ext_succ,List.countP_cons]
   by_cases e:T.fr i m=a.2
   ·by_cases e2:(T.to i m).toNat=u
    ·simp [e,e2]; omega
    ·simp [e,e2]
   ·have e3:¬ a.2.toNat=(T.fr i m).toNat:=by omega
    by_cases e2:(T.to i m).toNat=u
    ·simp [e,e2,e3]; omega
    ·simp [e,e2]
theorem Trel.ends_fwd {T:Trel} (h:T.Proper):∀ i,i<=T.n->∀ v,T.fwd (fun _ _=>1) i v=endsAt (T.lev i) v:=by
 intro i
 induction i with
 | zero =>
  intro _ v
  show (if v=0 then 1 else 0)=_
  unfold endsAt Trel.lev
  by_cases e:v=0
  ·subst e; rfl
  ·have:¬ 0=v:=fun h=>e h.symm
   simp [e,this]
 | succ i ih =>
  intro hi v
  show T.fwdE _ _ i (T.el i) v=_
  exact (zcn T i v _ _ (fun x hx=>(Trel.lev_in h i (by omega) x hx).2.1) (ih (by omega)) _ fun j hj=>by
   have:=h.shape.ins i (by omega) j hj
   unfold Trel.inside at this
   omega).symm
theorem Trel.words_len {T:Trel} (h:T.Proper):(T.dn T.n 0).length=T.fwd (fun _ _=>1) T.n 0:=by
 rw [Trel.ends_fwd h T.n (Nat.le_refl _),<-Trel.lev_words,List.length_map]
 unfold endsAt
 refine (List.countP_eq_length.2 fun x hx=>?_).symm
 have h1:=Trel.lev_in h T.n (Nat.le_refl _) x hx
 have:=h.wn
 rw [beq_iff_eq]
 omega
theorem Trel.ordP {T:Trel} {i:Nat} (h:T.secOk i):∀ q j,j<q->q<T.el i->T.fr i j<T.fr i q∨T.fr i j=T.fr i q/\T.lb i j<T.lb i q:=by
 intro q
 induction q with
 | zero=>intro j hj; omega
 | succ q ih =>
  intro j hj hq
  have h1:=(h.1 (q+1) hq).2.2 (by omega)
  unfold Trel.after at h1
  rw [Nat.add_sub_cancel] at h1
  by_cases e:j=q
  ·rw [e]; exact h1
  ·have h2:=ih j (by omega) (by omega)
   omega
theorem Trel.edge_uniq {T:Trel} {i:Nat} (h:T.secOk i) {j q:Nat} (hj:j<T.el i) (hq:q<T.el i) (e1:T.fr i j=T.fr i q) (e2:T.lb i j=T.lb i q):j=q:=by
 rcases Nat.lt_trichotomy j q with g | g | g
 ·have:=Trel.ordP h q j g hq; omega
 ·exact g
 ·have:=Trel.ordP h j q g hj; omega
section
variable {add mul:Nat->Nat->Nat} {H:Nat->Nat->Nat} {T:Trel} {q a:Nat}
theorem Trel.syn_edge {i:Nat}:∀ m,(∀ e,e<m->T.agree add mul H q a i e)->∀ e,e<m->∀ k,k<a->T.synL add mul H (T.syn add mul H i) i m (T.to i e).toNat k=T.synv add mul H (T.syn add mul H i) i e k
 | 0,_,_,he,_,_=>absurd he (by omega)
 | m + 1, hok, e, he, k, hk => by
  have ih:=Trel.syn_edge m fun e he=>hok e (by omega)
  show (if (T.to i m).toNat=(T.to i e).toNat then T.synv add mul H (T.syn add mul H i) i m k else T.synL add mul H (T.syn add mul H i) i m (T.to i e).toNat k)=_
  by_cases em:e=m
  ·rw [em,if_pos rfl]
  ·by_cases e1:(T.to i m).toNat=(T.to i e).toNat
   ·rw [if_pos e1]
    have:=(hok m (by omega)).2 ⟨e,by omega,e1.symm⟩ k hk
    rw [<-this,e1]
    exact ih e (by omega) k hk
   ·rw [if_neg e1]
    exact ih e (by omega) k hk
def symW (x:List Int) (t:Nat):Nat:=(x.getD t 0).toNat
theorem zfU {x:List Int} {v:Int} {t:Nat} (h:t<x.length):symW (x ++ [v]) t=symW x t:=by
 unfold symW
 rw [List.getD_eq_getElem?_getD,List.getD_eq_getElem?_getD,List.getElem?_append_left h]
theorem zfV {x:List Int} {v:Int} {t:Nat} (h:t=x.length):symW (x ++ [v]) t=v.toNat:=by
 subst h
 unfold symW
 simp
theorem zdf {x x' y:Nat->Nat}:∀ n,(∀ i,i<n->x i=x' i)->dotN add mul x y n=dotN add mul x' y n
 | 0,_=>rfl
 | n+1,h=>by
  show add (dotN add mul x y n) (mul (x n) (y n))=add (dotN add mul x' y n) (mul (x' n) (y n))
  rw [zdf n fun i hi=>h i (by omega),h n (by omega)]
theorem Trel.lev_syn (hp:T.Proper) (hok:T.SynOk add mul H q a):∀ i,i<=T.n->∀ x,x ∈ T.lev i->(∀ v,v ∈ x.1->0<=v/\v<(q:Int))/\∀ k,k<a->T.syn add mul H i x.2.toNat k=dotN add mul (symW x.1) (H k) i:=by
 intro i
 induction i with
 | zero =>
  intro _ x hx
  simp [Trel.lev] at hx
  subst hx
  exact ⟨fun v hv=>by simp at hv,fun _ _=>rfl⟩
 | succ i ih =>
  intro hi x hx
  simp only [Trel.lev,List.mem_flatMap] at hx
  obtain ⟨y,hy,hx⟩:=hx
  unfold Trel.ext at hx
  rw [List.mem_map] at hx
  obtain ⟨j,hj,rfl⟩:=hx
  obtain ⟨hj,hf⟩:=Trel.outs_mem.1 hj
  have h1:=ih (by omega) y hy
  have h2:=Trel.lev_in hp i (by omega) y hy
  refine ⟨fun v hv=>?_,fun k hk=>?_⟩
  ·rcases List.mem_append.1 hv with g | g
   ·exact h1.1 v g
   ·rw [List.mem_singleton.1 g]
    exact (hok i (by omega) j hj).1
  ·show T.synL add mul H (T.syn add mul H i) i (T.el i) (T.to i j).toNat k=add (dotN add mul (symW (y.1 ++ [T.lb i j])) (H k) i) (mul (symW (y.1 ++ [T.lb i j]) i) (H k i))
   rw [Trel.syn_edge (T.el i) (fun e he=>hok i (by omega) e he) j hj k hk,zfV h2.1.symm,zdf (x':=symW y.1) i fun t ht=>zfU (by rw [h2.1]; exact ht),<-h1.2 k hk,<-hf]
   rfl
theorem Trel.lev_uniq (hp:T.Proper):∀ i,i<=T.n->(T.lev i).Nodup/\∀ x,x ∈ T.lev i->∀ y,y ∈ T.lev i->x.1=y.1->x=y:=by
 intro i
 induction i with
 | zero =>
  intro _
  refine ⟨by simp [Trel.lev],fun x hx y hy _=>?_⟩
  simp [Trel.lev] at hx hy
  rw [hx,hy]
 | succ i ih =>
  intro hi
  obtain ⟨h1,h2⟩:=ih (by omega)
  have hs:=hp.sec i (by omega)
  have key:∀ x,x ∈ T.lev i->∀ y,y ∈ T.lev i->∀ j,j ∈ T.outs i x.2 (T.el i)->∀ l,l ∈ T.outs i y.2 (T.el i)->x.1 ++ [T.lb i j]=y.1 ++ [T.lb i l]->x=y/\j=l:=fun x hx y hy j hj l hl e=>by
   obtain ⟨e1,e2⟩:=List.append_inj e (by rw [(Trel.lev_in hp i (by omega) x hx).1,(Trel.lev_in hp i (by omega) y hy).1])
   have exy:=h2 x hx y hy e1
   subst exy
   obtain ⟨j1,j2⟩:=Trel.outs_mem.1 hj
   obtain ⟨l1,l2⟩:=Trel.outs_mem.1 hl
   exact ⟨rfl,Trel.edge_uniq hs j1 l1 (j2.trans l2.symm) (by injection e2)⟩
  refine ⟨?_,fun x hx y hy e=>?_⟩
  ·show ((T.lev i).flatMap (T.ext i (T.el i))).Nodup
   rw [List.Nodup,List.pairwise_flatMap]
   refine ⟨fun x hx=>?_,?_⟩
   ·have hn:(T.outs i x.2 (T.el i)).Nodup:=List.Pairwise.filter _ List.nodup_range
    exact zbc hn fun j hj l hl e=>(key x hx x hx j hj l hl (congrArg Prod.fst e)).2
   ·refine List.Pairwise.imp_of_mem ?_ h1
    intro x y hx hy hne u hu v hv e
    unfold Trel.ext at hu hv
    obtain ⟨j,hj,rfl⟩:=List.mem_map.1 hu
    obtain ⟨l,hl,rfl⟩:=List.mem_map.1 hv
    exact hne (key x hx y hy j hj l hl (congrArg Prod.fst e)).1
  ·simp only [Trel.lev,List.mem_flatMap] at hx hy
   obtain ⟨x1,hx1,hx⟩:=hx
   obtain ⟨y1,hy1,hy⟩:=hy
   unfold Trel.ext at hx hy
   obtain ⟨j,hj,rfl⟩:=List.mem_map.1 hx
   obtain ⟨l,hl,rfl⟩:=List.mem_map.1 hy
   obtain ⟨g1,g2⟩:=key x1 hx1 y1 hy1 j hj l hl e
   rw [g1,g2]
theorem Trel.lev_path:∀ i x,x ∈ T.lev i->(x.1.length=i)->∃ (e:Nat->Nat) (nd:Nat->Int),nd 0=0/\nd i=x.2/\∀ t,t<i->e t<T.el t/\T.fr t (e t)=nd t/\T.to t (e t)=nd (t+1)/\T.lb t (e t)=x.1.getD t 0:=by
 intro i
 induction i with
 | zero =>
  intro x hx _
  simp [Trel.lev] at hx
  subst hx
  exact ⟨fun _=>0,fun _=>0,rfl,rfl,fun t ht=>absurd ht (by omega)⟩
 | succ i ih =>
  intro x hx hlen
  simp only [Trel.lev,List.mem_flatMap] at hx
  obtain ⟨y,hy,hx⟩:=hx
  unfold Trel.ext at hx
  rw [List.mem_map] at hx
  obtain ⟨j,hj,rfl⟩:=hx
  obtain ⟨hj,hf⟩:=Trel.outs_mem.1 hj
  have hl:y.1.length=i:=by simpa using hlen
  obtain ⟨e,nd,h0,hi,h⟩:=ih y hy hl
  refine ⟨fun t=>if t=i then j else e t,fun t=>if t=i+1 then T.to i j else nd t,?_,if_pos rfl,fun t ht=>?_⟩
  ·show (if 0=i+1 then _ else nd 0)=0
   rw [if_neg (by omega),h0]
  ·by_cases et:t=i
   ·subst et
    show (if t=t then j else e t)<T.el t/\T.fr t (if t=t then j else e t)=(if t=t+1 then _ else nd t)/\T.to t (if t=t then j else e t)=(if t+1=t+1 then T.to t j else _)/\T.lb t (if t=t then j else e t)=_
    rw [if_pos rfl,if_neg (by omega),if_pos rfl]
    refine ⟨hj,by rw [hf,hi],rfl,?_⟩
    rw [<-hl]
    simp
   ·have h3:=h t (by omega)
    show (if t=i then j else e t)<T.el t/\T.fr t (if t=i then j else e t)=(if t=i+1 then _ else nd t)/\T.to t (if t=i then j else e t)=(if t+1=i+1 then T.to i j else nd (t+1))/\T.lb t (if t=i then j else e t)=_
    rw [if_neg et,if_neg (by omega),if_neg (by omega)]
    refine ⟨h3.1,h3.2.1,h3.2.2.1,?_⟩
    rw [h3.2.2.2,List.getD_eq_getElem?_getD,List.getD_eq_getElem?_getD,List.getElem?_append_left (by omega)]
end
section
variable {add mul:Nat->Nat->Nat} {neg:Nat->Nat} {H V:Nat->Nat->Nat} {T:Trel} {q a n:Nat}
theorem zfr {N:Nat} {u:Nat->Nat} (hu:InSp q add mul n N V u) {l:List Int} (hl:l.length=N) (hlu:∀ j,j<N->l.getD j 0=(u j:Int)) :
  l ∈ (List.range (q ^ n)).map fun i=>(List.range N).map fun j=>((spE add mul V (msgD q n i) n j:Nat):Int):=by
 obtain ⟨c,hc,hx⟩:=hu
 obtain ⟨i,hi,hd⟩:=zjr hc
 refine List.mem_map.2 ⟨i,List.mem_range.2 hi,?_⟩
 refine List.ext_getElem (by simp [hl]) fun j h1 h2=>?_
 have hj:j<N:=by omega
 have h3:=hlu j hj
 rw [List.getD_eq_getElem?_getD,List.getElem?_eq_getElem h2,Option.getD_some] at h3;rw [h3,hx j hj]
 simp only [List.getElem_map,List.getElem_range]
 congr 1
 exact zb3 n fun s hs=>⟨hd s hs,rfl⟩
theorem Trel.all_words (hL:FieldLaws q add mul) (hneg:∀ x,x<q->neg x<q/\add x (neg x)=0) (hV:RrefN q n T.n V) (hrel:NullRel q add mul neg n T.n V a H) (hp:T.Proper) (hok:T.SynOk add mul H q a) (hz:∀ k,k<a->T.syn add mul H T.n 0 k=0) (hc:T.fwd (fun _ _=>1) T.n 0=q ^ n)
  {u:Nat->Nat} (hu:InSp q add mul n T.n V u):∃ (e:Nat->Nat) (nd:Nat->Int),nd 0=0/\nd T.n=0/\∀ t,t<T.n->e t<T.el t/\T.fr t (e t)=nd t/\T.to t (e t)=nd (t+1)/\T.lb t (e t)=(u t:Int):=by
 classical
 obtain ⟨C,hC⟩:∃ C,C=(List.range (q ^ n)).map fun i=>(List.range T.n).map fun j=>((spE add mul V (msgD q n i) n j:Nat):Int):=⟨_,rfl⟩
 have hClen:C.length=q ^ n:=by rw [hC]; simp
 obtain ⟨hn1,hn2⟩:=Trel.lev_uniq hp T.n (Nat.le_refl _)
 have hW:((T.lev T.n).map (·.1)).Nodup:=zbc hn1 fun x hx y hy e=>hn2 x hx y hy e
 have hWlen:((T.lev T.n).map (·.1)).length=q ^ n:=by rw [Trel.lev_words,Trel.words_len hp,hc]
 have hsub:∀ x,x ∈ (T.lev T.n).map (·.1)->x ∈ C:=fun x hx=>by
  obtain ⟨y,hy,rfl⟩:=List.mem_map.1 hx
  obtain ⟨g1,g2,g3⟩:=Trel.lev_in hp T.n (Nat.le_refl _) y hy
  obtain ⟨g4,g5⟩:=Trel.lev_syn hp hok T.n (Nat.le_refl _) y hy
  have hy0:y.2.toNat=0:=by have:=hp.wn; omega
  have hsym:∀ j,j<T.n->0<=y.1.getD j 0/\y.1.getD j 0<(q:Int):=fun j hj=>by
   rw [List.getD_eq_getElem?_getD,List.getElem?_eq_getElem (by omega),Option.getD_some]
   exact g4 _ (List.getElem_mem _)
  have hlt:∀ j,j<T.n->symW y.1 j<q:=fun j hj=>by
   have:=hsym j hj
   unfold symW
   omega
  have hin:=(zdR hL hneg hV hrel hlt).2 fun k hk=>by rw [<-g5 k hk,hy0]; exact hz k hk
  rw [hC]
  exact zfr hin g1 fun j hj=>by
   have:=hsym j hj
   unfold symW
   omega
 obtain ⟨l,hl⟩:∃ l:List Int,l=(List.range T.n).map fun j=>(u j:Int):=⟨_,rfl⟩
 have hll:l.length=T.n:=by rw [hl]; simp
 have hlu:∀ j,j<T.n->l.getD j 0=(u j:Int):=fun j hj=>by rw [hl]; simp [hj]
 have hlC:l ∈ C:=by rw [hC]; exact zfr hu hll hlu
 have hlW:l ∈ (T.lev T.n).map (·.1):=by
  by_cases h:l ∈ (T.lev T.n).map (·.1)
  ·exact h
  ·have:=ziO (l:=l :: (T.lev T.n).map (·.1)) (m:=C) (List.nodup_cons.2 ⟨h,hW⟩) fun x hx=>by
    rcases List.mem_cons.1 hx with g | g
    ·rw [g]; exact hlC
    ·exact hsub x g
   rw [List.length_cons,hWlen,hClen] at this
   omega
 obtain ⟨y,hy,hyl⟩:=List.mem_map.1 hlW
 obtain ⟨g1,g2,g3⟩:=Trel.lev_in hp T.n (Nat.le_refl _) y hy
 obtain ⟨e,nd,h0,h1,h2⟩:=Trel.lev_path T.n y hy g1
 refine ⟨e,nd,h0,by rw [h1]; have:=hp.wn; omega,fun t ht=>?_⟩
 obtain ⟨k1,k2,k3,k4⟩:=h2 t ht
 refine ⟨k1,k2,k3,?_⟩
 rw [k4]
 have hyl:y.1=l:=hyl
 rw [hyl]
 exact hlu t ht
end
structure Trel.ZP (T:Trel) (e nd:Nat->Nat):Prop where
 n0:nd 0=0
 ok:∀ t,t<T.n->e t<T.el t/\T.fr t (e t)=(nd t:Int)/\T.to t (e t)=(nd (t+1):Int)/\T.lb t (e t)=0
theorem Trel.ZP.iff {T:Trel} {e nd:Nat->Nat} (h:T.ZP e nd) (hp:T.Proper) {i j:Nat} (hi:i<T.n) (hj:j<T.el i):(T.fr i j=(nd i:Int)/\T.lb i j=0)↔j=e i:=by
 obtain ⟨h1,h2,_,h4⟩:=h.ok i hi
 constructor
 ·rintro ⟨g1,g2⟩
  exact Trel.edge_uniq (hp.sec i hi) hj h1 (by rw [g1,h2]) (by rw [g2,h4])
 ·rintro rfl
  exact ⟨h2,h4⟩
theorem zeu (T:Trel) (e nd:Nat->Nat) (A B:Option Addr) (c d:Nat) (w:World) (hT:T.Reads w A B) (hp:T.Proper) (hz:T.ZP e nd) :
  Calls Tryz.prog 131 #[.agg #[.slice A T.nw c,.slice B T.n d]] w (RowPost T.nw (fun i=>.int .i64 (nd i:Nat)) w):=by
 have HR:=hid hT
 have HP:=hid hp
 have HZ:=hid hz
 have HSH:=hid hp.shape
 have hn64:=hp.shape.n64
 have HNW1:=hid hp.shape.nw
 have hnw65:T.nw<=65:=by have:=HNW1.out; omega
 clear hT hp hz
 have hmk:=fun W=>zaf (P:=Tryz.prog) 22 3 _ 8 Tryz.underlying22 Tryz.infoInt rfl (T.nw:Int) (by omega) (by omega) (by omega) W
 simp only [Int.toNat_natCast] at hmk
 have rb:=zae (w:=w) (a:=.slice A T.nw c) (b:=.slice B T.n d) (T := 74)
 have hB:Below w.heap.size w (w.alloc (.cells #[.slice A T.nw c,.slice B T.n d] 74)):=(Below.refl _ _).alloc (Nat.le_refl _) _
 obtain ⟨w1,hw1⟩:∃ W,W=w.alloc (.cells #[.slice A T.nw c,.slice B T.n d] 74):=⟨_,rfl⟩
 rw [<-hw1] at hB rb
 go_enter Tryz.func131, Tryz.ntmps131
 go_upto_region 1 with fail
 rw [<-hw1];clear hw1
 obtain ⟨b1,hb1⟩:∃ b,b=w.heap.size:=⟨_,rfl⟩
 rw [<-hb1] at rb;rw [<-hb1];clear hb1
 have p0:=qc0 rb
 go_upto_region 2 with fail
 have rz:World.rowIs (World.alloc w1 (Obj.cells (madeCells #[Value.int .i64 0] T.nw) 3)) w1.heap.size 3 T.nw (fun _=>.int .i64 ((0:Nat):Int)):=World.rowIs_made _ (.int .i64 0) T.nw 3
 have kb:Below w1.heap.size w1 (World.alloc w1 (Obj.cells (madeCells #[Value.int .i64 0] T.nw) 3)):=(Below.refl _ _).alloc (Nat.le_refl _) _
 obtain ⟨w2,hw2⟩:∃ W,W=World.alloc w1 (Obj.cells (madeCells #[Value.int .i64 0] T.nw) 3):=⟨_,rfl⟩
 rw [<-hw2] at rz kb ⊢
 obtain ⟨go,hgo⟩:∃ g,g=w1.heap.size:=⟨_,rfl⟩
 have hgoB:w.heap.size<=go:=by rw [hgo]; exact hB.size
 rw [<-hgo] at rz ⊢;replace rb:=zaa rb kb;replace hB:=onS hB kb;clear kb hw2 hgo hmk p0
 have p1:=qc1 rb
 have HB:=hid hB
 clear hB rb
 go_upto_region 3 with fail
 clear p1
 go_loopg [15] T.n (fun gg iv wx=>∃ i:Nat,iv=.int .i64 (i:Nat)/\i<=T.n/\T.n<=i+gg/\wx.rowIs go 3 T.nw (fun t=>.int .i64 ((if t<=i then nd t else 0:Nat):Int))/\Below w.heap.size w wx)
 case atStart =>
  refine ⟨0,rfl,by omega,by omega,rz.congr fun t _=>?_,HB.out⟩
  by_cases e:t<=0
  ·have e0:t=0:=by omega
   rw [if_pos e,e0,HZ.out.n0]
  ·rw [if_neg e]
 case round =>
  clear rz
  obtain ⟨i,rfl,hi,hig,hrow,hBx⟩:=hrel
  have hi0:(0:Int)<=(i:Int):=by omega
  have HROW:=hid hrow
  have HBX:=hid hBx
  obtain ⟨w3,hw3⟩:∃ X,X=wr:=⟨_,rfl⟩
  subst hw3
  clear hrow hBx
  by_cases hin:i<T.n
  ·have hin':(i:Int)<(T.n:Int):=by omega
   obtain ⟨eb,eo,E,ec,hBe,heb,e0w,hec,hec2,hEd,hI64⟩:=HR.out.sec hin
   have HED:=hid hEd
   have e0:=cellS HBX.out e0w
   subst hBe
   obtain ⟨el,hel⟩:∃ x,x=T.el i:=⟨_,rfl⟩
   have hel2:el<=262144:=by rw [hel]; exact HSH.out.elb hin
   rw [<-hel] at e0 HED
   have HEL:=hid hel
   clear hel hEd hI64 hec hec2 e0w
   obtain ⟨gO,hgO⟩:∃ x,x=gk:=⟨_,rfl⟩
   subst hgO
   go_upto_region 6 with fail
   clear e0
   go_loopg [22] el (fun gg jv wx=>∃ j:Nat,jv=.int .i64 (j:Nat)/\j<=el/\el<=j+gg/\wx.rowIs go 3 T.nw (fun t=>.int .i64 ((if t<=i∨t=i+1/\e i<j then nd t else 0:Nat):Int))/\Below w.heap.size w wx)
   case atStart =>
    refine ⟨0,rfl,by omega,by omega,HROW.out.congr fun t _=>?_,HBX.out⟩
    by_cases e1:t<=i
    ·rw [if_pos e1,if_pos (.inl e1)]
    ·rw [if_neg e1,if_neg (fun h=>h.elim e1 fun h=>absurd h.2 (by omega))]
   case round =>
    obtain ⟨j,rfl,hj,hjg,hrow,hBx⟩:=hrel
    have hj0:(0:Int)<=(j:Int):=by omega
    clear HROW HBX
    have HROW:=hid hrow
    have HBX:=hid hBx
    obtain ⟨w4,hw4⟩:∃ X,X=wr:=⟨_,rfl⟩
    subst hw4
    clear hrow hBx
    by_cases hjl:j<el
    ·have hjl':(j:Int)<(el:Int):=by omega
     obtain ⟨xb,xo,hEe,hxb,x0,x1,x2⟩:=zaS HED.out hjl
     subst hEe
     replace x0:=cellS HBX.out x0;replace x1:=cellS HBX.out x1;replace x2:=cellS HBX.out x2
     obtain ⟨fv,hfv⟩:∃ x:Int,x=T.fr i j:=⟨_,rfl⟩
     obtain ⟨lv,hlv⟩:∃ x:Int,x=T.lb i j:=⟨_,rfl⟩
     obtain ⟨tv,htv⟩:∃ x:Int,x=T.to i j:=⟨_,rfl⟩
     rw [<-hfv] at x0;rw [<-hlv] at x1;rw [<-htv] at x2
     have hiff:=HZ.out.iff HP.out hin (j:=j) (by rw [<-HEL.out]; exact hjl)
     rw [<-hfv,<-hlv] at hiff
     have HIFF:=hid hiff
     have HTV:=hid htv
     clear hfv hlv htv hiff
     go_upto_region 8 with fail
     have rx:=zad (w:=w4) (a:=.int .i64 fv) (b:=.int .i64 lv) (c:=.int .i64 tv) (T := 148)
     have kb:Below w4.heap.size w4 (w4.alloc (.cells #[.int .i64 fv,.int .i64 lv,.int .i64 tv] 148)):=(Below.refl _ _).alloc (Nat.le_refl _) _
     obtain ⟨w5,hw5⟩:∃ W,W=w4.alloc (.cells #[.int .i64 fv,.int .i64 lv,.int .i64 tv] 148):=⟨_,rfl⟩
     rw [<-hw5] at rx kb ⊢;clear hw5
     obtain ⟨b7,hb7⟩:∃ b,b=w4.heap.size:=⟨_,rfl⟩
     have hgo7:go≠b7:=by have:=HROW.out.lt; omega
     rw [<-hb7] at rx ⊢;clear hb7 x0 x1 x2;replace HROW:=hid (zaa HROW.out kb);replace HBX:=hid (onS HBX.out kb);clear kb
     have y0:=qc0 rx
     have y1:=qc1 rx
     have hinw:(i:Int)<(T.nw:Int):=by have:=HNW1.out; omega
     have z0:w5.cell? ⟨go,i,none⟩=some (.int .i64 (nd i:Nat)):=by
      have:=HROW.out.cell (i:=i) (by have:=HNW1.out; omega)
      rw [if_pos (.inl (Nat.le_refl _))] at this
      exact this
     go_wp2_with fail
     refine wp_region_held_drew (S:=fun w'=>w'.cell? ⟨b7,0,none⟩=some (.int .i64 fv)/\w'.cell? ⟨b7,1,none⟩=some (.int .i64 lv)/\w'.cell? ⟨go,i,none⟩=some (.int .i64 (nd i:Nat))) (by kernel_rfl) ⟨cellS (Below.refl _ _).drew y0,cellS (Below.refl _ _).drew y1,cellS (Below.refl _ _).drew z0⟩ (fun hHeld=>?_)
     obtain ⟨w6,hw⟩:∃ W,W=World.drew w5:=⟨_,rfl⟩
     have kb:Below w5.heap.size w5 w6:=by rw [hw]; exact (Below.refl _ _).drew
     rw [<-hw] at hHeld ⊢;clear hw y0 y1 z0;replace HROW:=hid (zaa HROW.out kb);replace HBX:=hid (onS HBX.out kb)
     have HRX:=hid (zaa rx kb)
     clear kb rx
     by_cases hfe:fv=(nd i:Int)
     rotate_left
     ·have hbe:(fv == (nd i:Int))=false:=by simpa using hfe
      have hne:Hid (¬ j=e i):=hid fun h=>hfe (HIFF.out.2 h).1
      have HROW2:Hid (w6.rowIs go 3 T.nw (fun t=>.int .i64 ((if t<=i∨t=i+1/\e i<j+1 then nd t else 0:Nat):Int))):=hid (HROW.out.congr fun t _=>by
       have h1:=hne.out
       have:(t<=i∨t=i+1/\e i<j)↔(t<=i∨t=i+1/\e i<j+1):=by omega
       simp only [this])
      refine tkq 0 (h:=tkq 1 (h:=tkq 2 (h:=tkq 3 (h:=tkq 4 (h:=tkq 5 (h:=tkq 6 (h:=tkq 7 (h:=tkn 8 (h:=tkn 9 (h:=tkn 10 (h:=tkq 11 (h:=?_))))))))))))
      refine wpAnyH_done (by kernel_rfl) ?_ _
      clear hHeld
      go_wp2
      go_roundg (gk - 1)
      case measure=>omega
      case rel=>exact ⟨j+1,by go_num,by omega,by omega,HROW2.out,HBX.out⟩
     have hbe:(fv == (nd i:Int))=true:=by simpa using hfe
     by_cases hle:lv=0
     rotate_left
     ·have hbl:(lv == 0)=false:=by simpa using hle
      have hne:Hid (¬ j=e i):=hid fun h=>hle (HIFF.out.2 h).2
      have HROW2:Hid (w6.rowIs go 3 T.nw (fun t=>.int .i64 ((if t<=i∨t=i+1/\e i<j+1 then nd t else 0:Nat):Int))):=hid (HROW.out.congr fun t _=>by
       have h1:=hne.out
       have:(t<=i∨t=i+1/\e i<j)↔(t<=i∨t=i+1/\e i<j+1):=by omega
       simp only [this])
      refine tkq 0 (h:=tkq 1 (h:=tkq 2 (h:=tkq 3 (h:=tkq 4 (h:=tkq 5 (h:=tkq 6 (h:=tkq 7 (h:=tkq 8 (h:=tkq 9 (h:=tkq 10 (h:=tkq 11 (h:=?_))))))))))))
      refine wpAnyH_done (by kernel_rfl) ?_ _
      clear hHeld
      go_wp2
      go_roundg (gk - 1)
      case measure=>omega
      case rel=>exact ⟨j+1,by go_num,by omega,by omega,HROW2.out,HBX.out⟩
     ·have hbl:(lv == 0)=true:=by simpa using hle
      have hje:=HIFF.out.1 ⟨hfe,hle⟩
      have HJE:=hid hje
      have htt:tv=(nd (i+1):Int):=by rw [HTV.out,hje]; exact (HZ.out.ok i hin).2.2.1
      have HTT:=hid htt
      clear hje htt hfe hle
      refine tkq 0 (h:=tkq 1 (h:=tkq 2 (h:=tkq 3 (h:=tkq 4 (h:=tkq 5 (h:=tkq 6 (h:=tkq 7 (h:=tkq 8 (h:=tkq 9 (h:=tkq 10 (h:=tkq 11 (h:=?_))))))))))))
      refine wpAnyH_done (by kernel_rfl) ?_ _
      clear hHeld
      have hi1w:IntKind.i64.wrap ((i:Int)+1)=((i+1:Nat):Int):=by rw [IntWalk.i64_in _ (by omega)]; rfl
      have y2:=qc2 HRX.out
      have hinw2:(i:Int)+1<(T.nw:Int):=by have:=HNW1.out; omega
      have hinw3:((i+1:Nat):Int)<(T.nw:Int):=by have:=HNW1.out; omega
      have hi10:(0:Int)<=((i+1:Nat):Int):=by omega
      have hi11:(0:Int)<=(i:Int)+1:=by omega
      have u0:=HROW.out.cell (i:=i+1) (by have:=HNW1.out; omega)
      have u1:=HROW.out.frozen (i+1)
      have hrow2:=HROW.out.set (i+1) (.int .i64 tv)
      have hB2:=HBX.out.setCell (p:=⟨go,i+1,none⟩) hgoB (.int .i64 tv)
      obtain ⟨w7,hw7⟩:∃ W,W=w6.setCell ⟨go,i+1,none⟩ (.int .i64 tv):=⟨_,rfl⟩
      rw [<-hw7] at hrow2 hB2
      have HROW2:Hid (w7.rowIs go 3 T.nw (fun t=>.int .i64 ((if t<=i∨t=i+1/\e i<j+1 then nd t else 0:Nat):Int))):=hid (hrow2.congr fun t _=>by
       by_cases et:t=i+1
       ·rw [if_pos et,if_pos (.inr ⟨et,by have:=HJE.out; omega⟩),et,HTT.out]
       ·have h1:(t<=i∨t=i+1/\e i<j)↔(t<=i∨t=i+1/\e i<j+1):=by omega
        rw [if_neg et]
        simp only [h1])
      have HB2:=hid hB2
      clear hrow2 hB2
      have HW7:=hid hw7
      clear hw7
      go_wp2
      rw [<-HW7.out]
      go_roundg (gk - 1)
      case measure=>omega
      case rel=>exact ⟨j+1,by go_num,by omega,by omega,HROW2.out,HB2.out⟩
    ·have hjl':¬ (j:Int)<(el:Int):=by omega
     obtain rfl:el=j:=by omega
     have HROW2:Hid (w4.rowIs go 3 T.nw (fun t=>.int .i64 ((if t<=i+1 then nd t else 0:Nat):Int))):=hid (HROW.out.congr fun t _=>by
      have he:e i<el:=by rw [HEL.out]; exact (HZ.out.ok i hin).1
      by_cases e1:t<=i+1
      ·rw [if_pos e1,if_pos (by by_cases e2:t<=i; exact .inl e2; exact .inr ⟨by omega,he⟩)]
      ·rw [if_neg e1,if_neg (fun h=>h.elim (fun h=>by omega) fun h=>by omega)])
     go_wp2
     go_roundg (gO - 1)
     case measure=>omega
     case rel=>exact ⟨i+1,by go_num,by omega,by omega,HROW2.out,HBX.out⟩
  ·have hin':¬ (i:Int)<(T.n:Int):=by omega
   obtain rfl:i=T.n:=by omega
   have HROW2:Hid (w3.rowIs go 3 T.nw (fun t=>.int .i64 (nd t:Nat))):=hid (HROW.out.congr fun t ht=>by rw [if_pos (by have:=HNW1.out; omega)])
   go_wp2
   go_ret
   exact ⟨go,rfl,hgoB,HROW2.out,HBX.out⟩
theorem zg4 (T:Trel) (e nd:Nat->Nat) (A B:Option Addr) (c d:Nat) (w:World) (hT:T.Reads w A B) (hp:T.Proper) (hz:T.ZP e nd) :
  Calls Tryz.prog 137 #[.agg #[.slice A T.nw c,.slice B T.n d]] w (fun r w'=>∃ v,r=.returned v/\Own w' w.heap.size 3 1 v T.nw (fun t _=>.int .i64 (nd t:Nat))/\Below w.heap.size w w'):=by
 have HR:=hid hT
 have HP:=hid hp
 have HZ:=hid hz
 have HSH:=hid hp.shape
 have hn64:=hp.shape.n64
 have HNW1:=hid hp.shape.nw
 clear hT hp hz
 have rb:=zae (w:=w) (a:=.slice A T.nw c) (b:=.slice B T.n d) (T := 74)
 have hB:Below w.heap.size w (w.alloc (.cells #[.slice A T.nw c,.slice B T.n d] 74)):=(Below.refl _ _).alloc (Nat.le_refl _) _
 obtain ⟨w1,hw1⟩:∃ W,W=w.alloc (.cells #[.slice A T.nw c,.slice B T.n d] 74):=⟨_,rfl⟩
 rw [<-hw1] at hB rb
 go_enter Tryz.func137, Tryz.ntmps137
 go_upto_region 1 with fail
 rw [<-hw1];clear hw1
 obtain ⟨b1,hb1⟩:∃ b,b=w.heap.size:=⟨_,rfl⟩
 rw [<-hb1] at rb;rw [<-hb1];clear hb1
 go_upto_region 2 with fail
 have rz:(w1.alloc (.cells #[.int .i64 0] 3)).rowIs w1.heap.size 3 1 (fun _=>.int .i64 ((0:Nat):Int)):=⟨_,zaw rfl,rfl,fun i hi=>by
  obtain rfl:i=0:=by omega
  rfl⟩
 have kb:Below w1.heap.size w1 (w1.alloc (.cells #[.int .i64 0] 3)):=(Below.refl _ _).alloc (Nat.le_refl _) _
 obtain ⟨w2,hw2⟩:∃ W,W=w1.alloc (.cells #[.int .i64 0] 3):=⟨_,rfl⟩
 rw [<-hw2] at rz kb ⊢
 have HO2:Hid (Own w2 w.heap.size 3 1 (.slice (some ⟨w1.heap.size,0,none⟩) 1 1) (0+1) (fun t _=>.int .i64 (nd t:Nat))):=hid ((zau rz hB.size (by unfold maxLen; omega)).congr fun t ht _ _=>by
  have e0:t=0:=by omega
  rw [e0,HZ.out.n0])
 obtain ⟨v0,hv0⟩:∃ v:Value,v=.slice (some ⟨w1.heap.size,0,none⟩) 1 1:=⟨_,rfl⟩
 rw [<-hv0] at HO2 ⊢
 have HB:=hid (onS hB kb)
 have HBOX:Hid (∀ X,Below w2.heap.size w2 X->X.rowIs b1 74 2 (matCell (.slice A T.nw c) (.slice B T.n d))):=hid fun X hx=>zaa (zaa rb kb) hx
 clear rz kb hw2 hv0 hB rb
 go_upto_region 3 with fail
 go_loopg [3,4] T.n (fun gg ov iv wx=>∃ i:Nat,iv=.int .i64 (i:Nat)/\i<=T.n/\T.n<=i+gg/\Hid (Own wx w.heap.size 3 1 ov (i+1) (fun t _=>.int .i64 (nd t:Nat)))/\wx.rowIs b1 74 2 (matCell (.slice A T.nw c) (.slice B T.n d))/\Below w.heap.size w wx)
 case atStart=>exact ⟨0,rfl,by omega,by omega,HO2,HBOX.out _ (Below.refl _ _),HB.out⟩
 case round =>
  clear HO2
  obtain ⟨i,rfl,hi,hig,HO,hbox,hBx⟩:=hrel
  have hi0:(0:Int)<=(i:Int):=by omega
  have HBX:=hid hBx
  have HBO:=hid hbox
  obtain ⟨w3,hw3⟩:∃ X,X=wr:=⟨_,rfl⟩
  subst hw3
  clear hBx hbox
  have p1:=qc1 HBO.out
  by_cases hin:i<T.n
  ·have hin':(i:Int)<(T.n:Int):=by omega
   obtain ⟨eb,eo,E,ec,hBe,heb,e0w,hec,hec2,hEd,hI64⟩:=HR.out.sec hin
   have HED:=hid hEd
   have HE0:=hid e0w
   subst hBe
   obtain ⟨el,hel⟩:∃ x,x=T.el i:=⟨_,rfl⟩
   have hel2:el<=262144:=by rw [hel]; exact HSH.out.elb hin
   have hei:e i<el:=by rw [hel]; exact (HZ.out.ok i hin).1
   rw [<-hel] at HE0 HED
   have HEL:=hid hel
   clear hel hEd hI64 hec hec2 e0w
   obtain ⟨oA,oc,hov⟩:=HO.out.shape
   subst hov
   obtain ⟨gO,hgO⟩:∃ x,x=gk:=⟨_,rfl⟩
   subst hgO
   go_upto_region 6 with fail
   clear p1
   go_loopg [3,5] el (fun gg ov jv wx=>∃ j:Nat,jv=.int .i64 (j:Nat)/\ov=.slice oA (i+1) oc/\j<=e i/\el<=j+gg/\Below w3.heap.size w3 wx)
   case atStart=>exact ⟨0,rfl,rfl,by omega,by omega,Below.refl _ _⟩
   case round =>
    obtain ⟨j,rfl,rfl,hj,hjg,hBx⟩:=hrel
    have hj0:(0:Int)<=(j:Int):=by omega
    have HB4:=hid hBx
    obtain ⟨w4,hw4⟩:∃ X,X=wr:=⟨_,rfl⟩
    subst hw4
    clear hBx
    have hjl:j<el:=by omega
    have hjl':(j:Int)<(el:Int):=by omega
    obtain ⟨xb,xo,hEe,hxb,x0,x1,x2⟩:=zaS HED.out hjl
    subst hEe
    have hB4:=onS HBX.out HB4.out
    replace x0:=cellS hB4 x0;replace x1:=cellS hB4 x1;replace x2:=cellS hB4 x2
    have e0:=cellS hB4 HE0.out
    have p1:w4.cell? ⟨b1,1,none⟩=some (.slice (some ⟨eb,eo,none⟩) T.n d):=(zaa HBO.out HB4.out).cell (i:=1) (by omega)
    obtain ⟨fv,hfv⟩:∃ x:Int,x=T.fr i j:=⟨_,rfl⟩
    obtain ⟨lv,hlv⟩:∃ x:Int,x=T.lb i j:=⟨_,rfl⟩
    obtain ⟨tv,htv⟩:∃ x:Int,x=T.to i j:=⟨_,rfl⟩
    rw [<-hfv] at x0;rw [<-hlv] at x1;rw [<-htv] at x2
    have hiff:=HZ.out.iff HP.out hin (j:=j) (by rw [<-HEL.out]; exact hjl)
    rw [<-hfv,<-hlv] at hiff
    have HIFF:=hid hiff
    have HTV:=hid htv
    clear hfv hlv htv hiff hB4
    go_upto_region 9 with fail
    have rx:=zad (w:=w4) (a:=.int .i64 fv) (b:=.int .i64 lv) (c:=.int .i64 tv) (T := 148)
    have kb:Below w4.heap.size w4 (w4.alloc (.cells #[.int .i64 fv,.int .i64 lv,.int .i64 tv] 148)):=(Below.refl _ _).alloc (Nat.le_refl _) _
    obtain ⟨w5,hw5⟩:∃ W,W=w4.alloc (.cells #[.int .i64 fv,.int .i64 lv,.int .i64 tv] 148):=⟨_,rfl⟩
    rw [<-hw5] at rx kb ⊢;clear hw5
    obtain ⟨b7,hb7⟩:∃ b,b=w4.heap.size:=⟨_,rfl⟩
    rw [<-hb7] at rx ⊢;clear hb7 x0 x1 x2 e0 p1;replace HB4:=hid (onS HB4.out kb);clear kb
    have y0:=qc0 rx
    have y1:=qc1 rx
    have hinw:(i:Int)<((i+1:Nat):Int):=by omega
    have hinw2:(i:Int)<(i:Int)+1:=by omega
    obtain ⟨ob,oo,oc2,hoe,_,_,_,_,hcc⟩:=(HO.out.on HB4.out).form (by omega)
    obtain ⟨ho1,ho2⟩:oA=some ⟨ob,oo,none⟩/\oc=oc2:=by injection hoe with x _ y; exact ⟨x,y⟩
    subst ho1 ho2
    have z0:w5.cell? ⟨ob,oo+i,none⟩=some (.int .i64 (nd i:Nat)):=by
     have:=hcc i (by omega) 0 (by omega)
     rwa [Nat.mul_one,Nat.add_zero] at this
    clear hoe hcc
    refine wp_region_held_drew (S:=fun w'=>w'.cell? ⟨b7,0,none⟩=some (.int .i64 fv)/\w'.cell? ⟨b7,1,none⟩=some (.int .i64 lv)/\w'.cell? ⟨ob,oo+i,none⟩=some (.int .i64 (nd i:Nat))) (by kernel_rfl) ⟨cellS (Below.refl _ _).drew y0,cellS (Below.refl _ _).drew y1,cellS (Below.refl _ _).drew z0⟩ (fun hHeld=>?_)
    obtain ⟨w6,hw⟩:∃ W,W=World.drew w5:=⟨_,rfl⟩
    have kb:Below w5.heap.size w5 w6:=by rw [hw]; exact (Below.refl _ _).drew
    rw [<-hw] at hHeld ⊢;clear hw y0 y1 z0;replace HB4:=hid (onS HB4.out kb)
    have HRX:=hid (zaa rx kb)
    clear kb rx
    by_cases hfe:fv=(nd i:Int)
    rotate_left
    ·have hbe:(fv == (nd i:Int))=false:=by simpa using hfe
     have hne:¬ j=e i:=fun h=>hfe (HIFF.out.2 h).1
     refine tkq 0 (h:=tkq 1 (h:=tkq 2 (h:=tkq 3 (h:=tkq 4 (h:=tkq 5 (h:=tkq 6 (h:=tkq 7 (h:=tkn 8 (h:=tkn 9 (h:=tkn 10 (h:=tkq 11 (h:=?_))))))))))))
     refine wpAnyH_done (by kernel_rfl) ?_ _
     clear hHeld
     go_wp2
     go_roundg (gk - 1)
     case measure=>omega
     case rel=>exact ⟨j+1,by go_num,rfl,by omega,by omega,HB4.out⟩
    have hbe:(fv == (nd i:Int))=true:=by simpa using hfe
    by_cases hle:lv=0
    rotate_left
    ·have hbl:(lv == 0)=false:=by simpa using hle
     have hne:¬ j=e i:=fun h=>hle (HIFF.out.2 h).2
     refine tkq 0 (h:=tkq 1 (h:=tkq 2 (h:=tkq 3 (h:=tkq 4 (h:=tkq 5 (h:=tkq 6 (h:=tkq 7 (h:=tkq 8 (h:=tkq 9 (h:=tkq 10 (h:=tkq 11 (h:=?_))))))))))))
     refine wpAnyH_done (by kernel_rfl) ?_ _
     clear hHeld
     go_wp2
     go_roundg (gk - 1)
     case measure=>omega
     case rel=>exact ⟨j+1,by go_num,rfl,by omega,by omega,HB4.out⟩
    ·have hbl:(lv == 0)=true:=by simpa using hle
     have hje:=HIFF.out.1 ⟨hfe,hle⟩
     have htt:tv=(nd (i+1):Int):=by rw [HTV.out,hje]; exact (HZ.out.ok i hin).2.2.1
     have HTT:=hid htt
     clear hje htt hfe hle
     refine tkq 0 (h:=tkq 1 (h:=tkq 2 (h:=tkq 3 (h:=tkq 4 (h:=tkq 5 (h:=tkq 6 (h:=tkq 7 (h:=tkq 8 (h:=tkq 9 (h:=tkq 10 (h:=tkq 11 (h:=?_))))))))))))
     refine wpAnyH_done (by kernel_rfl) ?_ _
     clear hHeld
     have y2:=qc2 HRX.out
     have kb2:=(Below.refl w6.heap.size w6).alloc (Nat.le_refl _) (Obj.cells #[Value.int .i64 tv] 3)
     have HO8:=hid (HO.out.on (onS HB4.out kb2))
     have HB8:=hid (onS HBX.out (onS HB4.out kb2))
     have HB9:=hid (zaa HBO.out (onS HB4.out kb2))
     have HC8:Hid ((w6.alloc (Obj.cells #[Value.int .i64 tv] 3)).cell? ((⟨w6.heap.size,0,none⟩:Addr).add 0)=some (.int .i64 (nd (i+1):Nat))):=by rw [<-HTT.out]; exact tbox2
     have HZ8:=hid HB8.out.size
     have HIL:Hid (i+1<=1048576):=by show _<=_; omega
     clear kb2
     go_wp2_with (first | (at_builtin; (refine zaA rfl (.tmp 45) (.tmp 48) rfl HO8.out rfl (ad:=⟨w6.heap.size,0,none⟩) (c:=1) rfl HC8.out HZ8.out HIL.out ?_); intro v9 w9 o1 o2 o3))
     have HM9:=hid (o1.congr (f':=fun t _=>.int .i64 (nd t:Nat)) fun u hu q _=>by
      by_cases e:u=i+1
      ·subst e; rw [if_pos rfl]
      ·rw [if_neg e])
     have HBB:=hid (HB8.out.grown o2 HZ8.out (fun q e=>(HO8.out.lt q e).1))
     have HBW:=hid (HB9.out.of_block (o2.block _ HB9.out.lt fun e=>absurd (zar HB9.out HO8.out (by decide)) (by rw [<-e]; simp)))
     clear o1 o2 o3
     go_wp2
     go_roundg (gO - 1)
     case measure=>omega
     case rel=>exact ⟨i+1,by go_num,by omega,by omega,HM9,HBW.out,HBB.out⟩
  ·have hin':¬ (i:Int)<(T.n:Int):=by omega
   obtain rfl:i=T.n:=by omega
   have HOF:Hid (Own w3 w.heap.size 3 1 u3 T.nw (fun t _=>.int .i64 (nd t:Nat))):=hid (by rw [HNW1.out]; exact HO.out)
   go_wp2
   go_ret
   exact ⟨_,rfl,HOF.out,HBX.out⟩
end Go.Proofs.YtioagplajkoohaaGreat