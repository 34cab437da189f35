/- Merged texts of a claim: Cmp11, SameN, RefIs, Check47, Cont47, TChk, ChkLaw. -/
import Derived.Test.YtioagplajkoohaaGreatTK6
import Derived.Test.YtioagplajkoohaaGreatTK8
import Derived.Test.YtioagplajkoohaaGreatTK9
import Derived.Test.YtioagplajkoohaaGreatTK10
import Derived.Test.YtioagplajkoohaaGreatTK11
import Derived.Test.YtioagplajkoohaaGreatTK12
import Derived.Laws.StructEq
namespace Go.Proofs.YtioagplajkoohaaGreat
set_option maxRecDepth 100000
set_option maxHeartbeats 32000000
open KA KB KC KD KE KF
open Go.RowKit
def EqRow (n m:Nat) (f g:Nat->Int):Prop:=n=m/\∀ i,i<n->f i=g i
theorem zdS (A B:Option Addr) (n m c d:Nat) (f g:Nat->Int) (w:World) (ha:IntsR w w.heap.size A n f) (hb:IntsR w w.heap.size B m g) (hn:n<=140737488351232) (hm:m<=140737488351232) :
  Calls Tryz.prog 114 #[.slice A n c,.slice B m d] w fun e w'=>∃ r:Int,e=.returned (.int .i64 r)/\(r=0↔EqRow n m f g)/\Below w.heap.size w w':=by
 have HA:=hid ha
 have HB:=hid hb
 clear ha hb
 go_enter Tryz.func114, Tryz.ntmps114
 go_wp2
 go_loopg [5] n (fun gg iv wx=>∃ k:Nat,iv=.int .i64 (k:Nat)/\k<=n/\k<=m/\n<=k+gg/\(∀ i,i<k->f i=g i)/\Below w.heap.size w wx)
 case atStart=>exact ⟨0,rfl,by omega,by omega,by omega,fun i hi=>absurd hi (by omega),Below.refl _ _⟩
 case round =>
  obtain ⟨k,rfl,hk,hkm,hkg,heq,hW⟩:=hrel
  have hk0:(0:Int)<=(k:Int):=by omega
  have HEQ:=hid heq
  clear heq
  by_cases hlt:k<n
  ·have hlt':(k:Int)<(n:Int):=by omega
   by_cases hlm:k<m
   ·have hlm':(k:Int)<(m:Int):=by omega
    have hd:decide ((k:Int)<(n:Int))=true:=by simp; omega
    have hd2:decide ((k:Int)<(m:Int))=true:=by simp; omega
    obtain ⟨ab,ao,rfl,hab,x0⟩:=(HA.out.on hW).at hlt
    obtain ⟨bb,bo,rfl,hbb,y0⟩:=(HB.out.on hW).at hlm
    obtain ⟨x,hx⟩:∃ x,x=f k:=⟨_,rfl⟩
    obtain ⟨y,hy⟩:∃ y,y=g k:=⟨_,rfl⟩
    rw [<-hx] at x0;rw [<-hy] at y0
    have HX:=hid hx
    have HY:=hid hy
    clear hx hy
    by_cases h1:x<y
    ·go_wp2
     go_quiet (fail)
     go_wp2
     go_ret
     exact ⟨-1,rfl,⟨fun h=>absurd h (by omega),fun h=>absurd (h.2 k hlt) (by rw [<-HX.out,<-HY.out]; omega)⟩,zac hW _⟩
    ·by_cases h2:y<x
     ·have h2':x > y:=h2
      go_wp2
      go_quiet (fail)
      go_wp2
      go_quiet (fail)
      go_wp2
      go_ret
      exact ⟨1,rfl,⟨fun h=>absurd h (by omega),fun h=>absurd (h.2 k hlt) (by rw [<-HX.out,<-HY.out]; omega)⟩,zac (zac hW _) _⟩
     ·have h2':¬ x > y:=h2
      go_wp2
      go_quiet (fail)
      go_wp2
      go_quiet (fail)
      go_wp2
      go_roundg (gk - 1)
      case measure=>omega
      case rel =>
       refine ⟨k+1,by go_num,by omega,by omega,by omega,fun i hi=>?_,zac hW _⟩
       by_cases e:i=k
       ·subst e; rw [<-HX.out,<-HY.out]; omega
       ·exact HEQ.out i (by omega)
   ·have hlm':¬ (k:Int)<(m:Int):=by omega
    have hd:decide ((k:Int)<(n:Int))=true:=by simp; omega
    have hd2:decide ((k:Int)<(m:Int))=false:=by simp; omega
    have h3:¬ (n:Int)<(m:Int):=by omega
    have h4:(n:Int) > (m:Int):=by omega
    go_wp2
    go_ret
    exact ⟨1,rfl,⟨fun h=>absurd h (by omega),fun h=>absurd h.1 (by omega)⟩,hW⟩
  ·have hlt':¬ (k:Int)<(n:Int):=by omega
   have hd:decide ((k:Int)<(n:Int))=false:=by simp; omega
   by_cases h3:(n:Int)<(m:Int)
   ·go_wp2
    go_ret
    exact ⟨-1,rfl,⟨fun h=>absurd h (by omega),fun h=>absurd h.1 (by omega)⟩,hW⟩
   ·have h4:¬ (n:Int) > (m:Int):=by omega
    go_wp2
    go_ret
    exact ⟨0,rfl,⟨fun _=>⟨by omega,fun i hi=>HEQ.out i (by omega)⟩,fun _=>rfl⟩,hW⟩
theorem zeo (A A2:Option Addr) (c c2 x y:Nat) (w:World) (h:NatOk w w.heap.size A x) (h2:NatOk w w.heap.size A2 y) (hn:dl x<=maxLen) :
  Calls Tryz.prog 92 #[.slice A (dl x) c,.slice A2 (dl y) c2] w fun e w'=>∃ b:Bool,e=.returned (.bool b)/\(b=true↔x=y)/\Below w.heap.size w w':=by
 by_cases hxy:dl x=dl y
 rotate_left
 ·have hno:Hid (x≠y):=hid fun e=>hxy (by rw [e])
  obtain ⟨n,hn'⟩:∃ n,n=dl x:=⟨_,rfl⟩
  obtain ⟨m,hm'⟩:∃ m,m=dl y:=⟨_,rfl⟩
  rw [<-hn',<-hm'] at hxy ⊢
  have hb:((n:Int) != (m:Int))=true:=by simp; omega
  clear hn' hm' hn hxy
  go_enter Tryz.func92, Tryz.ntmps92
  go_wp2
  go_ret
  exact ⟨false,rfl,⟨fun h=>(nomatch h),fun h=>absurd h hno.out⟩,Below.refl _ _⟩
 obtain ⟨n,hn'⟩:∃ n,n=dl x:=⟨_,rfl⟩
 have hm':n=dl y:=hn'.trans hxy
 have HN:=hid hn'
 have HM:=hid hm'
 have HALL:Hid ((∀ i,i<n->dg x i=dg y i)->x=y):=hid fun hh=>by
  rw [<-zdq x,<-zdq y,<-hn',<-hm']
  exact zcS hh
 rw [<-hn'] at hn ⊢;rw [<-hm'];clear hn' hm' hxy
 unfold maxLen at hn
 have H:=hid h
 have H2:=hid h2
 clear h h2
 go_enter Tryz.func92, Tryz.ntmps92
 go_wp2
 go_loopg [5] n (fun gg iv wx=>∃ k:Nat,iv=.int .i64 (k:Nat)/\k<=n/\n<=k+gg/\Hid (∀ i,i<k->dg x i=dg y i)/\Below w.heap.size w wx)
 case atStart=>exact ⟨0,rfl,by omega,by omega,hid fun i h=>absurd h (by omega),Below.refl _ _⟩
 case round =>
  obtain ⟨k,rfl,hk,hkg,HE,hB⟩:=hrel
  by_cases hlt:k<n
  ·obtain ⟨b,o,rfl,hb,e0⟩:=Lims.at (H.out.on hB) (i:=k) (by rw [<-HN.out]; exact hlt)
   obtain ⟨b2,o2,rfl,hb2,e2⟩:=Lims.at (H2.out.on hB) (i:=k) (by rw [<-HM.out]; exact hlt)
   have hlt':(k:Int)<(n:Int):=by omega
   have hk0:(0:Int)<=(k:Int):=by omega
   obtain ⟨u,hu⟩:∃ u,u=dg x k:=⟨_,rfl⟩
   obtain ⟨v,hv⟩:∃ v,v=dg y k:=⟨_,rfl⟩
   rw [<-hu] at e0;rw [<-hv] at e2
   have HU:=hid hu
   have HV:=hid hv
   clear hu hv
   by_cases huv:u=v
   ·have hb:((u:Int) != (v:Int))=false:=by simp [huv]
    have HE2:Hid (∀ i,i<k+1->dg x i=dg y i):=hid fun i hi=>by
     by_cases e:i=k
     ·rw [e,<-HU.out,<-HV.out,huv]
     ·exact HE.out i (by omega)
    clear huv
    go_wp2
    go_quiet (fail)
    go_wp2
    go_roundg (gk - 1)
    case measure=>omega
    case rel=>exact ⟨k+1,by go_num,by omega,by omega,HE2,zac hB _⟩
   ·have hb:((u:Int) != (v:Int))=true:=by simp; omega
    have HNO:Hid (x≠y):=hid fun e=>huv (by rw [HU.out,HV.out,e])
    clear huv
    go_wp2
    go_quiet (fail)
    go_wp2
    go_ret
    exact ⟨false,rfl,⟨fun h=>(nomatch h),fun h=>absurd h HNO.out⟩,zac hB _⟩
  ·obtain rfl:k=n:=by omega
   have he:=HALL.out HE.out
   have HEQ:=hid he
   clear he
   go_wp2
   go_ret
   exact ⟨true,rfl,⟨fun _=>HEQ.out,fun _=>rfl⟩,hB⟩
open Go.ChangeShapes Go.WideShapes Go.ChangeAt
section
variable {add mul:Nat->Nat->Nat} {H:Nat->Nat->Nat} {T:Trel} {S:Nat->Nat->Nat} {i j v k:Nat}
theorem Trel.synF_old (h:T.asg i j v):T.synF add mul H S i (j+1) v k=T.synF add mul H S i j v k:=if_neg fun g=>g.2 h
theorem Trel.synF_new (h:¬ T.asg i j v) (e:(T.to i j).toNat=v):T.synF add mul H S i (j+1) v k=T.synv add mul H S i j k:=if_pos ⟨e,h⟩
theorem Trel.synF_far (e:(T.to i j).toNat≠v):T.synF add mul H S i (j+1) v k=T.synF add mul H S i j v k:=if_neg fun g=>e g.1
end
theorem zdT {b b':Nat} {t:TypeId} {n:Nat} {f:Nat->Value} {w:World} (hne:b'≠b) (v:Value) (o:Nat) (h:w.rowIs b' t n f):(w.setCell ⟨b,o,none⟩ v).rowIs b' t n f:=h.of_block ((zaK w b o v).block _ h.lt fun e=>hne (Option.some.inj e))
def IsTr (q a:Nat) (add mul:Nat->Nat->Nat) (H:Nat->Nat->Nat) (T:Trel) (n:Nat):Prop :=
 T.SynOk add mul H q a/\(∀ k,k<a->T.syn add mul H T.n 0 k=0)/\T.fwd (fun _ _=>1) T.n 0=q ^ n
def IsPost (P M:Nat) (m:Nat->Nat) (T:Trel) (N n:Nat) (V:Nat->Nat->Nat) (w:World) (e:Ending) (w':World):Prop :=
 ∃ b:Bool,e=.returned (.bool b)/\Below w.heap.size w w'/\((T.n≠N/\b=false)∨(T.n=N/\∃ a H,NullRel (P ^ M) (addF P M) (mulF P M m) (negF P M) n N V a H/\(b=true↔IsTr (P ^ M) a (addF P M) (mulF P M m) H T n)))
theorem zgJ (P M:Nat) (m:Nat->Nat) (A:Option Addr) (k c N:Nat) (TC:Option Addr) (n d:Nat) (V:Nat->Nat->Nat) (T:Trel) (TA TB:Option Addr) (ca cb:Nat) (w:World) (h:CodeR w P M m A k N TC n V) (hT:T.Reads w TA TB) (hp:T.Proper) :
  Calls Tryz.prog 124 #[.agg #[.int .i64 (P:Nat),.int .i64 (M:Nat),.slice A k c,.int .i64 (N:Nat),.slice TC n d],.agg #[.slice TA T.nw ca,.slice TB T.n cb]] w (IsPost P M m T N n V w):=by
 have HC:=hid h
 have HR:=hid hT
 have HP:=hid hp
 have HSH:=hid hp.shape
 have hn64:=hp.shape.n64
 have HNW1:=hid hp.shape.nw
 have HW:Hid (∀ i,i<=T.n->1<=T.W i/\T.W i<=65536):=hid fun i hi=>hp.shape.wid hi
 have HL:Hid (FieldLaws (P ^ M) (addF P M) (mulF P M m)):=hid (fieldLaws h.fld)
 have HFO:=hid h.fld.1
 have hN:=h.ln2
 have hN1:=h.ln1
 have HN:=hid h.n_le
 have HQ256:=hid h.fld.1.2.2.2
 have HRR:=hid h.rref
 clear h hT hp
 have rf:=zav (w:=w) (a:=.int .i64 (P:Nat)) (b:=.int .i64 (M:Nat)) (c:=.slice A k c) (d:=.int .i64 (N:Nat)) (e:=.slice TC n d) (T := 27)
 have hB:Below w.heap.size w (w.alloc (.cells #[.int .i64 (P:Nat),.int .i64 (M:Nat),.slice A k c,.int .i64 (N:Nat),.slice TC n d] 27)):=(Below.refl _ _).alloc (Nat.le_refl _) _
 obtain ⟨w1,hw1⟩:∃ W,W=w.alloc (.cells #[.int .i64 (P:Nat),.int .i64 (M:Nat),.slice A k c,.int .i64 (N:Nat),.slice TC n d] 27):=⟨_,rfl⟩
 rw [<-hw1] at hB rf
 have rt:=zai (w:=w1) (a:=.slice TA T.nw ca) (b:=.slice TB T.n cb) (T := 74)
 have kb:Below w1.heap.size w1 (w1.alloc (.cells #[.slice TA T.nw ca,.slice TB T.n cb] 74)):=(Below.refl _ _).alloc (Nat.le_refl _) _
 obtain ⟨w2,hw2⟩:∃ W,W=w1.alloc (.cells #[.slice TA T.nw ca,.slice TB T.n cb] 74):=⟨_,rfl⟩
 rw [<-hw2] at kb rt;replace rf:=zaa rf kb;replace hB:=onS hB kb
 have hsz1:w1.heap.size=w.heap.size+1:=by rw [hw1]; simp
 rw [hsz1] at rt
 go_enter Tryz.func124, Tryz.ntmps124
 go_upto_region 1 with fail
 rw [<-hw1,<-hw2];clear hw1 hw2 kb hsz1
 obtain ⟨b0,hb0⟩:∃ b,b=w.heap.size:=⟨_,rfl⟩
 obtain ⟨b1,hb1⟩:∃ b,b=w.heap.size+1:=⟨_,rfl⟩
 have HB0:Hid (w.heap.size<=b0):=hid (by omega)
 have HB1:Hid (w.heap.size<=b1):=hid (by omega)
 rw [<-hb0] at rf;rw [<-hb1] at rt;rw [<-hb1,<-hb0];clear hb0 hb1
 have HBOX:Hid (∀ X,Below w2.heap.size w2 X->X.rowIs b0 27 5 (codCell (.int .i64 (P:Nat)) (.int .i64 (M:Nat)) (.slice A k c) (.int .i64 (N:Nat)) (.slice TC n d))/\X.rowIs b1 74 2 (matCell (.slice TA T.nw ca) (.slice TB T.n cb))):=hid fun X hx=>⟨zaa rf hx,zaa rt hx⟩
 have HB:=hid hB
 clear hB
 have q3:=qc3 rf
 have p1:=qc1 rt
 by_cases hTN:T.n=N
 rotate_left
 ·have hne:((T.n:Int) != (N:Int))=true:=by simp; omega
  clear rf rt
  go_wp2
  go_ret
  exact ⟨false,rfl,HB.out,.inl ⟨hTN,rfl⟩⟩
 have hne:((T.n:Int) != (N:Int))=false:=by simp; omega
 go_upto_region 3 with fail
 clear hne p1
 subst hTN
 have q0:=qc0 rf
 have q1:=qc1 rf
 have q2:=qc2 rf
 have q4:=qc4 rf
 go_cut [5] (fun v5 wx=>∃ (a:Nat) (H:Nat->Nat->Nat),NullRel (P ^ M) (addF P M) (mulF P M m) (negF P M) n T.n V a H/\MTab wx w2.heap.size v5 T.n a (fun i j=>H j i)/\Below w2.heap.size w2 wx)
 case first =>
  have kb:Below w2.heap.size w2 w2.drew:=(Below.refl _ _).drew
  refine wp_region_held_drew (S:=fun w'=>w'.cell? ⟨b0,0,none⟩=some (.int .i64 (P:Nat))/\w'.cell? ⟨b0,1,none⟩=some (.int .i64 (M:Nat))/\w'.cell? ⟨b0,2,none⟩=some (.slice A k c)/\w'.cell? ⟨b0,3,none⟩=some (.int .i64 (T.n:Nat))/\w'.cell? ⟨b0,4,none⟩=some (.slice TC n d)) (by kernel_rfl) ⟨cellS kb q0,cellS kb q1,cellS kb q2,cellS kb q3,cellS kb q4⟩ (fun hHeld=>?_)
  obtain ⟨w3,hw⟩:∃ W,W=World.drew w2:=⟨_,rfl⟩
  rw [<-hw] at kb hHeld ⊢;clear hw
  have KB:=hid kb
  clear kb q0 q1 q2 q3 q4 rf rt
  refine tkq 0 (h:=tkq 2 (h:=tkq 3 (h:=?_)))
  clear hHeld
  refine rdq 1 (h:=fun K hK=>?_)
  go_simp
  go_wp2_with fail
  refine (zfz P M m A k c T.n TC n d V w3 (HC.out.on (onS HB.out KB.out))).mono ?_
  rintro e w4 ⟨lv,a,H,rfl,hM,kb,hrel⟩
  have HREL:=hid hrel
  have ha:n+a=T.n:=hrel.count HL.out (fun x _=>⟨zbf (by have:=HFO.out.1; omega),za0 (by have:=HFO.out.1; omega)⟩) HRR.out
  obtain ⟨p,hE⟩:=hrel.rref
  have hMR:∀ X,Below w4.heap.size w4 X->∀ PA pc,lv=.slice PA a pc->MRows X PA a T.n H:=fun X hx PA pc e=>(MTab.rd (e ▸ hM) HQ256.out hE.lt).on hx
  obtain ⟨PA,pc,hlv⟩:=hM.shape
  have HMR:=hid (hMR w4 (Below.refl _ _) PA pc hlv)
  subst hlv
  replace KB:=hid (onS KB.out kb);clear kb hM hrel hE hMR
  refine bkq hK ⟨((HBOX.out _ KB.out).1).cell (i:=0) (by omega),((HBOX.out _ KB.out).1).cell (i:=1) (by omega),((HBOX.out _ KB.out).1).cell (i:=2) (by omega),((HBOX.out _ KB.out).1).cell (i:=3) (by omega),((HBOX.out _ KB.out).1).cell (i:=4) (by omega)⟩ (h:=fun hHeld=>?_)
  clear hK K hHeld
  refine rdq 4 (h:=fun K hK=>?_)
  go_simp
  go_wp2_with fail
  refine (zf7 PA a T.n pc H w4 HMR.out (by omega) (by omega)).mono ?_
  rintro e w5 ⟨v5,rfl,hM,kb⟩
  have HM:=hid (hM.mono KB.out.size)
  replace KB:=hid (onS KB.out kb);clear kb hM
  refine bkq hK ⟨((HBOX.out _ KB.out).1).cell (i:=0) (by omega),((HBOX.out _ KB.out).1).cell (i:=1) (by omega),((HBOX.out _ KB.out).1).cell (i:=2) (by omega),((HBOX.out _ KB.out).1).cell (i:=3) (by omega),((HBOX.out _ KB.out).1).cell (i:=4) (by omega)⟩ (h:=fun hHeld=>?_)
  clear hK K
  refine tkq 5 (h:=?_)
  refine wpAnyH_done (by kernel_rfl) ?_ _
  clear hHeld
  go_wp2
  go_meet
  exact ⟨a,H,HREL.out,HM.out,KB.out⟩
 case rest =>
  obtain ⟨a,H,hrel,hM,hB5⟩:=hcut
  have ha:n+a=T.n:=hrel.count HL.out (fun x _=>⟨zbf (by have:=HFO.out.1; omega),za0 (by have:=HFO.out.1; omega)⟩) HRR.out
  have HREL:=hid hrel
  have HHq:Hid (∀ k,k<a->∀ i,i<T.n->H k i<P ^ M):=by
   obtain ⟨p,hE⟩:=hrel.rref
   exact hid hE.lt
  have HMT:=hid hM
  obtain ⟨w6,hw6⟩:∃ X,X=wc:=⟨_,rfl⟩
  subst hw6
  have HK5:=hid hB5
  obtain ⟨LA,lc,hlv⟩:=hM.shape
  subst hlv
  have q3:w6.cell? ⟨b0,3,none⟩=some (.int .i64 (T.n:Nat)):=((HBOX.out _ HK5.out).1).cell (i:=3) (by omega)
  have q4:w6.cell? ⟨b0,4,none⟩=some (.slice TC n d):=((HBOX.out _ HK5.out).1).cell (i:=4) (by omega)
  clear hrel hM hB5 rf rt
  have HMI:∀ (z:Nat),z<=65536->∀ W,_:=fun z hz W=>zag (P:=Tryz.prog) 22 3 _ 8 Tryz.underlying22 Tryz.infoInt rfl (z:Int) (by omega) (by omega) (by omega) W
  have HMR:∀ (z:Nat),z<=65536->∀ W,_:=fun z hz W=>zag (P:=Tryz.prog) 25 22 _ 24 Tryz.underlying25 Tryz.infoInts rfl (z:Int) (by omega) (by omega) (by omega) W
  simp only [Int.toNat_natCast] at HMI HMR
  have HMR:=hid HMR
  have hmk:=HMI a (by omega)
  clear HMI
  have hsub:wrap64 ((T.n:Int) - (n:Int))=(a:Int):=by unfold wrap64; omega
  have hsub2:IntKind.i64.wrap ((T.n:Int) - (n:Int))=(a:Int):=by rw [IntWalk.i64_in _ (by omega)]; omega
  have hsub3:((T.n:Int) - (n:Int))=(a:Int):=by omega
  go_upto_region 5 with fail
  clear q3 q4 hmk hsub hsub2 hsub3
  have rz:World.rowIs (World.alloc w6 (Obj.cells (madeCells #[Value.int .i64 0] a) 3)) w6.heap.size 3 a (fun _=>.int .i64 ((0:Nat):Int)):=World.rowIs_made _ (.int .i64 0) a 3
  have kb7:Below w6.heap.size w6 (World.alloc w6 (Obj.cells (madeCells #[Value.int .i64 0] a) 3)):=(Below.refl _ _).alloc (Nat.le_refl _) _
  have hs7:(World.alloc w6 (Obj.cells (madeCells #[Value.int .i64 0] a) 3)).heap.size=w6.heap.size+1:=by simp
  obtain ⟨w7,hw7⟩:∃ W,W=World.alloc w6 (Obj.cells (madeCells #[Value.int .i64 0] a) 3):=⟨_,rfl⟩
  rw [<-hw7] at rz kb7 hs7 ⊢
  obtain ⟨gz,hgz⟩:∃ g,g=w6.heap.size:=⟨_,rfl⟩
  have hgzB:w2.heap.size<=gz:=by rw [hgz]; exact HK5.out.size
  have hww:w.heap.size<=gz:=Nat.le_trans HB.out.size hgzB
  rw [<-hgz] at rz hs7 ⊢
  have rb8:(w7.alloc (.cells #[.slice (some ⟨gz,0,none⟩) a a] 22)).rowIs w7.heap.size 22 1 (fun _=>.slice (some ⟨gz,0,none⟩) a a):=⟨_,zat rfl,rfl,fun i hi=>by
   obtain rfl:i=0:=by omega
   rfl⟩
  have kb8:Below w7.heap.size w7 (w7.alloc (.cells #[.slice (some ⟨gz,0,none⟩) a a] 22)):=(Below.refl _ _).alloc (Nat.le_refl _) _
  obtain ⟨w8,hw8⟩:∃ W,W=w7.alloc (.cells #[.slice (some ⟨gz,0,none⟩) a a] 22):=⟨_,rfl⟩
  rw [<-hw8] at rb8 kb8 ⊢;rw [hs7] at rb8
  have hL0:LTab w8 w.heap.size (gz+1) 1 a (fun _=>True) (fun _=>.slice (some ⟨gz,0,none⟩) a a) (T.syn (addF P M) (mulF P M m) H 0) :=
   ⟨by omega,rb8,fun u _ _=>(zax (zaa rz kb8) hww (by unfold maxLen; omega)).congr fun k _ _ _=>rfl,fun u _ h=>absurd trivial h⟩
  have HK8:=hid (onS (onS HK5.out kb7) kb8)
  replace HMT:=hid ((HMT.out.on kb7).on kb8);clear hs7 hw7 hw8 rb8 rz kb7 kb8 hww hgz HK5
  go_upto_region 6 with fail
  go_loopg [6,7] T.n (fun gg nv iv wx=>∃ (i g:Nat) (R:Nat->Value),iv=.int .i64 (i:Nat)/\nv=.slice (some ⟨g,0,none⟩) (T.W i).toNat (T.W i).toNat/\i<=T.n/\T.n<=i+gg/\Hid (∀ i',i'<i->∀ j,j<T.el i'->T.agree (addF P M) (mulF P M m) H (P ^ M) a i' j)/\LTab wx w.heap.size g (T.W i).toNat a (fun _=>True) R (T.syn (addF P M) (mulF P M m) H i)/\Below w8.heap.size w8 wx)
  case atStart =>
   have hw0:(T.W 0).toNat=1:=by rw [HP.out.w0]; rfl
   refine ⟨0,gz+1,fun _=>.slice (some ⟨gz,0,none⟩) a a,rfl,?_,by omega,by omega,hid fun i' h=>absurd h (by omega),?_,Below.refl _ _⟩
   ·rw [hw0]
   ·rw [hw0]; exact hL0
  case round =>
   clear hL0
   obtain ⟨i,g,R,rfl,rfl,hi,hig,HOK,hLT,hB⟩:=hrel
   have hi0:(0:Int)<=(i:Int):=by omega
   have HLT:=hid hLT
   have HKB:=hid hB
   obtain ⟨w9,hw9⟩:∃ X,X=wr:=⟨_,rfl⟩
   subst hw9
   clear hLT hB
   have q3:w9.cell? ⟨b0,3,none⟩=some (.int .i64 (T.n:Nat)):=((HBOX.out _ (onS HK8.out HKB.out)).1).cell (i:=3) (by omega)
   by_cases hin:i<T.n
   ·have hin':(i:Int)<(T.n:Int):=by omega
    obtain ⟨eb,eo,E,ec,hBe,heb,e0w,hec,hec2,hEd,hI64⟩:=HR.out.sec hin
    have HED:=hid hEd
    have HKW:=hid (onS (onS HB.out HK8.out) HKB.out)
    have e0:=cellS HKW.out e0w
    subst hBe
    obtain ⟨el,hel⟩:∃ x,x=T.el i:=⟨_,rfl⟩
    have hel2:el<=262144:=by rw [hel]; exact HSH.out.elb hin
    rw [<-hel] at e0 e0w HED
    have HE0:=hid e0w
    have HEL:=hid hel
    clear hel hEd hI64 hec hec2 e0w
    have hW1:=HW.out (i+1) (by omega)
    obtain ⟨mm,hmm⟩:∃ x:Nat,x=(T.W (i+1)).toNat:=⟨_,rfl⟩
    have hWm:T.W (i+1)=(mm:Int):=by omega
    have hm65:mm<=65536:=by omega
    obtain ⟨ab,ao,hAe,_,a0,_⟩:=(HR.out.on HKW.out).width (i:=i+1) (by have:=HNW1.out; omega)
    subst hAe
    rw [hWm] at a0
    have HMM:=hid hmm
    have HWM:=hid hWm
    clear hmm hWm hW1
    have hi1w:IntKind.i64.wrap ((i:Int)+1)=((i+1:Nat):Int):=by rw [IntWalk.i64_in _ (by omega)]; rfl
    have hmk:=HMR.out mm hm65
    have hinw:((i+1:Nat):Int)<(T.nw:Int):=by have:=HNW1.out; omega
    have hinw2:(i:Int)+1<(T.nw:Int):=by omega
    have hi10:(0:Int)<=((i+1:Nat):Int):=by omega
    have p0:w9.cell? ⟨b1,0,none⟩=some (.slice (some ⟨ab,ao,none⟩) T.nw ca):=((HBOX.out _ (onS HK8.out HKB.out)).2).cell (i:=0) (by omega)
    go_upto_region 9 with fail
    have hmade:=LTab.made (m:=mm) w9 a (T.synF (addF P M) (mulF P M m) H (T.syn (addF P M) (mulF P M m) H i) i 0)
    have kb8:Below w9.heap.size w9 (w9.alloc (.cells (madeCells #[.slice none 0 0] mm) 22)):=(Below.refl _ _).alloc (Nat.le_refl _) _
    have hs10:(w9.alloc (.cells (madeCells #[.slice none 0 0] mm) 22)).heap.size=w9.heap.size+1:=by simp
    obtain ⟨w10,hw10⟩:∃ W,W=w9.alloc (.cells (madeCells #[.slice none 0 0] mm) 22):=⟨_,rfl⟩
    rw [<-hw10] at hmade kb8 hs10 ⊢
    obtain ⟨g2,hg2⟩:∃ x,x=w9.heap.size:=⟨_,rfl⟩
    have hg2w:w.heap.size<=g2:=by have:=HKW.out.size; omega
    have hg8:Hid (w8.heap.size<=g2):=hid (by have:=HKB.out.size; omega)
    rw [<-hg2] at hmade ⊢
    have hLTn:LTab w10 w.heap.size g2 mm a (T.asg i 0) (fun _=>.slice none 0 0) (T.synF (addF P M) (mulF P M m) H (T.syn (addF P M) (mulF P M m) H i) i 0):=⟨hg2w,hmade.row,fun u _ h=>absurd h Trel.asg_zero,fun _ _ _=>rfl⟩
    have hgg:Hid (g2≠g):=hid (by have:=HLT.out.row.lt; omega)
    have hLT8:=HLT.out.on kb8
    have hk8:=onS HKB.out kb8
    clear hmade hw10 kb8 hg2 HLT HKB hmk a0 e0 p0 q3 hs10 HKW hi1w hinw hinw2 hi10
    obtain ⟨wi,hwi⟩:∃ x:Nat,x=(T.W i).toNat:=⟨_,rfl⟩
    have hWi:T.W i=(wi:Int):=by have:=HW.out i (by omega); omega
    rw [<-hwi] at hLT8 ⊢
    have HWI:=hid hWi
    clear hwi hWi
    obtain ⟨gO,hgO⟩:∃ x,x=gk:=⟨_,rfl⟩
    subst hgO
    go_upto_region 10 with fail
    go_loopg [9] el (fun gg jv wx=>∃ (j:Nat) (R2:Nat->Value),jv=.int .i64 (j:Nat)/\j<=el/\el<=j+gg/\Hid (∀ e,e<j->T.agree (addF P M) (mulF P M m) H (P ^ M) a i e)/\LTab wx w.heap.size g wi a (fun _=>True) R (T.syn (addF P M) (mulF P M m) H i)/\LTab wx w.heap.size g2 mm a (T.asg i j) R2 (T.synF (addF P M) (mulF P M m) H (T.syn (addF P M) (mulF P M m) H i) i j)/\Below w8.heap.size w8 wx)
    case atStart=>exact ⟨0,_,rfl,by omega,by omega,hid fun e h=>absurd h (by omega),hLT8,hLTn,hk8⟩
    case round =>
     clear hLT8 hLTn hk8
     obtain ⟨j,R2,rfl,hj,hjg,HOJ,hLT,hLN,hB⟩:=hrel
     have hj0:(0:Int)<=(j:Int):=by omega
     have HLT:=hid hLT
     have HLN:=hid hLN
     have HKB:=hid hB
     obtain ⟨w9,hw9⟩:∃ X,X=wr:=⟨_,rfl⟩
     subst hw9
     clear hLT hLN hB
     have hK9:=onS (onS HB.out HK8.out) HKB.out
     have p1:w9.cell? ⟨b1,1,none⟩=some (.slice (some ⟨eb,eo,none⟩) T.n cb):=((HBOX.out _ (onS HK8.out HKB.out)).2).cell (i:=1) (by omega)
     have e0:=cellS hK9 HE0.out
     by_cases hjl:j<el
     ·have hjl':(j:Int)<(el:Int):=by omega
      obtain ⟨xb,xo,hEe,hxb,x0,x1,x2⟩:=zby HED.out hjl
      subst hEe
      replace x0:=cellS hK9 x0;replace x1:=cellS hK9 x1;replace x2:=cellS hK9 x2
      have hins:=HSH.out.ins i hin j (by rw [<-HEL.out]; exact hjl)
      obtain ⟨f0,f1,t0,t1⟩:=hins
      obtain ⟨fu,hfu⟩:∃ x:Nat,x=(T.fr i j).toNat:=⟨_,rfl⟩
      obtain ⟨tu,htu⟩:∃ x:Nat,x=(T.to i j).toNat:=⟨_,rfl⟩
      have hf:T.fr i j=(fu:Int):=by omega
      have ht:T.to i j=(tu:Int):=by omega
      rw [hf] at x0 f0 f1;rw [ht] at x2 t0 t1;rw [HWI.out] at f1;rw [HWM.out] at t1
      have HFU:=hid hfu
      have HTU:=hid htu
      obtain ⟨lb,hlb⟩:∃ x:Int,x=T.lb i j:=⟨_,rfl⟩
      rw [<-hlb] at x1
      have HLB:=hid hlb
      clear hf ht hfu htu hlb
      go_upto_region 13 with fail
      have rx:=zad (w:=w9) (a:=.int .i64 (fu:Nat)) (b:=.int .i64 lb) (c:=.int .i64 (tu:Nat)) (T := 148)
      have kb:Below w9.heap.size w9 (w9.alloc (.cells #[.int .i64 (fu:Nat),.int .i64 lb,.int .i64 (tu:Nat)] 148)):=(Below.refl _ _).alloc (Nat.le_refl _) _
      obtain ⟨w10,hw10⟩:∃ W,W=w9.alloc (.cells #[.int .i64 (fu:Nat),.int .i64 lb,.int .i64 (tu:Nat)] 148):=⟨_,rfl⟩
      rw [<-hw10] at rx kb ⊢;clear hw10
      obtain ⟨b12,hb12⟩:∃ b,b=w9.heap.size:=⟨_,rfl⟩
      rw [<-hb12] at rx ⊢;clear hb12 x0 x1 x2 e0 p1;replace HLT:=hid (HLT.out.on kb);replace HLN:=hid (HLN.out.on kb);replace HKB:=hid (onS HKB.out kb);clear kb hK9
      have y1:=qc1 rx
      have r10:=(HBOX.out _ (onS HK8.out HKB.out)).1
      have q0:=qc0 r10
      have q1:=qc1 r10
      have q2:=qc2 r10
      clear r10
      go_wp2_with fail
      refine (zdW P M A k c lb w10 HFO.out).mono ?_
      rintro e w11 ⟨rfl,kb⟩
      have HRX:=hid (zaa rx kb)
      replace HLT:=hid (HLT.out.on kb);replace HLN:=hid (HLN.out.on kb);replace HKB:=hid (onS HKB.out kb);clear kb rx y1 q0 q1 q2
      have hIS:isB (P ^ M) lb=true↔0<=lb/\lb<((P ^ M:Nat):Int):=by unfold isB; simp
      obtain hb | hb:=Bool.eq_false_or_eq_true (isB (P ^ M) lb)
      rotate_left
      ·rw [hb]
       have hno:¬ T.SynOk (addF P M) (mulF P M m) H (P ^ M) a:=fun h=>by
        have h1:=(h i hin j (by rw [<-HEL.out]; exact hjl)).1
        rw [<-HLB.out] at h1;rw [hIS.2 h1] at hb
        cases hb
       have hB11:=onS (onS HB.out HK8.out) HKB.out
       clear hb hIS
       go_wp2
       go_ret
       exact ⟨false,rfl,hB11,.inr ⟨rfl,a,H,HREL.out,⟨fun h=>(nomatch h),fun h=>absurd h.1 hno⟩⟩⟩
      have hlb:=hIS.1 hb
      rw [hb]
      obtain ⟨lu,rfl⟩:∃ x:Nat,lb=x:=⟨lb.toNat,by omega⟩
      have HLUQ:Hid (lu<P ^ M):=hid (by omega)
      have HLU:Hid ((T.lb i j).toNat=lu):=hid (by rw [<-HLB.out]; exact Int.toNat_natCast _)
      have HLR:Hid (0<=T.lb i j/\T.lb i j<((P ^ M:Nat):Int)):=hid (by rw [<-HLB.out]; exact hlb)
      clear hb hIS hlb
      go_upto_region 15 with fail
      have hfw:fu<wi:=by omega
      have htw:tu<mm:=by omega
      obtain ⟨SF,fc,hRf⟩:=(HLT.out.yes fu hfw trivial).shape
      have HRf:=hid hRf
      have hgN:=HLT.out.row.cell hfw
      rw [hRf] at hgN
      obtain ⟨tb,tO,RA,rc,hLA,_,_,h0,_,hrow⟩:=(HMT.out.on HKB.out).row hin
      subst hLA
      have HROW:=hid hrow
      have r10:=(HBOX.out _ (onS HK8.out HKB.out)).1
      have q0:=qc0 r10
      have q1:=qc1 r10
      have q2:=qc2 r10
      have z0:=qc0 HRX.out
      have z1:=qc1 HRX.out
      clear r10 hRf hrow
      refine wp_region_held_drew (S:=fun w'=>w'.cell? ⟨g,fu,none⟩=some (.slice SF a fc)/\w'.cell? ⟨tb,tO+i,none⟩=some (.slice RA a rc)/\w'.cell? ⟨b0,0,none⟩=some (.int .i64 (P:Nat))/\w'.cell? ⟨b0,1,none⟩=some (.int .i64 (M:Nat))/\w'.cell? ⟨b0,2,none⟩=some (.slice A k c)/\w'.cell? ⟨b12,0,none⟩=some (.int .i64 (fu:Nat))/\w'.cell? ⟨b12,1,none⟩=some (.int .i64 (lu:Nat))) (by kernel_rfl) ⟨cellS (Below.refl _ _).drew hgN,cellS (Below.refl _ _).drew h0,cellS (Below.refl _ _).drew q0,cellS (Below.refl _ _).drew q1,cellS (Below.refl _ _).drew q2,cellS (Below.refl _ _).drew z0,cellS (Below.refl _ _).drew z1⟩ (fun hHeld=>?_)
      obtain ⟨w12,hw⟩:∃ W,W=World.drew w11:=⟨_,rfl⟩
      have kb:Below w11.heap.size w11 w12:=by rw [hw]; exact (Below.refl _ _).drew
      rw [<-hw] at hHeld ⊢;clear hw;replace HRX:=hid (zaa HRX.out kb);replace HLT:=hid (HLT.out.on kb);replace HLN:=hid (HLN.out.on kb);replace HKB:=hid (onS HKB.out kb);replace HROW:=hid (HROW.out.on kb);replace hgN:=cellS kb hgN;replace h0:=cellS kb h0;replace q0:=cellS kb q0;replace q1:=cellS kb q1;replace q2:=cellS kb q2;replace z0:=cellS kb z0;replace z1:=cellS kb z1;clear kb
      refine tkq 0 (h:=tkq 1 (h:=tkq 2 (h:=tkq 3 (h:=tkq 4 (h:=tkq 5 (h:=tkq 6 (h:=tkq 7 (h:=tkq 8 (h:=tkq 9 (h:=tkq 10 (h:=tkq 11 (h:=tkq 12 (h:=?_)))))))))))))
      clear hHeld
      refine rdq 13 (h:=fun K hK=>?_)
      go_simp
      go_wp2_with fail
      have hOf:=HLT.out.yes fu hfw trivial
      rw [HRf.out] at hOf
      have HSF:=hid (show IntsR w12 w12.heap.size SF a (fun k=>((T.syn (addF P M) (mulF P M m) H i fu k:Nat):Int)) from hOf.rd rfl)
      have HSL:=hid (show IntsR w12 w12.heap.size RA a (fun k=>((H k i:Nat):Int)) from HROW.out.rd rfl)
      have KW:=onS (onS HB.out HK8.out) HKB.out
      have HSW:=hid KW.size
      clear hOf
      refine (zcf P M A k c m lu SF RA a fc a rc (fun k=>T.syn (addF P M) (mulF P M m) H i fu k) (fun k=>H k i) w12 HFO.out (HC.out.on KW).mod HC.out.km HLUQ.out HSF.out (fun k _=>Trel.syn_lt HL.out _ _ _) HSL.out (fun k hk=>HHq.out k hk i hin) (Nat.le_refl _) (by omega)).mono ?_
      rintro e w13 ⟨gs,rfl,hgs,hr,kb⟩
      have hO:=zax hr (Nat.le_trans KW.size hgs) (by unfold maxLen; omega)
      have HO13:Hid (Own w13 w.heap.size 3 1 (.slice (some ⟨gs,0,none⟩) a a) a (fun k _=>.int .i64 (T.synv (addF P M) (mulF P M m) H (T.syn (addF P M) (mulF P M m) H i) i j k:Nat))):=hid (hO.congr fun k hk _ _=>by
       show Value.int .i64 (atF P M m lu (fun k=>T.syn (addF P M) (mulF P M m) H i fu k) (fun k=>H k i) k:Nat)=_
       congr 2
       unfold Trel.synv atF
       rw [HLU.out,<-HFU.out]
       show (if H k i=0 then _ else _)=_
       split
       ·rename_i h0
        rw [h0,HL.out.mulZero HLUQ.out,HL.out.addZero (Trel.syn_lt HL.out _ _ _)]
       ·rfl)
      refine bkq hK ⟨cellS kb hgN,cellS kb h0,cellS kb q0,cellS kb q1,cellS kb q2,cellS kb z0,cellS kb z1⟩ (h:=fun hHeld=>?_)
      replace HRX:=hid (zaa HRX.out kb);replace HLT:=hid (HLT.out.on kb);replace HLN:=hid (HLN.out.on kb);replace HKB:=hid (onS HKB.out kb);clear hK K hO kb hgN h0 q0 q1 q2 z0 z1 HSF HSL KW hr hgs HROW
      refine tkq 14 (h:=?_)
      refine wpAnyH_done (by kernel_rfl) ?_ _
      clear hHeld
      have hold:∃ OA oc on,R2 tu=.slice OA on oc/\((T.asg i j tu/\on=a)∨(¬ T.asg i j tu/\on=0)):=by
       by_cases hasg:T.asg i j tu
       ·obtain ⟨OA,oc,e⟩:=(HLN.out.yes tu htw hasg).shape
        exact ⟨OA,oc,a,e,.inl ⟨hasg,rfl⟩⟩
       ·exact ⟨none,0,0,HLN.out.no tu htw hasg,.inr ⟨hasg,rfl⟩⟩
      obtain ⟨OA,oc,on,hRo,hcase⟩:=hold
      have hgM:=HLN.out.row.cell htw
      rw [hRo] at hgM
      have HRo:=hid hRo
      clear hRo
      have HCASE:=hid hcase
      clear hcase
      have hb2:=qc2 HRX.out
      go_upto_if 91 with fail
      go_cut [] (fun wx=>∃ R3:Nat->Value,LTab wx w.heap.size g2 mm a (T.asg i (j+1)) R3 (T.synF (addF P M) (mulF P M m) H (T.syn (addF P M) (mulF P M m) H i) i (j+1))/\LTab wx w.heap.size g wi a (fun _=>True) R (T.syn (addF P M) (mulF P M m) H i)/\wx.rowIs b12 148 3 (fldCell (.int .i64 (fu:Nat)) (.int .i64 (lu:Nat)) (.int .i64 (tu:Nat)))/\Own wx w.heap.size 3 1 (.slice (some ⟨gs,0,none⟩) a a) a (fun k _=>.int .i64 (T.synv (addF P M) (mulF P M m) H (T.syn (addF P M) (mulF P M m) H i) i j k:Nat))/\Below w8.heap.size w8 wx)
      case first =>
       have keepL:∀ (hz:T.asg i j tu),0<a->LTab w13 w.heap.size g2 mm a (T.asg i (j+1)) R2 (T.synF (addF P M) (mulF P M m) H (T.syn (addF P M) (mulF P M m) H i) i (j+1)):=fun hz _=>HLN.out.congr (fun u hu=>by
        rw [Trel.asg_succ]
        refine ⟨.inl,fun h=>h.elim id fun h=>?_⟩
        rw [<-h,<-HTU.out]; exact hz) fun u hu hp k hk=>by
        rw [Trel.synF_old hp]
       have KEEPL:=hid keepL
       clear keepL
       by_cases hon:on=0
       ·have hob:((on:Int) == 0)=true:=by simp [hon]
        have hfree:¬ T.asg i j tu∨a=0:=by
         rcases HCASE.out with ⟨_,h⟩ | ⟨h,_⟩
         ·exact .inr (by omega)
         ·exact .inl h
        have HFREE:=hid hfree
        have HON:=hid hon
        clear hon hfree
        have u0:=HLN.out.row.cell htw
        have u1:=HLN.out.row.frozen tu
        go_wp2
        have hLN2:=HLN.out.set (u:=tu) HO13.out
        have hLT2:=HLT.out.kept (zaK w13 g2 tu (.slice (some ⟨gs,0,none⟩) a a)) hgg.out fun u hu hp e=>(zaH HLN.out.row (HLT.out.yes u hu hp) (by decide)).elim (fun h=>by rw [h] at e; cases e) (fun h=>h e)
        have hne2:b12≠g2:=fun e=>(zaH HRX.out (zax HLN.out.row (Nat.zero_le _) (by unfold maxLen; omega)) (by decide)).elim (fun h=>by cases h) (fun h=>h (by rw [e]; rfl))
        have hrx18:=zdT hne2 (.slice (some ⟨gs,0,none⟩) a a) tu HRX.out
        have hO2:=HO13.out.setCell (a:=⟨g2,tu,none⟩) (fun e=>(zaH HLN.out.row HO13.out (by decide)).elim (fun h=>by cases h) (fun h=>h e)) (.slice (some ⟨gs,0,none⟩) a a)
        have hk2:=HKB.out.setCell (p:=⟨g2,tu,none⟩) hg8.out (.slice (some ⟨gs,0,none⟩) a a)
        go_meet
        refine ⟨_,hLN2.congr (fun u _=>by rw [Trel.asg_succ,<-HTU.out]; exact or_congr Iff.rfl eq_comm) fun u _ hu k hk=>?_,hLT2,hrx18,hO2,hk2⟩
        show (if u=tu then T.synv (addF P M) (mulF P M m) H (T.syn (addF P M) (mulF P M m) H i) i j k else T.synF (addF P M) (mulF P M m) H (T.syn (addF P M) (mulF P M m) H i) i j u k)=_
        by_cases e:u=tu
        ·rw [if_pos e]
         rcases HFREE.out with h | h
         ·rw [Trel.synF_new (by rw [e]; exact h) (by rw [e]; exact HTU.out.symm)]
         ·omega
        ·rw [if_neg e,Trel.synF_far (fun g=>e (g.symm.trans HTU.out.symm))]
       ·have hob:((on:Int) == 0)=false:=by simpa using hon
        have hL3:=KEEPL.out (by
         rcases HCASE.out with ⟨h,_⟩ | ⟨_,h⟩
         ·exact h
         ·omega) (by
         rcases HCASE.out with ⟨_,h⟩ | ⟨_,h⟩ <;> omega)
        have HL3:=hid hL3
        clear hL3
        go_wp2
        go_meet
        exact ⟨_,HL3.out,HLT.out,HRX.out,HO13.out,HKB.out⟩
      case rest =>
       obtain ⟨R3,hLN,hLT,hRX,hO,hB⟩:=hcut
       obtain ⟨w14,hw14⟩:∃ X,X=wc:=⟨_,rfl⟩
       subst hw14
       clear HLN HLT HRX HO13 HKB hgM hb2 HRo HRf HCASE
       have HRX:=hid hRX
       have HLT:=hid hLT
       have HLN:=hid hLN
       have HO:=hid hO
       have HKB:=hid hB
       clear hLN hLT hRX hO hB
       have hasg:T.asg i (j+1) tu:=Trel.asg_succ.2 (.inr HTU.out.symm)
       have hOn:=HLN.out.yes tu htw hasg
       obtain ⟨OA3,oc3,hR3⟩:=hOn.shape
       have hgM:=HLN.out.row.cell htw
       rw [hR3] at hgM hOn
       have HON:=hid hOn
       have HASG:=hid hasg
       clear hR3 hOn hasg
       have hb2:=qc2 HRX.out
       go_wp2_with fail
       refine (zdS OA3 (some ⟨gs,0,none⟩) a a oc3 a (fun k=>((T.synF (addF P M) (mulF P M m) H (T.syn (addF P M) (mulF P M m) H i) i (j+1) tu k:Nat):Int)) (fun k=>((T.synv (addF P M) (mulF P M m) H (T.syn (addF P M) (mulF P M m) H i) i j k:Nat):Int)) w14 (HON.out.rd rfl) (HO.out.rd rfl) (by omega) (by omega)).mono ?_
       rintro e w15 ⟨r,rfl,hr,kb⟩
       replace HLT:=hid (HLT.out.on kb);replace HLN:=hid (HLN.out.on kb);replace HKB:=hid (onS HKB.out kb)
       have hSF1:T.asg i j tu->∀ k,k<a->T.synF (addF P M) (mulF P M m) H (T.syn (addF P M) (mulF P M m) H i) i (j+1) tu k=T.synL (addF P M) (mulF P M m) H (T.syn (addF P M) (mulF P M m) H i) i j tu k:=fun hz k hk=>by
        rw [Trel.synF_old hz]
        exact Trel.syn_first j HOJ.out tu hz k hk
       have hSF2:¬ T.asg i j tu->∀ k,T.synF (addF P M) (mulF P M m) H (T.syn (addF P M) (mulF P M m) H i) i (j+1) tu k=T.synv (addF P M) (mulF P M m) H (T.syn (addF P M) (mulF P M m) H i) i j k:=fun hz k=>Trel.synF_new hz HTU.out.symm
       have hagr:r=0↔T.agree (addF P M) (mulF P M m) H (P ^ M) a i j:=by
        rw [hr]
        constructor
        ·intro h
         refine ⟨HLR.out,?_⟩
         rw [<-HTU.out]
         intro hz k hk
         have h1:=Int.ofNat.inj (h.2 k hk)
         rw [hSF1 hz k hk] at h1
         exact h1
        ·intro h
         refine ⟨rfl,fun k hk=>?_⟩
         show ((T.synF (addF P M) (mulF P M m) H (T.syn (addF P M) (mulF P M m) H i) i (j+1) tu k:Nat):Int)=_
         by_cases hz:T.asg i j tu
         ·have:=h.2
          rw [<-HTU.out] at this;rw [hSF1 hz k hk,this hz k hk]
         ·rw [hSF2 hz k]
       have HAGR:=hid hagr
       clear hr hSF1 hSF2 hagr kb hgM hb2 HON HO HRX
       by_cases hr0:r=0
       ·have hrb:(r != 0)=false:=by simp [hr0]
        have HOK2:Hid (∀ e,e<j+1->T.agree (addF P M) (mulF P M m) H (P ^ M) a i e):=hid fun e he=>by
         by_cases h:e=j
         ·rw [h]; exact HAGR.out.1 hr0
         ·exact HOJ.out e (by omega)
        clear hr0
        go_wp2
        go_roundg (gk - 1)
        case measure=>omega
        case rel=>exact ⟨j+1,R3,by go_num,by omega,by omega,HOK2,HLT.out,HLN.out,HKB.out⟩
       ·have hrb:(r != 0)=true:=by simpa using hr0
        have hno:¬ T.SynOk (addF P M) (mulF P M m) H (P ^ M) a:=fun h=>hr0 (HAGR.out.2 (h i hin j (by rw [<-HEL.out]; exact hjl)))
        have hB15:=onS (onS HB.out HK8.out) HKB.out
        have HNO:=hid hno
        clear hr0 hno
        go_wp2
        go_ret
        exact ⟨false,rfl,hB15,.inr ⟨rfl,a,H,HREL.out,⟨fun h=>(nomatch h),fun h=>absurd h.1 HNO.out⟩⟩⟩
     ·have hjl':¬ (j:Int)<(el:Int):=by omega
      obtain rfl:el=j:=by omega
      have hLTf:LTab w9 w.heap.size g2 (T.W (i+1)).toNat a (fun _=>True) R2 (T.syn (addF P M) (mulF P M m) H (i+1)):=by
       rw [<-HMM.out]
       refine HLN.out.congr (fun u hu=>⟨fun _=>trivial,fun _=>?_⟩) fun u _ hu k hk=>by
        show _=T.synL (addF P M) (mulF P M m) H (T.syn (addF P M) (mulF P M m) H i) i (T.el i) u k
        rw [<-HEL.out]
        exact Trel.syn_first el HOJ.out u hu k hk
       obtain ⟨e,he,h1⟩:=zej.1 ((HP.out.sec i hin).2.2 u (by rw [<-HMM.out]; exact hu))
       exact ⟨e,by rw [HEL.out]; exact he,by rw [h1]; exact Int.toNat_natCast _⟩
      have HLTf:=hid hLTf
      have HMMf:Hid ((mm:Nat)=(T.W (i+1)).toNat):=HMM
      have HOKf:Hid (∀ i',i'<i+1->∀ j,j<T.el i'->T.agree (addF P M) (mulF P M m) H (P ^ M) a i' j):=hid fun i' h' j hj=>by
       by_cases e:i'=i
       ·subst e
        exact HOJ.out j (by rw [HEL.out]; exact hj)
       ·exact HOK.out i' (by omega) j hj
      clear hLTf
      go_wp2
      go_roundg (gO - 1)
      case measure=>omega
      case rel=>exact ⟨i+1,g2,R2,by go_num,by rw [HMMf.out],by omega,by omega,HOKf,HLTf.out,HKB.out⟩
   ·have hin':¬ (i:Int)<(T.n:Int):=by omega
    obtain rfl:i=T.n:=by omega
    have hw1:(T.W T.n).toNat=1:=by rw [HP.out.wn]; rfl
    have HOKN:Hid (T.SynOk (addF P M) (mulF P M m) H (P ^ M) a):=HOK
    obtain ⟨SA,sc,hRS⟩:=(HLT.out.yes 0 (by rw [hw1]; omega) trivial).shape
    have hO:=HLT.out.yes 0 (by rw [hw1]; omega) trivial
    have hg0:=HLT.out.row.cell (i:=0) (by rw [hw1]; omega)
    rw [hRS] at hO hg0;rw [hw1]
    have HSA:=hid (show IntsR w9 w9.heap.size SA a (fun k=>((T.syn (addF P M) (mulF P M m) H T.n 0 k:Nat):Int)) from hO.rd rfl)
    have HK9:=hid (onS HK8.out HKB.out)
    clear HLT HKB HOK hw1 hRS hO
    go_upto_region 22 with fail
    go_loopg [12] a (fun gg kv wx=>∃ k2:Nat,kv=.int .i64 (k2:Nat)/\k2<=a/\a<=k2+gg/\Hid (∀ k',k'<k2->T.syn (addF P M) (mulF P M m) H T.n 0 k'=0)/\wx=w9)
    case atStart=>exact ⟨0,rfl,by omega,by omega,hid fun k' h=>absurd h (by omega),rfl⟩
    case round =>
     obtain ⟨k2,rfl,hk,hkg,HZ,hwx⟩:=hrel
     obtain rfl:w9=wr:=hwx.symm
     have hk0:(0:Int)<=(k2:Int):=by omega
     by_cases hka:k2<a
     ·have hka':(k2:Int)<(a:Int):=by omega
      obtain ⟨sb,so,rfl,_,y0⟩:=HSA.out.at hka
      obtain ⟨y,hy⟩:∃ y,y=T.syn (addF P M) (mulF P M m) H T.n 0 k2:=⟨_,rfl⟩
      rw [<-hy] at y0
      have HY:=hid hy
      clear hy
      by_cases hy0:y=0
      ·have hyb:((y:Int) != 0)=false:=by simp [hy0]
       have HZ2:Hid (∀ k',k'<k2+1->T.syn (addF P M) (mulF P M m) H T.n 0 k'=0):=hid fun k' hk'=>by
        by_cases e:k'=k2
        ·rw [e,<-HY.out,hy0]
        ·exact HZ.out k' (by omega)
       clear hy0
       go_wp2
       go_roundg (gk - 1)
       case measure=>omega
       case rel=>exact ⟨k2+1,by go_num,by omega,by omega,HZ2,rfl⟩
      ·have hyb:((y:Int) != 0)=true:=by simpa using hy0
       have HNO:Hid (¬ ∀ k',k'<a->T.syn (addF P M) (mulF P M m) H T.n 0 k'=0):=hid fun h=>hy0 (by rw [HY.out]; exact h k2 hka)
       clear hy0
       go_wp2
       go_ret
       exact ⟨false,rfl,onS HB.out HK9.out,.inr ⟨rfl,a,H,HREL.out,⟨fun h=>(nomatch h),fun h=>absurd h.2.1 HNO.out⟩⟩⟩
     ·have hka':¬ (k2:Int)<(a:Int):=by omega
      obtain rfl:k2=a:=by omega
      have r9:=(HBOX.out _ HK9.out).1
      have q0:=qc0 r9
      have q1:=qc1 r9
      have q2:=qc2 r9
      have q4:=qc4 r9
      clear r9
      have HORD:=hid (zci HFO.out)
      obtain ⟨Q,hQ⟩:∃ Q,Q=P ^ M:=⟨_,rfl⟩
      have hq256:Q<=256:=by rw [hQ]; exact HQ256.out
      have hq2:2<=Q:=by rw [hQ]; exact HL.out.two
      have hnT:n<=64:=by omega
      have hdq:dl Q<=1:=zga (by omega)
      have hdp:dl (Q ^ n)<=64:=zga (Nat.lt_of_le_of_lt (Nat.le_trans (Nat.pow_le_pow_left hq256 n) (Nat.pow_le_pow_right (by omega) hnT)) (by decide))
      rw [<-hQ] at HORD
      have HQ:=hid hQ
      have HDQ:=hid hdq
      have HDP:=hid hdp
      clear hQ hdq hdp
      go_upto_region 26 with fail
      go_cut [13] (fun v13 wx=>∃ (PA:Option Addr) (pc:Nat),v13=.slice PA (dl (Q ^ n)) pc/\NatOk wx wx.heap.size PA (Q ^ n)/\Below w9.heap.size w9 wx)
      case first =>
       have kb:Below w9.heap.size w9 w9.drew:=(Below.refl _ _).drew
       refine wp_region_held_drew (S:=fun w'=>w'.cell? ⟨b0,0,none⟩=some (.int .i64 (P:Nat))/\w'.cell? ⟨b0,1,none⟩=some (.int .i64 (M:Nat))/\w'.cell? ⟨b0,2,none⟩=some (.slice A k c)/\w'.cell? ⟨b0,4,none⟩=some (.slice TC n d)) (by kernel_rfl) ⟨cellS kb q0,cellS kb q1,cellS kb q2,cellS kb q4⟩ (fun hHeld=>?_)
       obtain ⟨w10,hw⟩:∃ W,W=World.drew w9:=⟨_,rfl⟩
       rw [<-hw] at kb hHeld ⊢;clear hw;replace q0:=cellS kb q0;replace q1:=cellS kb q1;replace q2:=cellS kb q2;replace q4:=cellS kb q4
       have KB:=hid kb
       clear kb
       refine tkq 0 (h:=tkq 1 (h:=tkq 5 (h:=tkq 6 (h:=tkq 7 (h:=?_)))))
       clear hHeld
       refine rdq 2 (h:=fun K hK=>?_)
       go_simp
       go_wp2_with fail
       refine (zb9 (P:Int) (M:Int) A k c w10).mono ?_
       rintro e w11 ⟨rfl,kb⟩
       rw [HORD.out];replace q0:=cellS kb q0;replace q1:=cellS kb q1;replace q2:=cellS kb q2;replace q4:=cellS kb q4;replace KB:=hid (onS KB.out kb);clear kb
       refine bkq hK ⟨q0,q1,q2,q4⟩ (h:=fun hHeld=>?_)
       clear hK K
       refine tkq 3 (h:=?_)
       clear hHeld
       refine rdq 4 (h:=fun K hK=>?_)
       go_simp
       go_wp2_with fail
       rw [show IntKind.u64.wrap (Q:Int)=(Q:Int) from by rw [IntWalk.u64_in _ (by omega)]]
       refine (zeu Q w11 (by omega)).mono ?_
       rintro e w12 ⟨A2,c2,rfl,h1,h2,h3,kb⟩
       have HNO:=hid h3
       have HC2:=hid h1
       have HC3:=hid h2
       replace q0:=cellS kb q0;replace q1:=cellS kb q1;replace q2:=cellS kb q2;replace q4:=cellS kb q4;replace KB:=hid (onS KB.out kb);clear kb h1 h2 h3
       refine bkq hK ⟨q0,q1,q2,q4⟩ (h:=fun hHeld=>?_)
       clear hK K hHeld
       refine rdq 8 (h:=fun K hK=>?_)
       go_simp
       go_wp2_with fail
       refine (zfE A2 c2 Q n w12 HNO.out HC2.out HC3.out (by have:=HDQ.out; omega) (by omega) (by have:=HDP.out; omega)).mono ?_
       rintro e w13 ⟨A3,c3,rfl,h1,h2,h3,kb⟩
       have HNP:=hid h3
       replace q0:=cellS kb q0;replace q1:=cellS kb q1;replace q2:=cellS kb q2;replace q4:=cellS kb q4;replace KB:=hid (onS KB.out kb);clear kb h1 h2 h3 HC2 HC3 HNO
       refine bkq hK ⟨q0,q1,q2,q4⟩ (h:=fun hHeld=>?_)
       clear hK K
       refine tkq 9 (h:=tkq 10 (h:=tkq 11 (h:=tkq 12 (h:=tkq 13 (h:=?_)))))
       refine wpAnyH_done (by kernel_rfl) ?_ _
       clear hHeld
       go_wp2
       go_meet
       exact ⟨A3,c3,rfl,HNP.out,KB.out⟩
      case rest =>
       obtain ⟨PA,pc,rfl,hNP,hB⟩:=hcut
       obtain ⟨w10,hw10⟩:∃ X,X=wc:=⟨_,rfl⟩
       subst hw10
       clear q0 q1 q2 q4
       have r10:=(HBOX.out _ (onS HK9.out hB)).2
       have p0:=qc0 r10
       have p1:=qc1 r10
       have HNP:=hid hNP
       have KB:=hid (onS (onS HB.out HK9.out) hB)
       clear r10 hNP hB
       go_wp2_with fail
       refine (zen T TA TB ca cb w10 (HR.out.on KB.out) HP.out).mono ?_
       rintro e w11 ⟨A4,c4,rfl,h1,h2,h3,kb⟩
       have HN4:=hid h3
       have HC4:=hid h1
       have HC5:=hid h2
       have HN5:=hid (show NatOk w11 w11.heap.size PA (Q ^ n) from HNP.out.on kb)
       replace KB:=hid (onS KB.out kb);clear kb h1 h2 h3 p0 p1
       have HD4:Hid (dl (T.fwd (fun _ _=>1) T.n 0)<=maxLen):=hid (Nat.le_trans HC4.out HC5.out)
       go_wp2_with fail
       refine (zeo A4 PA c4 pc (T.fwd (fun _ _=>1) T.n 0) (Q ^ n) w11 HN4.out HN5.out HD4.out).mono ?_
       rintro e w12 ⟨b,rfl,hb,kb⟩
       replace KB:=hid (onS KB.out kb)
       have HBB:Hid (b=true↔IsTr (P ^ M) k2 (addF P M) (mulF P M m) H T n):=hid (by
        rw [hb,HQ.out]
        exact ⟨fun h=>⟨HOKN.out,HZ.out,h⟩,fun h=>h.2.2⟩)
       clear kb hb
       go_wp2
       go_ret
       exact ⟨b,rfl,KB.out,.inr ⟨rfl,k2,H,HREL.out,HBB.out⟩⟩
def TChk (P M:Int) (k:Nat) (f:Nat->Int) (N:Int) (n:Nat) (ln:Nat->Nat) (V:Nat->Nat->Int) (T:Trel) (v:Int):Prop :=
 (v≠0/\FirstErr (CodeErrs P M k f N n ln V) v) ∨
 (FirstErr (CodeErrs P M k f N n ln V) 0/\((T.properE≠0/\v=T.properE)∨(T.properE=0/\∃ P' M' N':Nat,P=P'/\M=M'/\N=N'/\((T.n≠N'/\v=13) ∨
  (T.n=N'/\∃ a H,NullRel (P' ^ M') (addF P' M') (mulF P' M' fun i=>(f i).toNat) (negF P' M') n N' (natT V) a H/\(v=0∨v=13)/\(v=0↔IsTr (P' ^ M') a (addF P' M') (mulF P' M' fun i=>(f i).toNat) H T n))))))
section
variable {add mul:Nat->Nat->Nat} {H H':Nat->Nat->Nat} {T:Trel} {q a n:Nat}
theorem Trel.synL_congr {S S':Nat->Nat->Nat} {i:Nat} (hi:i<T.n) (hH:∀ k,k<a->∀ i,i<T.n->H k i=H' k i) (hS:∀ v k,k<a->S v k=S' v k):∀ j v k,k<a->T.synL add mul H S i j v k=T.synL add mul H' S' i j v k
 | 0,_,_,_=>rfl
 | j+1,v,k,hk=>by
  show (if (T.to i j).toNat=v then T.synv add mul H S i j k else T.synL add mul H S i j v k)=if (T.to i j).toNat=v then T.synv add mul H' S' i j k else T.synL add mul H' S' i j v k
  unfold Trel.synv
  rw [hS _ k hk,hH k hk i hi,Trel.synL_congr hi hH hS j v k hk]
theorem Trel.syn_congr (hH:∀ k,k<a->∀ i,i<T.n->H k i=H' k i):∀ i,i<=T.n->∀ v k,k<a->T.syn add mul H i v k=T.syn add mul H' i v k
 | 0,_,_,_,_=>rfl
 | i+1,hi,v,k,hk=>Trel.synL_congr (by omega) hH (fun v k hk=>Trel.syn_congr hH i (by omega) v k hk) _ v k hk
theorem IsTr.congr (hH:∀ k,k<a->∀ i,i<T.n->H k i=H' k i) (h:IsTr q a add mul H T n):IsTr q a add mul H' T n:=by
 refine ⟨fun i hi j hj=>⟨(h.1 i hi j hj).1,fun hz k hk=>?_⟩,fun k hk=>?_,h.2.2⟩
 ·have h1:=(h.1 i hi j hj).2 hz k hk
  rw [Trel.synL_congr hi hH (fun v k hk=>Trel.syn_congr hH i (by omega) v k hk) _ _ k hk] at h1
  rw [h1]
  unfold Trel.synv
  rw [Trel.syn_congr hH i (by omega) _ k hk,hH k hk i hi]
 ·rw [<-Trel.syn_congr hH T.n (Nat.le_refl _) _ k hk]
  exact h.2.1 k hk
end
theorem TChk.unique {P M:Int} {A:Option Addr} {k:Nat} {f:Nat->Int} {N:Int} {TC:Option Addr} {n:Nat} {ln:Nat->Nat} {V:Nat->Nat->Int} {T:Trel} {w:World} {u v:Int} (hr:IntsR w w.heap.size A k f) (h:IntRows w TC n ln V)
  (h1:TChk P M k f N n ln V T u) (h2:TChk P M k f N n ln V T v):u=v:=by
 rcases h1 with ⟨a1,b1⟩ | ⟨a1,b1⟩ <;> rcases h2 with ⟨a2,b2⟩ | ⟨a2,b2⟩
 ·exact FirstErr.unique b1 b2
 ·exact absurd (FirstErr.unique b1 a2) a1
 ·exact absurd (FirstErr.unique b2 a1) a2
 ·rcases b1 with ⟨c1,d1⟩ | ⟨c1,P',M',N',rfl,rfl,rfl,d1⟩ <;> rcases b2 with ⟨c2,d2⟩ | ⟨c2,P2,M2,N2,e1,e2,e3,d2⟩
  ·rw [d1,d2]
  ·exact absurd c2 c1
  ·exact absurd c1 c2
  ·obtain rfl:P'=P2:=by omega
   obtain rfl:M'=M2:=by omega
   obtain rfl:N'=N2:=by omega
   rcases d1 with ⟨g1,k1⟩ | ⟨g1,a,H,k1,l1,m1⟩ <;> rcases d2 with ⟨g2,k2⟩ | ⟨g2,a2,H2,k2,l2,m2⟩
   ·rw [k1,k2]
   ·exact absurd g2 g1
   ·exact absurd g1 g2
   ·obtain ⟨P3,M3,N3,x1,x2,x3,hC⟩:=zc7 hr h a1
    obtain rfl:P'=P3:=by omega
    obtain rfl:M'=M3:=by omega
    obtain rfl:N'=N3:=by omega
    obtain ⟨s1,s2⟩:=NullRel.same (fieldLaws hC.fld) (fun x _=>⟨zbf (by have:=hC.fld.1.1; omega),za0 (by have:=hC.fld.1.1; omega)⟩) hC.lt k1 k2
    subst s1 g1
    have hiff:u=0↔v=0:=by
     rw [m1,m2]
     exact ⟨IsTr.congr s2,IsTr.congr fun k hk i hi=>(s2 k hk i hi).symm⟩
    rcases l1 with l1 | l1 <;> rcases l2 with l2 | l2 <;> omega
theorem zdk (P M:Int) (A:Option Addr) (k c:Nat) (f:Nat->Int) (N:Int) (TC:Option Addr) (n d:Nat) (ln:Nat->Nat) (V:Nat->Nat->Int) (T:Trel) (TA TB:Option Addr) (ca cb:Nat) (w:World) (hr:IntsR w w.heap.size A k f) (h:IntRows w TC n ln V) (hT:T.Reads w TA TB) :
  Calls Tryz.prog 48 #[.agg #[.int .i64 P,.int .i64 M,.slice A k c,.int .i64 N,.slice TC n d],.agg #[.slice TA T.nw ca,.slice TB T.n cb]] w fun e w'=>∃ v:Int,e=.returned (.int .i64 v)/\TChk P M k f N n ln V T v/\Below w.heap.size w w':=by
 have HI:=hid hr
 have HT:=hid h
 have HR:=hid hT
 clear hr h hT
 have rf:=zav (w:=w) (a:=.int .i64 P) (b:=.int .i64 M) (c:=.slice A k c) (d:=.int .i64 N) (e:=.slice TC n d) (T := 27)
 have hB:Below w.heap.size w (w.alloc (.cells #[.int .i64 P,.int .i64 M,.slice A k c,.int .i64 N,.slice TC n d] 27)):=(Below.refl _ _).alloc (Nat.le_refl _) _
 obtain ⟨w1,hw1⟩:∃ W,W=w.alloc (.cells #[.int .i64 P,.int .i64 M,.slice A k c,.int .i64 N,.slice TC n d] 27):=⟨_,rfl⟩
 rw [<-hw1] at hB rf
 have rt:=zai (w:=w1) (a:=.slice TA T.nw ca) (b:=.slice TB T.n cb) (T := 74)
 have kb:Below w1.heap.size w1 (w1.alloc (.cells #[.slice TA T.nw ca,.slice TB T.n cb] 74)):=(Below.refl _ _).alloc (Nat.le_refl _) _
 obtain ⟨w2,hw2⟩:∃ W,W=w1.alloc (.cells #[.slice TA T.nw ca,.slice TB T.n cb] 74):=⟨_,rfl⟩
 rw [<-hw2] at kb rt;replace rf:=zaa rf kb;replace hB:=onS hB kb
 have hsz1:w1.heap.size=w.heap.size+1:=by rw [hw1]; simp
 rw [hsz1] at rt
 go_enter Tryz.func48, Tryz.ntmps48
 go_upto_region 1 with fail
 rw [<-hw1,<-hw2];clear hw1 hw2 kb hsz1
 obtain ⟨b0,hb0⟩:∃ b,b=w.heap.size:=⟨_,rfl⟩
 obtain ⟨b1,hb1⟩:∃ b,b=w.heap.size+1:=⟨_,rfl⟩
 rw [<-hb0] at rf;rw [<-hb1] at rt;rw [<-hb1,<-hb0];clear hb0 hb1
 have HBOX:Hid (∀ X,Below w2.heap.size w2 X->X.rowIs b0 27 5 (codCell (.int .i64 P) (.int .i64 M) (.slice A k c) (.int .i64 N) (.slice TC n d))/\X.rowIs b1 74 2 (matCell (.slice TA T.nw ca) (.slice TB T.n cb))):=hid fun X hx=>⟨zaa rf hx,zaa rt hx⟩
 have HB:=hid hB
 clear hB rt
 have q0:=qc0 rf
 have q1:=qc1 rf
 have q2:=qc2 rf
 have q3:=qc3 rf
 have q4:=qc4 rf
 clear rf
 go_wp2_with fail
 refine (ze2 P M A k c f N TC n d ln V w2 (HI.out.on HB.out) (HT.out.on HB.out)).mono ?_
 rintro e w3 ⟨v,rfl,hv,kb⟩
 have KB:=hid kb
 have HV:=hid hv
 clear q0 q1 q2 q3 q4 kb hv
 by_cases hv0:v=0
 rotate_left
 ·have hvb:(v == 0)=false:=by simpa using hv0
  have HV0:=hid hv0
  clear hv0
  go_wp2
  go_ret
  exact ⟨v,rfl,.inl ⟨HV0.out,HV.out⟩,onS HB.out KB.out⟩
 subst hv0
 obtain ⟨P',M',N',rfl,rfl,rfl,hC⟩:=zc7 HI.out HT.out HV.out
 have HC:=hid hC
 clear hC
 have r3:=HBOX.out _ KB.out
 have p0:=qc0 r3.2
 have p1:=qc1 r3.2
 clear r3
 go_wp2_with fail
 refine (zdN T TA TB ca cb w3 (HR.out.on (onS HB.out KB.out))).mono ?_
 rintro e w4 ⟨rfl,kb⟩
 replace KB:=hid (onS KB.out kb);clear kb p0 p1
 obtain ⟨u,hu⟩:∃ u,u=T.properE:=⟨_,rfl⟩
 rw [<-hu]
 by_cases hu0:u=0
 rotate_left
 ·have hub:(u == 0)=false:=by simpa using hu0
  have HU:Hid (T.properE≠0/\u=T.properE):=hid ⟨by rw [<-hu]; exact hu0,hu⟩
  clear hu hu0
  go_wp2
  go_ret
  exact ⟨u,rfl,.inr ⟨HV.out,.inl HU.out⟩,onS HB.out KB.out⟩
 subst hu0
 have HPE:Hid (T.properE=0):=hid hu.symm
 have HP:=hid (Trel.proper_of HPE.out)
 clear hu
 have r4:=HBOX.out _ KB.out
 have q0:=qc0 r4.1
 have q1:=qc1 r4.1
 have q2:=qc2 r4.1
 have q3:=qc3 r4.1
 have q4:=qc4 r4.1
 have p0:=qc0 r4.2
 have p1:=qc1 r4.2
 clear r4
 go_wp2_with fail
 refine (zgJ P' M' (fun i=>(f i).toNat) A k c N' TC n d (natT V) T TA TB ca cb w4 (HC.out.on (onS HB.out KB.out)) (HR.out.on (onS HB.out KB.out)) HP.out).mono ?_
 rintro e w5 ⟨b,rfl,kb,hb⟩
 replace KB:=hid (onS KB.out kb)
 have HBB:=hid hb
 clear kb hb q0 q1 q2 q3 q4 p0 p1
 cases b with
 | false =>
  go_wp2
  go_ret
  refine ⟨13,rfl,.inr ⟨HV.out,.inr ⟨HPE.out,P',M',N',rfl,rfl,rfl,?_⟩⟩,onS HB.out KB.out⟩
  rcases HBB.out with ⟨h1,_⟩ | ⟨h1,a,H,h2,h3⟩
  ·exact .inl ⟨h1,rfl⟩
  ·exact .inr ⟨h1,a,H,h2,.inr rfl,⟨fun h=>absurd h (by omega),fun h=>(nomatch h3.2 h)⟩⟩
 | true =>
  go_wp2
  go_ret
  refine ⟨0,rfl,.inr ⟨HV.out,.inr ⟨HPE.out,P',M',N',rfl,rfl,rfl,?_⟩⟩,onS HB.out KB.out⟩
  rcases HBB.out with ⟨_,h1⟩ | ⟨h1,a,H,h2,h3⟩
  ·cases h1
  ·exact .inr ⟨h1,a,H,h2,.inl rfl,⟨fun _=>h3.1 trivial,fun _=>rfl⟩⟩
theorem zdU (x:Int) (w:World):Calls Tryz.prog 119 #[.int .i64 x] w fun e w'=>e=.returned (.bool (x != 0))/\w=w':=by
 go_enter Tryz.func119, Tryz.ntmps119
 go_wp2
 go_ret
 exact ⟨rfl,rfl⟩
def idxP (p:Int->Bool) (f:Nat->Int):Nat->Int
 | 0 => -1
 | k+1=>if 0<=idxP p f k then idxP p f k else if p (f k) then k else -1
theorem zeQ {p:Int->Bool} {f:Nat->Int} {k:Nat} (h:idxP p f k = -1) (hp:p (f k)=false):idxP p f (k+1) = -1:=by simp [idxP,h,hp]
theorem zf8 {p:Int->Bool} {f:Nat->Int} {k n:Nat} (h:idxP p f k = -1) (hp:p (f k)=true) (hn:k<n):idxP p f n=k:=by
 induction n with
 | zero=>omega
 | succ n ih =>
  by_cases e:k=n
  ·subst e; simp [idxP,h,hp]
  ·have:=ih (by omega); simp [idxP,this]
theorem zgK (p:Int->Bool) (f:Nat->Int) (n:Nat):(idxP p f n = -1/\∀ i,i<n->p (f i)=false)∨(∃ i,i<n/\idxP p f n=i/\p (f i)=true):=by
 induction n with
 | zero=>exact .inl ⟨rfl,fun i hi=>absurd hi (by omega)⟩
 | succ n ih =>
  rcases ih with ⟨h1,h2⟩ | ⟨i,hi,h1,h2⟩
  ·cases hp:p (f n)
   ·refine .inl ⟨zeQ h1 hp,fun i hi=>?_⟩
    by_cases e:i=n
    ·subst e; exact hp
    ·exact h2 i (by omega)
   ·exact .inr ⟨n,by omega,zf8 h1 hp (by omega),hp⟩
  ·exact .inr ⟨i,by omega,by simp [idxP,h1],h2⟩
theorem zdl (fid:Nat) (p:Int->Bool) (hcf:∀ (x:Value) (W:World),(callFunc fid #[x]).run Tryz.prog W=.ok (.enter fid #[x]) W) (hp:∀ (x:Int) (W:World),Calls Tryz.prog fid #[.int .i64 x] W fun e W'=>e=.returned (.bool (p x))/\W=W')
  (F:Option Addr) (n d:Nat) (f:Nat->Int) (w:World) (hf:IntsR w w.heap.size F n f) (hn:n<=1024) :
  Calls Tryz.prog 190 #[.slice F n d,.func (.func fid) #[] #[]] w fun e w'=>e=.returned (.int .i64 (idxP p f n))/\w=w':=by
 have HP:=hid hp
 clear hp
 go_enter Tryz.func190, Tryz.ntmps190
 go_wp2
 go_loopw [8] (fun i wr=>∃ k:Nat,k<=n/\i=.int .i64 k/\idxP p f k = -1/\w=wr) (fun i _=>n - (intOf i).toNat)
 case atStart=>exact ⟨0,by omega,rfl,rfl,rfl⟩
 case round =>
  obtain ⟨k,hk,rfl,hi,rfl⟩:=hrel
  have hi':=hid hi
  clear hi
  by_cases hlt:k<n
  ·obtain ⟨b,off,rfl,hb,e0⟩:=hf.at hlt
   cases hq:p (f k)
   ·have HQ:=hid hq
    clear hq
    go_wp2_with fail
    refine (HP.out _ _).mono ?_
    rintro e w1 ⟨rfl,rfl⟩
    rw [HQ.out]
    go_wp2
    go_roundw
    case rel=>exact ⟨k+1,by omega,by go_num,zeQ hi'.out HQ.out,by first | trivial | rfl⟩
    case measure=>simp [intOf]; omega
   ·have HQ:=hid hq
    clear hq
    go_wp2_with fail
    refine (HP.out _ _).mono ?_
    rintro e w1 ⟨rfl,rfl⟩
    rw [HQ.out]
    go_wp2
    go_ret
    exact ⟨zaf (zf8 hi'.out HQ.out hlt).symm,rfl⟩
  ·obtain rfl:k=n:=by omega
   go_wp2
   go_ret
   exact ⟨zaf hi'.out.symm,rfl⟩
theorem zdm (F:Option Addr) (n d:Nat) (f:Nat->Int) (w:World) (hf:IntsR w w.heap.size F n f) (hn:n<=1024) :
  Calls Tryz.prog 118 #[.slice F n d,.func (.func 119) #[] #[]] w fun e w'=>∃ b:Bool,e=.returned (.bool b)/\(b=true↔∃ i,i<n/\f i≠0)/\w=w':=by
 go_enter Tryz.func118, Tryz.ntmps118
 go_wp2_with fail
 refine (zdl 119 (fun x=>x != 0) (fun _ _=>by kernel_rfl) zdU F n d f w hf hn).mono ?_
 rintro e w1 ⟨rfl,rfl⟩
 obtain ⟨z,hz⟩:∃ z,z=idxP (fun x=>x != 0) f n:=⟨_,rfl⟩
 have hs:=zgK (fun x=>x != 0) f n
 rw [<-hz] at hs ⊢
 have hd:decide (0<=z)=true↔∃ i,i<n/\f i≠0:=by
  rw [decide_eq_true_iff]
  rcases hs with ⟨h1,h2⟩ | ⟨i,hi,h1,h2⟩
  ·refine ⟨fun h=>by omega,fun ⟨i,hi,h⟩=>?_⟩
   have:=h2 i hi
   simp at this
   exact absurd this h
  ·exact ⟨fun _=>⟨i,hi,by simpa using h2⟩,fun _=>by omega⟩
 have HD:=hid hd
 clear hs hd hz
 go_wp2
 go_ret
 exact ⟨_,rfl,HD.out,rfl⟩
theorem zf9 (P M:Int) (A:Option Addr) (k c:Nat) (f:Nat->Int) (N:Int) (TC:Option Addr) (n d:Nat) (ln:Nat->Nat) (V:Nat->Nat->Int) (T:Trel) (TA TB:Option Addr) (ca cb:Nat) (w:World) (hr:IntsR w w.heap.size A k f) (h:IntRows w TC n ln V) (hkc:k<=c) (hT:T.Reads w TA TB) :
  Calls Tryz.prog 47 #[.agg #[.int .i64 P,.int .i64 M,.slice A k c,.int .i64 N,.slice TC n d],.agg #[.slice TA T.nw ca,.slice TB T.n cb]] w fun e w'=>∃ v:Int,e=.returned (.int .i64 v)/\TChk P M k f N n ln V T v/\Below w.heap.size w w':=by
 have HI:=hid hr
 have HT:=hid h
 have HR:=hid hT
 clear hr h hT
 have rf:=zav (w:=w) (a:=.int .i64 P) (b:=.int .i64 M) (c:=.slice A k c) (d:=.int .i64 N) (e:=.slice TC n d) (T := 27)
 have hB:Below w.heap.size w (w.alloc (.cells #[.int .i64 P,.int .i64 M,.slice A k c,.int .i64 N,.slice TC n d] 27)):=(Below.refl _ _).alloc (Nat.le_refl _) _
 obtain ⟨w1,hw1⟩:∃ W,W=w.alloc (.cells #[.int .i64 P,.int .i64 M,.slice A k c,.int .i64 N,.slice TC n d] 27):=⟨_,rfl⟩
 rw [<-hw1] at hB rf
 have rt:=zai (w:=w1) (a:=.slice TA T.nw ca) (b:=.slice TB T.n cb) (T := 74)
 have kb:Below w1.heap.size w1 (w1.alloc (.cells #[.slice TA T.nw ca,.slice TB T.n cb] 74)):=(Below.refl _ _).alloc (Nat.le_refl _) _
 obtain ⟨w2,hw2⟩:∃ W,W=w1.alloc (.cells #[.slice TA T.nw ca,.slice TB T.n cb] 74):=⟨_,rfl⟩
 rw [<-hw2] at kb rt;replace rf:=zaa rf kb;replace hB:=onS hB kb
 have hsz1:w1.heap.size=w.heap.size+1:=by rw [hw1]; simp
 rw [hsz1] at rt
 go_enter Tryz.func47, Tryz.ntmps47
 go_upto_region 1 with fail
 rw [<-hw1,<-hw2];clear hw1 hw2 kb hsz1
 obtain ⟨b0,hb0⟩:∃ b,b=w.heap.size:=⟨_,rfl⟩
 obtain ⟨b1,hb1⟩:∃ b,b=w.heap.size+1:=⟨_,rfl⟩
 rw [<-hb0] at rf;rw [<-hb1] at rt;rw [<-hb1,<-hb0];clear hb0 hb1
 have HBOX:Hid (∀ X,Below w2.heap.size w2 X->X.rowIs b0 27 5 (codCell (.int .i64 P) (.int .i64 M) (.slice A k c) (.int .i64 N) (.slice TC n d))/\X.rowIs b1 74 2 (matCell (.slice TA T.nw ca) (.slice TB T.n cb))):=hid fun X hx=>⟨zaa rf hx,zaa rt hx⟩
 have HB:=hid hB
 clear hB rt
 have q0:=qc0 rf
 have q1:=qc1 rf
 have q2:=qc2 rf
 have q3:=qc3 rf
 have q4:=qc4 rf
 clear rf
 go_wp2_with fail
 refine (zgC P M A k c f N TC n d ln V w2 (HI.out.on HB.out) (HT.out.on HB.out) hkc).mono ?_
 rintro e w3 ⟨kb,v,hv,hcase⟩
 have HV:=hid hv
 have KB:=hid kb
 clear kb hv q0 q1 q2 q3 q4
 rcases hcase with ⟨hv0,rfl⟩ | ⟨rfl,P',M',N',rfl,rfl,rfl,hD⟩
 ·have hvn:(v != 0)=true:=by simpa using hv0
  have HV0:=hid hv0
  clear hv0
  have hB2:=(onS HB.out KB.out).alloc (onS HB.out KB.out).size (.cells #[.int .i64 0,.int .i64 0,.slice none 0 0,.int .i64 0,.slice none 0 0] 27)
  have HB2:=hid hB2
  clear hB2
  go_wp2
  go_ret
  exact ⟨v,rfl,.inl ⟨HV0.out,HV.out⟩,HB2.out⟩
 obtain ⟨dv,lv,a,H,rfl,hdO,hM,_,hrel⟩:=hD
 obtain ⟨P2,M2,N2,hP2,hM2,hN2,hC⟩:=zc7 HI.out HT.out HV.out
 obtain rfl:P'=P2:=by omega
 obtain rfl:M'=M2:=by omega
 obtain rfl:N'=N2:=by omega
 clear hP2 hM2 hN2
 have HC:=hid hC
 have hN:=hC.ln2
 have hN1:=hC.ln1
 have HL:=hid (fieldLaws hC.fld)
 have HFO:=hid hC.fld.1
 have hnN:=hC.n_le
 have hcnt:=hrel.count HL.out (fun x _=>⟨zbf (by have:=HFO.out.1; omega),za0 (by have:=HFO.out.1; omega)⟩) hC.rref
 have HREL:=hid hrel
 have HWL:=hid hrel.rref.choose_spec.lt
 obtain ⟨DA,dc,hdv⟩:=hdO.shape
 subst hdv
 obtain ⟨LA,lc,hlv⟩:=hM.shape
 subst hlv
 clear hC hrel hdO
 obtain ⟨b6,hb6⟩:∃ b,b=w3.heap.size:=⟨_,rfl⟩
 have rd:=zav (w:=w3) (a:=.int .i64 (P':Nat)) (b:=.int .i64 (M':Nat)) (c:=.slice DA k dc) (d:=.int .i64 (N':Nat)) (e:=.slice LA a lc) (T := 27)
 have kb:Below w3.heap.size w3 (w3.alloc (.cells #[.int .i64 (P':Nat),.int .i64 (M':Nat),.slice DA k dc,.int .i64 (N':Nat),.slice LA a lc] 27)):=(Below.refl _ _).alloc (Nat.le_refl _) _
 obtain ⟨w4,hw4⟩:∃ W,W=w3.alloc (.cells #[.int .i64 (P':Nat),.int .i64 (M':Nat),.slice DA k dc,.int .i64 (N':Nat),.slice LA a lc] 27):=⟨_,rfl⟩
 rw [<-hw4] at rd kb
 have r4:=(HBOX.out _ (onS KB.out kb)).2
 have p0:=qc0 r4
 have p1:=qc1 r4
 have hMR:MRows w4 LA a N' H:=MTab.rd (hM.on kb) HFO.out.2.2.2 HWL.out
 go_upto_region 4 with fail
 rw [<-hw4,<-hb6];rw [<-hb6] at rd;clear hw4 hb6
 have HM:=hid hMR
 replace KB:=hid (onS KB.out kb)
 have HRD:Hid (∀ X,Below w4.heap.size w4 X->X.rowIs b6 27 5 (codCell (.int .i64 (P':Nat)) (.int .i64 (M':Nat)) (.slice DA k dc) (.int .i64 (N':Nat)) (.slice LA a lc))):=hid fun X hx=>zaa rd hx
 clear kb hM hMR rd r4
 go_wp2_with fail
 refine (zdO T TA TB ca cb w4 (HR.out.on (onS HB.out KB.out))).mono ?_
 rintro e w5 ⟨rfl,kb⟩
 have K4:=hid kb
 clear kb p0 p1
 obtain ⟨u,hu⟩:∃ u,u=T.properE:=⟨_,rfl⟩
 rw [<-hu]
 by_cases hu0:u=0
 rotate_left
 ·have hub:(u != 0)=true:=by simpa using hu0
  have HU:Hid (T.properE≠0/\u=T.properE):=hid ⟨by rw [<-hu]; exact hu0,hu⟩
  clear hu hu0
  go_wp2
  go_ret
  exact ⟨u,rfl,.inr ⟨HV.out,.inl HU.out⟩,onS (onS HB.out KB.out) K4.out⟩
 subst hu0
 have HPE:Hid (T.properE=0):=hid hu.symm
 have HP:=hid (Trel.proper_of HPE.out)
 clear hu
 have r5:=HBOX.out _ (onS KB.out K4.out)
 have p1:=qc1 r5.2
 have q3:=qc3 r5.1
 by_cases hTN:T.n=N'
 rotate_left
 ·have hne:((T.n:Int) != (N':Int))=true:=by simp; omega
  have HTN:=hid hTN
  clear r5 hTN
  go_wp2
  go_ret
  exact ⟨13,rfl,.inr ⟨HV.out,.inr ⟨HPE.out,P',M',N',rfl,rfl,rfl,.inl ⟨HTN.out,rfl⟩⟩⟩,onS (onS HB.out KB.out) K4.out⟩
 have hne:((T.n:Int) != (N':Int))=false:=by simp; omega
 have hne:((T.n:Int) != (T.n:Int))=false:=by simp
 subst hTN
 go_upto_region 9 with fail
 have q0:=qc0 r5.1
 have q1:=qc1 r5.1
 have q2:=qc2 r5.1
 clear r5 hne p1
 go_wp2_with fail
 refine (zdf (P':Int) (M':Int) A k c f w5 (HI.out.on (onS (onS HB.out KB.out) K4.out))).mono ?_
 rintro e w6 ⟨kb,hcase⟩
 rcases hcase with ⟨hbad,_⟩ | ⟨_,g,P2,M2,hP2,hM2,rfl,_,hG⟩
 ·refine absurd ?_ hbad
  rcases HV.out with ⟨_,h9⟩ | ⟨h1,_⟩
  ·cases h9
  ·exact h1
 obtain rfl:P'=P2:=by omega
 obtain rfl:M'=M2:=by omega
 have HG:=hid hG.gf
 replace K4:=hid (onS K4.out kb);clear kb q0 q1 q2 q3 hP2 hM2 hG
 have r6:=HRD.out _ K4.out
 have y2:=qc4 r6
 have s6:=HBOX.out _ (onS KB.out K4.out)
 have p0:=qc0 s6.2
 have p1:=qc1 s6.2
 clear r6 s6
 go_wp2_with fail
 refine (zdR T TA TB LA ca cb lc a (P' ^ M') H w6 (hid rfl) HG.out (HR.out.on (onS (onS HB.out KB.out) K4.out)) HP.out (HM.out.on K4.out) HWL.out (by omega)).mono ?_
 rintro e w7 ⟨kb,hcase⟩
 replace K4:=hid (onS K4.out kb);replace HG:=hid (HG.out.on kb);clear kb y2 p0 p1
 rcases hcase with ⟨hok,go,gg,R,rfl,hcell,hLT⟩ | ⟨hno,rfl⟩
 rotate_left
 ·have HNO:=hid hno
  clear hno
  go_wp2
  go_ret
  exact ⟨13,rfl,.inr ⟨HV.out,.inr ⟨HPE.out,P',M',T.n,rfl,rfl,rfl,.inr ⟨rfl,a,H,HREL.out,.inr rfl,⟨fun h=>absurd h (by omega),fun h=>absurd h.1 HNO.out⟩⟩⟩⟩,onS (onS HB.out KB.out) K4.out⟩
 have HOK:=hid hok
 have hw1:(T.W T.n).toNat=1:=by rw [HP.out.wn]; rfl
 rw [hw1] at hcell hLT
 obtain ⟨SA,sc,hRS⟩:=(hLT.yes 0 (by omega) trivial).shape
 have hO:=hLT.yes 0 (by omega) trivial
 have hg0:=hLT.row.cell (i:=0) (by omega)
 rw [hRS] at hO hg0
 have HSA:=hid (show IntsR w7 w7.heap.size SA a (fun k=>((T.syn (addF P' M') (mulF P' M' fun i=>(f i).toNat) H T.n 0 k:Nat):Int)) from hO.rd rfl)
 have HNW:=hid HP.out.shape.nw
 have hnw2:(T.n:Int)<(T.nw:Int):=by have:=HNW.out; omega
 have hn0:(0:Int)<=(T.n:Int):=by omega
 have r7:=HBOX.out _ (onS KB.out K4.out)
 have q3:=qc3 r7.1
 clear hw1 hLT hRS hO hok r7
 go_wp2_with fail
 refine (zdm SA a sc _ w7 HSA.out (by omega)).mono ?_
 rintro e w8 ⟨b,rfl,hb,rfl⟩
 have HBB:=hid hb
 clear hb hcell hg0 q3
 cases b with
 | true =>
  have HNO:Hid (¬ ∀ k,k<a->T.syn (addF P' M') (mulF P' M' fun i=>(f i).toNat) H T.n 0 k=0):=hid fun h=>by
   obtain ⟨i,hi,h1⟩:=HBB.out.1 rfl
   exact h1 (by rw [h i hi]; rfl)
  go_wp2
  go_ret
  exact ⟨13,rfl,.inr ⟨HV.out,.inr ⟨HPE.out,P',M',T.n,rfl,rfl,rfl,.inr ⟨rfl,a,H,HREL.out,.inr rfl,⟨fun h=>absurd h (by omega),fun h=>absurd h.2.1 HNO.out⟩⟩⟩⟩,onS (onS HB.out KB.out) K4.out⟩
 | false =>
  have HZ:Hid (∀ k,k<a->T.syn (addF P' M') (mulF P' M' fun i=>(f i).toNat) H T.n 0 k=0):=hid fun k hk=>by
   by_cases hz:T.syn (addF P' M') (mulF P' M' fun i=>(f i).toNat) H T.n 0 k=0
   ·exact hz
   ·exact nomatch HBB.out.2 ⟨k,hk,by show ((T.syn (addF P' M') (mulF P' M' fun i=>(f i).toNat) H T.n 0 k:Nat):Int)≠0; omega⟩
  have s6:=HBOX.out _ (onS KB.out K4.out)
  have p0:=qc0 s6.2
  have p1:=qc1 s6.2
  clear s6 HSA HBB hnw2 hn0
  go_wp2_with fail
  refine (zeO T TA TB ca cb w7 (HR.out.on (onS (onS HB.out KB.out) K4.out))).mono ?_
  rintro e w8 hpp
  rcases hpp with ⟨hbad,_⟩ | ⟨_,A4,c4,rfl,g1,g2,g3,kb⟩
  ·exact absurd HPE.out hbad
  have HN4:=hid g3
  have HG1:=hid g1
  have HG2:=hid g2
  replace K4:=hid (onS K4.out kb);replace HG:=hid (HG.out.on kb);clear kb g1 g2 g3 p0 p1
  have q4:w8.cell? ⟨b0,4,none⟩=some (.slice TC n d):=((HBOX.out _ (onS KB.out K4.out)).1).cell (i:=4) (by omega)
  have HD4:Hid (∃ Q,Q=P' ^ M'):=hid ⟨_,rfl⟩
  obtain ⟨Q,hQ⟩:=HD4.out
  have hq256:Q<=256:=by rw [hQ]; exact HFO.out.2.2.2
  have hq2:2<=Q:=by rw [hQ]; exact HL.out.two
  have hnT:n<=64:=by omega
  have hdq:dl Q<=1:=zga (by omega)
  have hnl:nlen Q<=9:=zet (by omega)
  have hnl2:nlen Q<=1∨(nlen Q - 1)*n<131072:=.inr (Nat.lt_of_le_of_lt (Nat.mul_le_mul (by omega:nlen Q - 1<=8) hnT) (by decide))
  have hdp:dl (Q ^ n)<=64:=zga (Nat.lt_of_le_of_lt (Nat.le_trans (Nat.pow_le_pow_left hq256 n) (Nat.pow_le_pow_right (by omega) hnT)) (by decide))
  have HORD:Hid (∀ W,GF W W.heap.size g P' M' (fun i=>(f i).toNat)->Calls Tryz.prog 98 #[.pointer (some ⟨g,0,none⟩)] W fun e w'=>e=.returned (.int .i64 (Q:Nat))/\Below W.heap.size W w'):=hid fun W hW=>by rw [hQ]; exact zgv hW
  have HQ:=hid hQ
  have HDQ:=hid hdq
  have HNL:=hid hnl2
  have HDP:=hid hdp
  clear hQ hdq hdp hnl hnl2 HD4
  go_upto_region 14 with fail
  go_cut [14] (fun v14 wx=>∃ (PA:Option Addr) (pc:Nat),v14=.slice PA (dl (Q ^ n)) pc/\dl (Q ^ n)<=pc/\pc<=maxLen/\NatOk wx wx.heap.size PA (Q ^ n)/\Below w8.heap.size w8 wx)
  case first =>
   have kb:Below w8.heap.size w8 w8.drew:=(Below.refl _ _).drew
   refine wp_region_held_drew (S:=fun w'=>w'.cell? ⟨b0,4,none⟩=some (.slice TC n d)) (by kernel_rfl) (cellS kb q4) (fun hHeld=>?_)
   obtain ⟨w10,hw⟩:∃ W,W=World.drew w8:=⟨_,rfl⟩
   rw [<-hw] at kb hHeld ⊢;clear hw;replace q4:=cellS kb q4
   have K8:=hid kb
   have HG8:=hid (HG.out.on kb)
   clear kb
   refine tkq 0 (h:=tkq 4 (h:=tkq 5 (h:=tkq 6 (h:=?_))))
   clear hHeld
   refine rdq 1 (h:=fun K hK=>?_)
   go_simp
   go_wp2_with fail
   refine (HORD.out w10 HG8.out).mono ?_
   rintro e w11 ⟨rfl,kb⟩
   replace q4:=cellS kb q4;replace K8:=hid (onS K8.out kb);clear kb
   refine bkq hK q4 (h:=fun hHeld=>?_)
   clear hK K
   refine tkq 2 (h:=?_)
   clear hHeld
   refine rdq 3 (h:=fun K hK=>?_)
   go_simp
   go_wp2_with fail
   rw [show IntKind.u64.wrap (Q:Int)=(Q:Int) from by rw [IntWalk.u64_in _ (by omega)]]
   refine (zcd Q w11 (by omega)).mono ?_
   rintro e w12 ⟨A2,c2,rfl,h1,h2,h3,kb⟩
   have HNO:=hid h3
   have HC2:=hid h1
   have HC3:=hid h2
   replace q4:=cellS kb q4;replace K8:=hid (onS K8.out kb);clear kb h1 h2 h3
   refine bkq hK q4 (h:=fun hHeld=>?_)
   clear hK K hHeld
   refine rdq 7 (h:=fun K hK=>?_)
   go_simp
   go_wp2_with fail
   refine (zfD A2 c2 Q n w12 HNO.out HC2.out HC3.out (by have:=HDQ.out; omega) (by omega) HNL.out (by have:=HDP.out; omega)).mono ?_
   rintro e w13 ⟨A3,c3,rfl,h1,h2,h3,kb⟩
   have HNP:=hid h3
   have HC6:=hid h1
   have HC7:=hid h2
   replace q4:=cellS kb q4;replace K8:=hid (onS K8.out kb);clear kb h1 h2 h3 HC2 HC3 HNO
   refine bkq hK q4 (h:=fun hHeld=>?_)
   clear hK K
   refine tkq 8 (h:=tkq 9 (h:=tkq 10 (h:=tkq 11 (h:=tkq 12 (h:=?_)))))
   refine wpAnyH_done (by kernel_rfl) ?_ _
   clear hHeld
   go_wp2
   go_meet
   exact ⟨A3,c3,rfl,HC6.out,HC7.out,HNP.out,K8.out⟩
  case rest =>
   obtain ⟨PA,pc,rfl,hp1,hp2,hNP,hB⟩:=hcut
   obtain ⟨w10,hw10⟩:∃ X,X=wc:=⟨_,rfl⟩
   subst hw10
   have HNP:=hid hNP
   have HP1:=hid hp1
   have HP2:=hid hp2
   have HN5:=hid (show NatOk w10 w10.heap.size A4 (T.fwd (fun _ _=>1) T.n 0) from HN4.out.on hB)
   replace K4:=hid (onS K4.out hB);clear q4 hNP hp1 hp2 hB
   go_wp2_with fail
   refine (zfG A4 PA c4 pc (T.fwd (fun _ _=>1) T.n 0) (Q ^ n) w10 HN5.out HNP.out HG1.out HG2.out HP1.out HP2.out (by have:=HDP.out; omega)).mono ?_
   rintro e w11 ⟨rfl,kb⟩
   replace K4:=hid (onS K4.out kb);clear kb
   obtain ⟨z,hz⟩:∃ z,z=cmpN (T.fwd (fun _ _=>1) T.n 0) (Q ^ n):=⟨_,rfl⟩
   rw [<-hz]
   have hzz:z=0↔IsTr (P' ^ M') a (addF P' M') (mulF P' M' fun i=>(f i).toNat) H T n:=by
    have h0:z=0↔T.fwd (fun _ _=>1) T.n 0=Q ^ n:=by
     rw [hz]
     unfold cmpN
     split
     ·exact ⟨fun h=>absurd h (by omega),fun h=>absurd h (by omega)⟩
     ·split
      ·exact ⟨fun h=>absurd h (by omega),fun h=>absurd h (by omega)⟩
      ·exact ⟨fun _=>by omega,fun _=>rfl⟩
    rw [h0,HQ.out]
    exact ⟨fun h=>⟨HOK.out,HZ.out,h⟩,fun h=>h.2.2⟩
   have HZZ:=hid hzz
   clear hz hzz
   by_cases hz0:z=0
   ·have hzb:(z != 0)=false:=by simp [hz0]
    have HT0:=hid (HZZ.out.1 hz0)
    clear hz0
    go_wp2
    go_ret
    exact ⟨0,rfl,.inr ⟨HV.out,.inr ⟨HPE.out,P',M',T.n,rfl,rfl,rfl,.inr ⟨rfl,a,H,HREL.out,.inl rfl,⟨fun _=>HT0.out,fun _=>rfl⟩⟩⟩⟩,onS (onS HB.out KB.out) K4.out⟩
   ·have hzb:(z != 0)=true:=by simpa using hz0
    have HT0:Hid (¬ IsTr (P' ^ M') a (addF P' M') (mulF P' M' fun i=>(f i).toNat) H T n):=hid fun h=>hz0 (HZZ.out.2 h)
    clear hz0
    go_wp2
    go_ret
    exact ⟨13,rfl,.inr ⟨HV.out,.inr ⟨HPE.out,P',M',T.n,rfl,rfl,rfl,.inr ⟨rfl,a,H,HREL.out,.inr rfl,⟨fun h=>absurd h (by omega),fun h=>absurd h HT0.out⟩⟩⟩⟩,onS (onS HB.out KB.out) K4.out⟩
theorem zb8 (P M:Int) (A:Option Addr) (k c:Nat) (f:Nat->Int) (N:Int) (TC:Option Addr) (n d:Nat) (ln:Nat->Nat) (V:Nat->Nat->Int) (T:Trel) (TA TB:Option Addr) (ca cb:Nat) (w:World) (hr:IntsR w w.heap.size A k f) (h:IntRows w TC n ln V) (hkc:k<=c) (hT:T.Reads w TA TB) :
  Calls Tryz.prog 8 #[.agg #[.int .i64 P,.int .i64 M,.slice A k c,.int .i64 N,.slice TC n d],.agg #[.slice TA T.nw ca,.slice TB T.n cb]] w fun e w'=>e=.returned (.bool true)/\Below w.heap.size w w':=by
 have HI:=hid hr
 have HT:=hid h
 have HR:=hid hT
 clear hr h hT
 have rf:=zav (w:=w) (a:=.int .i64 P) (b:=.int .i64 M) (c:=.slice A k c) (d:=.int .i64 N) (e:=.slice TC n d) (T := 27)
 have hB:Below w.heap.size w (w.alloc (.cells #[.int .i64 P,.int .i64 M,.slice A k c,.int .i64 N,.slice TC n d] 27)):=(Below.refl _ _).alloc (Nat.le_refl _) _
 obtain ⟨w1,hw1⟩:∃ W,W=w.alloc (.cells #[.int .i64 P,.int .i64 M,.slice A k c,.int .i64 N,.slice TC n d] 27):=⟨_,rfl⟩
 rw [<-hw1] at hB rf
 have rt:=zai (w:=w1) (a:=.slice TA T.nw ca) (b:=.slice TB T.n cb) (T := 74)
 have kb:Below w1.heap.size w1 (w1.alloc (.cells #[.slice TA T.nw ca,.slice TB T.n cb] 74)):=(Below.refl _ _).alloc (Nat.le_refl _) _
 obtain ⟨w2,hw2⟩:∃ W,W=w1.alloc (.cells #[.slice TA T.nw ca,.slice TB T.n cb] 74):=⟨_,rfl⟩
 rw [<-hw2] at kb rt;replace rf:=zaa rf kb;replace hB:=onS hB kb
 have hsz1:w1.heap.size=w.heap.size+1:=by rw [hw1]; simp
 rw [hsz1] at rt
 go_enter Tryz.func8, Tryz.ntmps8
 go_upto_region 1 with fail
 rw [<-hw1,<-hw2];clear hw1 hw2 kb hsz1
 obtain ⟨b0,hb0⟩:∃ b,b=w.heap.size:=⟨_,rfl⟩
 obtain ⟨b1,hb1⟩:∃ b,b=w.heap.size+1:=⟨_,rfl⟩
 rw [<-hb0] at rf;rw [<-hb1] at rt;rw [<-hb1,<-hb0];clear hb0 hb1
 have HBOX:Hid (∀ X,Below w2.heap.size w2 X->X.rowIs b0 27 5 (codCell (.int .i64 P) (.int .i64 M) (.slice A k c) (.int .i64 N) (.slice TC n d))/\X.rowIs b1 74 2 (matCell (.slice TA T.nw ca) (.slice TB T.n cb))):=hid fun X hx=>⟨zaa rf hx,zaa rt hx⟩
 have HB:=hid hB
 have p0:=qc0 rt
 have p1:=qc1 rt
 clear hB rt rf
 go_wp2_with fail
 refine (zhA T TA TB ca cb 3000 (by omega) w2 (HR.out.on HB.out)).mono ?_
 rintro e w3 ⟨⟨r,rfl⟩,kb⟩
 have KB:=hid kb
 clear kb p0 p1
 cases r with
 | false =>
  go_wp2_with fail
  refine (zcL _).mono ?_
  rintro e w4 ⟨rfl,kb⟩
  replace KB:=hid (onS KB.out kb);clear kb
  go_wp2
  go_ret
  exact ⟨rfl,onS HB.out KB.out⟩
 | true =>
  go_upto_region 3 with fail
  have HS:Hid (∀ X,Below w2.heap.size w2 X->(X.cell? ⟨b0,0,none⟩=some (.int .i64 P)/\X.cell? ⟨b0,1,none⟩=some (.int .i64 M)/\X.cell? ⟨b0,2,none⟩=some (.slice A k c)/\X.cell? ⟨b0,3,none⟩=some (.int .i64 N)/\X.cell? ⟨b0,4,none⟩=some (.slice TC n d)/\X.cell? ⟨b1,0,none⟩=some (.slice TA T.nw ca)/\X.cell? ⟨b1,1,none⟩=some (.slice TB T.n cb))):=hid fun X hx =>
   ⟨(HBOX.out X hx).1.cell (i:=0) (by omega),(HBOX.out X hx).1.cell (i:=1) (by omega),(HBOX.out X hx).1.cell (i:=2) (by omega),(HBOX.out X hx).1.cell (i:=3) (by omega),(HBOX.out X hx).1.cell (i:=4) (by omega),(HBOX.out X hx).2.cell (i:=0) (by omega),(HBOX.out X hx).2.cell (i:=1) (by omega)⟩
  refine wp_region_held_drew (S:=fun X=>(X.cell? ⟨b0,0,none⟩=some (.int .i64 P)/\X.cell? ⟨b0,1,none⟩=some (.int .i64 M)/\X.cell? ⟨b0,2,none⟩=some (.slice A k c)/\X.cell? ⟨b0,3,none⟩=some (.int .i64 N)/\X.cell? ⟨b0,4,none⟩=some (.slice TC n d)/\X.cell? ⟨b1,0,none⟩=some (.slice TA T.nw ca)/\X.cell? ⟨b1,1,none⟩=some (.slice TB T.n cb))) (by kernel_rfl) (HS.out _ (onS KB.out (Below.refl _ _).drew)) (fun hHeld=>?_)
  obtain ⟨w4,hw⟩:∃ W,W=World.drew w3:=⟨_,rfl⟩
  have kb:Below w3.heap.size w3 w4:=by rw [hw]; exact (Below.refl _ _).drew
  rw [<-hw] at hHeld ⊢;clear hw;replace KB:=hid (onS KB.out kb);clear kb
  refine tkq 0 (h:=tkq 1 (h:=tkq 3 (h:=tkq 4 (h:=?_))))
  clear hHeld
  refine rdq 2 (h:=fun K hK=>?_)
  go_simp
  go_wp2_with fail
  refine (zf9 P M A k c f N TC n d ln V T TA TB ca cb w4 (HI.out.on (onS HB.out KB.out)) (HT.out.on (onS HB.out KB.out)) hkc (HR.out.on (onS HB.out KB.out))).mono ?_
  rintro e w5 ⟨u,rfl,hu,kb⟩
  have HU:=hid hu
  replace KB:=hid (onS KB.out kb);clear kb hu
  refine bkq hK (HS.out _ KB.out) (h:=fun hHeld=>?_)
  clear hK K hHeld
  refine rdq 5 (h:=fun K hK=>?_)
  go_simp
  go_wp2_with fail
  refine (zdk P M A k c f N TC n d ln V T TA TB ca cb w5 (HI.out.on (onS HB.out KB.out)) (HT.out.on (onS HB.out KB.out)) (HR.out.on (onS HB.out KB.out))).mono ?_
  rintro e w6 ⟨v,rfl,hv,kb⟩
  obtain rfl:u=v:=TChk.unique HI.out HT.out HU.out hv
  replace KB:=hid (onS KB.out kb);clear kb hv
  refine bkq hK (HS.out _ KB.out) (h:=fun hHeld=>?_)
  clear hK K
  have hpp:(u == u)=true:=by simp
  refine tkq 6 (h:=tkq 7 (h:=?_))
  clear hHeld
  refine rdq 8 (h:=fun K hK=>?_)
  go_simp
  go_wp2_with fail
  refine (zcL w6).mono ?_
  rintro e w7 ⟨rfl,kb⟩
  replace KB:=hid (onS KB.out kb);clear kb
  refine bkq hK (HS.out _ KB.out) (h:=fun hHeld=>?_)
  clear hK K
  refine tkq 9 (h:=tkq 10 (h:=?_))
  refine wpAnyH_done (by kernel_rfl) ?_ _
  clear hHeld
  go_wp2
  go_ret
  exact ⟨rfl,onS HB.out KB.out⟩
theorem trellisChecks_law {H:Type} {enc:TypeId × Value->H} {w:World} {cs cs2:Array Value}
  (h:Sees enc Tryz.prog w 0 (fun _=>true) true 27 cs.toList) (h2:SeesW enc Tryz.prog w 0 (fun _=>true) true 74 cs2.toList) :
  Calls Tryz.prog 8 #[.agg cs,.agg cs2] w fun e w'=>e=.returned (.bool true)/\Below w.heap.size w w':=by
 obtain ⟨cs⟩:=cs
 obtain ⟨cs2⟩:=cs2
 obtain ⟨P,M,A,k,c1,N,T1,n,d,f,ln,V,rfl,_,_,hkc,_,_,_,hr,ht⟩:=zgs h
 obtain ⟨T,TA,TB,ca,cb,rfl,hT,_⟩:=zgE h2
 exact zb8 P M A k c1 f N T1 n d ln V T TA TB ca cb w hr ht hkc hT
end Go.Proofs.YtioagplajkoohaaGreat