/- Merged texts of a claim: SynLaw. -/
import Derived.Test.YtgekjfpapmlndaaGreatTY19
namespace Go.Proofs.YtgekjfpapmlndaaGreat
set_option maxRecDepth 100000
set_option maxHeartbeats 32000000
open KA KB KC KD KE KF
open Go.RowKit Go.ChangeShapes Go.WideShapes Go.ChangeAt
theorem FsRel.congr {r mw N:Nat} {key key':Nat->Nat->List Int} {wd:Nat->Nat->Nat} {St Tr:Nat->List (List Int)} (h:FsRel r mw key wd N St Tr) (e:∀ t i,i<=N->key t i=key' t i):FsRel r mw key' wd N St Tr:=by
 refine ⟨fun j hj=>(h.st j hj).congr fun l=>?_,fun j hj=>(h.tr j hj).congr fun l=>?_⟩
 ·constructor
  ·rintro ⟨t,ht,rfl⟩; exact ⟨t,ht,e t j hj⟩
  ·rintro ⟨t,ht,rfl⟩; exact ⟨t,ht,(e t j hj).symm⟩
 constructor
 ·rintro ⟨t,ht,rfl⟩; exact ⟨t,ht,by rw [e t j (by omega),e t (j+1) hj]⟩
 ·rintro ⟨t,ht,rfl⟩; exact ⟨t,ht,by rw [e t j (by omega),e t (j+1) hj]⟩
theorem zf6 {P M r N:Nat} {m wd:Nat->Nat} {H H':Nat->Nat->Nat} (hH:∀ k,k<r->∀ j,j<N->H k j=H' k j):∀ i,i<=N->∀ k,k<r->syP P M m wd H i k=syP P M m wd H' i k
 | 0,_,_,_=>rfl
 | i+1,hi,k,hk=>by
  have ih:=zf6 (wd:=wd) (P:=P) (M:=M) (m:=m) hH i (by omega) k hk
  have e:=hH k hk i hi
  show (if H k i=0 then syP P M m wd H i k else addF P M (syP P M m wd H i k) (mulF P M m (wd i) (H k i)))=if H' k i=0 then syP P M m wd H' i k else addF P M (syP P M m wd H' i k) (mulF P M m (wd i) (H' k i))
  rw [e,ih]
theorem RenOut.readsF {T:Trel} {z:Nat->Nat->Int × Int × Int} (hP:(T.re z).Proper) {w:World} {A B:Option Addr} {c d:Nat} (h:RenOut T z w A B c d):(T.re z).Reads w A B/\T.nw<=c:=by
 obtain ⟨A',B',c',d',e1,e2,hR,k1,_⟩:=ETab.reads (T:=T.re z) (w:=w) (base:=0) h.1 h.2 (fun i hi=>by
  have h1:=hP.shape.wid (i:=i) (by have:=hP.shape.nw; omega)
  exact ⟨by omega,by omega⟩) (fun i hi j hj=>by
  have h1:=hP.frL hi hj
  have h2:=hP.toL hi hj
  have h3:=hP.lbL hi hj
  have h4:=hP.shape.wid (i:=i) (by omega)
  have h5:=hP.shape.wid (i:=i+1) (by omega)
  exact ⟨⟨by omega,by omega⟩,⟨by omega,by omega⟩,⟨by omega,by omega⟩⟩) (by have:=hP.shape.nw; have:=hP.shape.n64; omega) (by have:=hP.shape.n64; omega) (fun i hi=>by have:=hP.shape.elb hi; omega)
 have e1:Value.slice A T.nw c=.slice A' T.nw c':=e1
 have e2:Value.slice B T.n d=.slice B' T.n d':=e2
 injection e1 with e1 _ e1'
 injection e2 with e2 _ _
 subst e1 e1' e2
 exact ⟨hR,k1⟩
theorem zkW {P M:Int} {A:Option Addr} {k:Nat} {f:Nat->Int} {N:Int} {TC:Option Addr} {n:Nat} {ln:Nat->Nat} {V:Nat->Nat->Int} {w0 w w' w2 w3:World} {e e2:Ending} (hr:IntsR w0 w0.heap.size A k f) (h:IntRows w0 TC n ln V)
  (h1:PFsPost P M k f N n ln V w e w') (h2:Size47Post P M k f N n ln V w2 e2 w3):∃ x v:Int,e2=.returned (.tuple #[.int .i64 x,.int .i64 v]) /\
  ((v≠0/\e=.returned (.tuple #[.agg #[.slice none 0 0,.slice none 0 0],.int .i64 v]))∨(v=0/\FirstErr (CodeErrs P M k f N n ln V) 0/\∃ P' M' N':Nat,P=P'/\M=M'/\N=N'/\∃ pv R,SpanF (P' ^ M') n N' pv R/\SameSp (P' ^ M') (addF P' M') (mulF P' M' fun i=>(f i).toNat) N' n n (natT V) R/\(∀ i j,i<j->j<n->lE (R i) N'≠lE (R j) N')/\SizeIn (P' ^ M') n N' pv R /\
   ∃ T y z r H A B c d,MinT (P' ^ M') (addF P' M') (mulF P' M' fun i=>(f i).toNat) n N' pv R T/\T.Proper/\IsRen T y/\NullRel (P' ^ M') (addF P' M') (mulF P' M' fun i=>(f i).toNat) (negF P' M') n N' (natT V) r H/\IsF (T.re y) (synN (P' ^ M') r (T.re y) ((T.re y).syn (addF P' M') (mulF P' M' fun i=>(f i).toNat) H)) z/\RenOut (T.re y) z w' A B c d/\e=.returned (.tuple #[.agg #[.slice A T.nw c,.slice B T.n d],.int .i64 0]))):=by
 obtain ⟨_,u,hu,h1⟩:=h1
 obtain ⟨_,u2,m,h2⟩:=h2
 obtain rfl:u=u2:=FirstErr.unique hu m
 rcases h1 with ⟨h0,rfl⟩ | ⟨rfl,P',M',N',rfl,rfl,rfl,pv,R,g,b,l,h1⟩
 ·rcases h2 with ⟨_,rfl⟩ | ⟨h3,_⟩
  ·exact ⟨_,_,rfl,.inl ⟨h0,rfl⟩⟩
  ·exact absurd h3 h0
 rcases h2 with ⟨h3,_⟩ | ⟨_,P2,M2,N2,e1,e2,e3,pr,se,hp,hs,h2⟩
 ·exact absurd rfl h3
 obtain ⟨P3,M3,N3,g1,g2,g3,hC⟩:=zbB hr h hu
 obtain rfl:P'=P2:=by omega
 obtain rfl:M'=M2:=by omega
 obtain rfl:N'=N2:=by omega
 obtain rfl:P'=P3:=by omega
 obtain rfl:M'=M3:=by omega
 obtain rfl:N'=N3:=by omega
 have a:=zfu (fieldLaws hC.fld) g hC.rref.choose_spec.lt b l hp hs
 rcases h1 with ⟨h5,rfl⟩ | ⟨h5,h6⟩
 ·rcases h2 with ⟨h7,_⟩ | ⟨_,rfl⟩
  ·exact absurd (a.1 h7) h5
  ·exact ⟨_,_,rfl,.inl ⟨by omega,rfl⟩⟩
 rcases h2 with ⟨_,rfl⟩ | ⟨h7,_⟩
 ·exact ⟨_,_,rfl,.inr ⟨rfl,hu,P',M',N',rfl,rfl,rfl,pv,R,g,b,l,h5,h6⟩⟩
 ·exact absurd (a.2 h5) h7
theorem zee (P M:Int) (A:Option Addr) (k c:Nat) (f:Nat->Int) (N:Int) (TC:Option Addr) (n d:Nat) (ln:Nat->Nat) (V:Nat->Nat->Int) (w:World) (hr:IntsR w w.heap.size A k f) (h:IntRows w TC n ln V) (hkc:k<=c) :
  Calls Tryz.prog 6 #[.agg #[.int .i64 P,.int .i64 M,.slice A k c,.int .i64 N,.slice TC n d]] w fun e w'=>e=.returned (.bool true)/\Below w.heap.size w w':=by
 have HI:=hid hr
 have HT:=hid h
 clear hr h
 obtain ⟨w1,ac,hB,rf⟩:=zaG w (.int .i64 P) (.int .i64 M) (.slice A k c) (.int .i64 N) (.slice TC n d) 27
 go_enter Tryz.func6, Tryz.ntmps6
 go_upto_region 1 with fail
 rw [<-ac];clear ac
 obtain ⟨b0,Q⟩:=exx w.heap.size
 rw [<-Q] at rf;rw [<-Q];clear Q
 have m:Hid (∀ X,Below w1.heap.size w1 X->(X.cell? ⟨b0,0,none⟩=some (.int .i64 P)/\X.cell? ⟨b0,1,none⟩=some (.int .i64 M)/\X.cell? ⟨b0,2,none⟩=some (.slice A k c)/\X.cell? ⟨b0,3,none⟩=some (.int .i64 N)/\X.cell? ⟨b0,4,none⟩=some (.slice TC n d))):=hid fun X hx =>
  ⟨(zaa rf hx).cell (i:=0) (by omega),(zaa rf hx).cell (i:=1) (by omega),(zaa rf hx).cell (i:=2) (by omega),(zaa rf hx).cell (i:=3) (by omega),(zaa rf hx).cell (i:=4) (by omega)⟩
 have HB:=hid hB
 clear hB rf
 obtain ⟨q0,q1,q2,q3,q4⟩:=m.out _ (Below.refl _ _)
 go_wp2_with fail
 refine (zgw P M A k c f N TC n d ln V w1 (HI.out.on HB.out) (HT.out.on HB.out)).mono ?_
 rintro e w2 ⟨kb,b,rfl,ae⟩
 have av:=hid ae
 have KB:=hid kb
 clear kb ae q0 q1 q2 q3 q4
 cases b with
 | false =>
  go_wp2_with fail
  refine (zdC _).mono ?_
  rintro e w3 ⟨rfl,kb⟩
  go_wp2
  go_ret
  exact ⟨rfl,onS HB.out (onS KB.out kb)⟩
 | true =>
  obtain ⟨q0,q1,q2,q3,q4⟩:=m.out _ KB.out
  go_wp2_with fail
  refine (zgC P M A k c f N TC n d ln V w2 (HI.out.on (onS HB.out KB.out)) (HT.out.on (onS HB.out KB.out)) hkc).mono ?_
  rintro e w4 p
  have kb:=p.1
  have F:∃ (GA HA:Option Addr) (gn gc hn hc:Nat) (ev:Int),e=.returned (.tuple #[.agg #[.slice GA gn gc,.slice HA hn hc],.int .i64 ev]):=by
   rcases p.2 with ⟨u,_,⟨_,h⟩ | ⟨_,P',M',N',_,_,_,pv,R,_,_,_,⟨_,h⟩ | ⟨_,T,y,z,r,H,A,B,c,d,_,_,_,_,_,_,h⟩⟩⟩ <;> exact ⟨_,_,_,_,_,_,_,h⟩
  obtain ⟨GA,HA,gn,gc,hn,hc,ev,rfl⟩:=F
  have HM:=hid p
  have K4:=hid (onS KB.out kb)
  clear kb p q0 q1 q2 q3 q4
  go_upto_region 4 with fail
  have rt:(w4.alloc (Obj.cells #[.slice GA gn gc,.slice HA hn hc] 53)).rowIs w4.heap.size 53 2 (matCell (.slice GA gn gc) (.slice HA hn hc)):=zai
  have kb:=aly w4 (Obj.cells #[.slice GA gn gc,.slice HA hn hc] 53)
  obtain ⟨w5,ab⟩:=exx (w4.alloc (Obj.cells #[.slice GA gn gc,.slice HA hn hc] 53))
  rw [<-ab] at rt kb ⊢;clear ab
  obtain ⟨b1,ai⟩:=exx w4.heap.size
  rw [<-ai] at rt ⊢;clear ai
  have au:Hid (∀ X,Below w5.heap.size w5 X->X.cell? ⟨b1,0,none⟩=some (.slice GA gn gc)/\X.cell? ⟨b1,1,none⟩=some (.slice HA hn hc)):=hid fun X hx=>⟨(zaa rt hx).cell (i:=0) (by omega),(zaa rt hx).cell (i:=1) (by omega)⟩
  have K5:=hid kb
  replace KB:=hid (onS K4.out kb);clear rt kb K4
  obtain ⟨q0,q1,q2,q3,q4⟩:=m.out _ KB.out
  go_wp2_with fail
  refine (zeO P M A k c f N TC n d ln V w5 (HI.out.on (onS HB.out KB.out)) (HT.out.on (onS HB.out KB.out))).mono ?_
  rintro e w6 s
  obtain ⟨x,v,rfl,l⟩:=zkW HI.out HT.out HM.out s
  have az:=hid s
  have ay:v=ev:=by
   rcases l with ⟨_,he⟩ | ⟨h0,_,P',M',N',_,_,_,pv,R,_,_,_,_,T,y,z,r,H,A,B,c,d,_,_,_,_,_,_,he⟩
   ·simp at he; exact he.2.symm
   ·simp at he; rw [h0,he.2]
  subst ay
  have K6:=hid s.1
  replace KB:=hid (onS KB.out s.1)
  have q:=hid l
  clear l s q0 q1 q2 q3 q4 HM
  have bd:(v != v)=false:=by simp
  go_wp2_with fail
  refine (zdC _).mono ?_
  rintro e w7 ⟨rfl,kb⟩
  replace K6:=hid (onS K6.out kb);replace KB:=hid (onS KB.out kb);clear kb
  rcases q.out with ⟨h0,he⟩ | ⟨h0,I,P',M',N',rfl,rfl,rfl,pv,R,W,U,a0,an,T,y,z,r,H,WA,WB,wc,wd,Y,ap,ao,C,aq,G,he⟩
  ·have be:(v != 0)=true:=by simpa using h0
   have O:((GA=none/\gn=0/\gc=0)/\HA=none/\hn=0/\hc=0):=by simpa using he
   obtain ⟨⟨rfl,rfl,rfl⟩,rfl,rfl,rfl⟩:=O
   obtain ⟨t0,t1⟩:=au.out _ K6.out
   go_wp2
   go_ret
   exact ⟨rfl,onS HB.out KB.out⟩
  ·subst h0
   have O:((GA=WA/\gn=T.nw/\gc=wc)/\HA=WB/\hn=T.n/\hc=wd):=by simpa using he
   obtain ⟨⟨rfl,rfl,rfl⟩,rfl,rfl,rfl⟩:=O
   obtain ⟨P2,M2,N2,e1,e2,e3,hC⟩:=zbB HI.out HT.out I
   obtain rfl:P'=P2:=by omega
   obtain rfl:M'=M2:=by omega
   obtain rfl:N'=N2:=by omega
   have hL:=fieldLaws hC.fld
   have o:∀ x,x<P' ^ M'->negF P' M' x<P' ^ M'/\addF P' M' x (negF P' M' x)=0:=fun x _=>⟨zbv (by have:=hC.fld.1.1; omega),zbn (by have:=hC.fld.1.1; omega)⟩
   have s:(P' ^ M') ^ n<=1024:=by
    rcases av.out (by simp) with h1 | h1 | h1
    ·exact absurd I h1
    ·simpa using h1
    ·exact absurd h1 (zkV hL W hC.lt U a0 an)
   have HC:=hid hC
   have bg:=hid I
   have ba:Hid (∀ r' H' St Tr,NullRel (P' ^ M') (addF P' M') (mulF P' M' fun i=>(f i).toNat) (negF P' M') n N' (natT V) r' H'->FsRel r' ((P' ^ M') ^ n) (fun t i=>keyS r' (syP P' M' (fun i=>(f i).toNat) (spE (addF P' M') (mulF P' M' fun i=>(f i).toNat) (natT V) (msgD (P' ^ M') n t) n) H' i)) (fun t=>spE (addF P' M') (mulF P' M' fun i=>(f i).toNat) (natT V) (msgD (P' ^ M') n t) n) N' St Tr ->
     ((T.re y).re z).Proper/\SameT ((T.re y).re z) (fsT N' St Tr)/\∀ pv2 R2 T2 y2,SpanF (P' ^ M') n N' pv2 R2->SameSp (P' ^ M') (addF P' M') (mulF P' M' fun i=>(f i).toNat) N' n n (natT V) R2->(∀ i j,i<j->j<n->lE (R2 i) N'≠lE (R2 j) N')->MinT (P' ^ M') (addF P' M') (mulF P' M' fun i=>(f i).toNat) n N' pv2 R2 T2->T2.Proper->IsRen T2 y2->IsoT ((T.re y).re z) (T2.re y2)):=hid fun r' H' St Tr hrel hfs=>by
    obtain ⟨g1,g2⟩:=NullRel.same hL o hC.lt C hrel
    subst g1
    have E:=hfs.congr (key':=fun t i=>keyS r (syP P' M' (fun i=>(f i).toNat) (spE (addF P' M') (mulF P' M' fun i=>(f i).toNat) (natT V) (msgD (P' ^ M') n t) n) H i)) fun t i hi=>zbk fun k hk=>(zf6 (N:=N') g2 i hi k hk).symm
    obtain ⟨a1,a2,a3⟩:=zld hL o hC.rref C U W a0 Y ap ao E aq
    exact ⟨a2,a3,fun pv2 R2 T2 y2 b1 b2 b3 b4 b5 b6=>zle hL o hC.rref C b2 b1 b3 b4 b5 b6 E a1 a2 Y.nN⟩
   have a9:=hid G
   have bf:((0:Int) != 0)=false:=by simp
   have bc:((0:Int) == 0)=true:=by simp
   clear I W U a0 an Y ap ao G hC hL o e1 e2 e3 he q av C aq
   obtain ⟨q0,q1,q2,q3,q4⟩:=m.out _ KB.out
   go_upto_region 9 with fail
   go_wp2_with fail
   refine (zdF (P':Int) (M':Int) A k c f (N':Int) TC n d ln V w7 (HI.out.on (onS HB.out KB.out)) (HT.out.on (onS HB.out KB.out))).mono ?_
   rintro e w8 g
   obtain ⟨x2,v2,L,D⟩:=zj8 HI.out HT.out g az.out
   have ad:v2=0:=by simp at L; exact L.2.symm
   rcases D with ⟨hv,_⟩ | ⟨_,_,P2,M2,N2,e1,e2,e3,pv2,R2,a1,a2,a3,_,S,y2,UA,UB,uc,ud,a4,a5,a6,a7,rfl⟩
   ·exact absurd ad hv
   obtain rfl:P'=P2:=by omega
   obtain rfl:M'=M2:=by omega
   obtain rfl:N'=N2:=by omega
   have b9:Hid (∀ Z,(∀ pv2 R2 T2 y2,SpanF (P' ^ M') n N' pv2 R2->SameSp (P' ^ M') (addF P' M') (mulF P' M' fun i=>(f i).toNat) N' n n (natT V) R2->(∀ i j,i<j->j<n->lE (R2 i) N'≠lE (R2 j) N')->MinT (P' ^ M') (addF P' M') (mulF P' M' fun i=>(f i).toNat) n N' pv2 R2 T2->T2.Proper->IsRen T2 y2->IsoT Z (T2.re y2))->IsoT Z (S.re y2)):=hid fun Z h=>h pv2 R2 S y2 a1 a2 a3 a4 a5 a6
   have aw:=hid (a7.reads a5 a6)
   have K8:=hid g.1
   clear g L ad e1 e2 e3 a1 a2 a3 a4 a5 a6 a7 q0 q1 q2 q3 q4
   go_upto_region 10 with fail
   have rt:(w8.alloc (Obj.cells #[.slice UA S.nw uc,.slice UB S.n ud] 53)).rowIs w8.heap.size 53 2 (matCell (.slice UA S.nw uc) (.slice UB S.n ud)):=zai
   have kb:=aly w8 (Obj.cells #[.slice UA S.nw uc,.slice UB S.n ud] 53)
   obtain ⟨w9,aa⟩:=exx (w8.alloc (Obj.cells #[.slice UA S.nw uc,.slice UB S.n ud] 53))
   rw [<-aa] at rt kb ⊢;clear aa
   obtain ⟨b2,ah⟩:=exx w8.heap.size
   rw [<-ah] at rt ⊢;clear ah
   have KA:=hid (onS K8.out kb)
   have b7:=hid (aw.out.1.on kb)
   have bb:=hid aw.out.2.1
   have J:Hid (∀ X,Below w9.heap.size w9 X->(X.cell? ⟨b0,0,none⟩=some (.int .i64 (P':Nat))/\X.cell? ⟨b0,1,none⟩=some (.int .i64 (M':Nat))/\X.cell? ⟨b0,2,none⟩=some (.slice A k c)/\X.cell? ⟨b0,3,none⟩=some (.int .i64 (N':Nat))/\X.cell? ⟨b0,4,none⟩=some (.slice TC n d))/\(X.cell? ⟨b1,0,none⟩=some (.slice GA T.nw gc)/\X.cell? ⟨b1,1,none⟩=some (.slice HA T.n hc))/\X.cell? ⟨b2,0,none⟩=some (.slice UA S.nw uc)/\X.cell? ⟨b2,1,none⟩=some (.slice UB S.n ud)):=hid fun X hX=>⟨m.out _ (onS (onS KB.out KA.out) hX),au.out _ (onS (onS K6.out KA.out) hX),(zaa rt hX).cell (i:=0) (by omega),(zaa rt hX).cell (i:=1) (by omega)⟩
   clear rt kb
   refine wp_region_held_drew (S:=fun X=>(X.cell? ⟨b0,0,none⟩=some (.int .i64 (P':Nat))/\X.cell? ⟨b0,1,none⟩=some (.int .i64 (M':Nat))/\X.cell? ⟨b0,2,none⟩=some (.slice A k c)/\X.cell? ⟨b0,3,none⟩=some (.int .i64 (N':Nat))/\X.cell? ⟨b0,4,none⟩=some (.slice TC n d))/\(X.cell? ⟨b1,0,none⟩=some (.slice GA T.nw gc)/\X.cell? ⟨b1,1,none⟩=some (.slice HA T.n hc))/\X.cell? ⟨b2,0,none⟩=some (.slice UA S.nw uc)/\X.cell? ⟨b2,1,none⟩=some (.slice UB S.n ud)) (by kernel_rfl) (J.out _ (Below.refl _ _).drew) (fun hHeld=>?_)
   obtain ⟨w10,hw,kb⟩:=dwx w9
   rw [<-hw] at hHeld ⊢;clear hw
   have a:=hid kb
   clear kb
   refine tkq 0 (h:=tkq 1 (h:=?_))
   clear hHeld
   refine rdq 2 (h:=fun K hK=>?_)
   go_simp
   go_wp2_with fail
   refine (ziW P' M' (fun i=>(f i).toNat) A k c N' TC n d (natT V) w10 (HC.out.on (onS HB.out (onS KB.out (onS KA.out a.out)))) s).mono ?_
   rintro e w11 ⟨kb,r3,H3,St,Tr,FA,FB,fc,fd,C,ag,rfl,af⟩
   obtain ⟨al,aj,am⟩:=ba.out r3 H3 St Tr C ag
   have ak:=a9.out.readsF al
   have b8:=hid (b9.out _ am)
   have ar:=hid aj
   have a8:=hid ak
   have ax:=hid af
   replace a:=hid (onS a.out kb);clear kb C ag af al aj am ak
   refine bkq hK (J.out _ a.out) (h:=fun hHeld=>?_)
   clear hK K hHeld
   refine rdq 3 (h:=fun K hK=>?_)
   go_simp
   go_wp2_with fail
   refine (zeY ((T.re y).re z) (fsT N' St Tr) GA HA FA FB gc hc fc fd w11 (a8.out.1.on (onS K5.out (onS K6.out (onS KA.out a.out)))) ax.out).mono ?_
   rintro e w12 ⟨b,rfl,hb,kb⟩
   obtain rfl:=hb.2 ar.out
   replace a:=hid (onS a.out kb);clear kb hb ar ax
   refine bkq hK (J.out _ a.out) (h:=fun hHeld=>?_)
   clear hK K
   refine tkq 4 (h:=tkq 5 (h:=tkq 6 (h:=tkq 7 (h:=tkq 8 (h:=tkq 9 (h:=tkq 10 (h:=?_)))))))
   clear hHeld
   refine rdq 11 (h:=fun K hK=>?_)
   go_simp
   go_wp2_with fail
   refine (zkR ((T.re y).re z) (S.re y2) GA HA UA UB gc hc uc ud w12 (a8.out.1.on (onS K5.out (onS K6.out (onS KA.out a.out)))) (b7.out.on a.out) a8.out.2 bb.out).mono ?_
   rintro e w13 ⟨b,rfl,hb,kb⟩
   obtain rfl:=hb.2 b8.out
   replace a:=hid (onS a.out kb);clear kb hb
   refine bkq hK (J.out _ a.out) (h:=fun hHeld=>?_)
   clear hK K
   refine tkq 12 (h:=tkq 13 (h:=?_))
   refine wpAnyH_done (by kernel_rfl) ?_ _
   clear hHeld
   go_wp2
   go_ret
   exact ⟨rfl,onS HB.out (onS KB.out (onS KA.out a.out))⟩
theorem trellisSyn_law {H:Type} {enc:TypeId × Value->H} {w:World} {cs:Array Value}
  (h:Sees enc Tryz.prog w 0 (fun _=>true) true 27 cs.toList) :
  Calls Tryz.prog 6 #[.agg cs] w fun e w'=>e=.returned (.bool true)/\Below w.heap.size w w':=by
 obtain ⟨cs⟩:=cs
 obtain ⟨P,M,A,k,c1,N,T1,n,d,f,ln,V,rfl,_,_,a,_,_,_,hr,ht⟩:=ziJ h
 exact zee P M A k c1 f N T1 n d ln V w hr ht a
end Go.Proofs.YtgekjfpapmlndaaGreat