/- Merged texts of a claim. -/
import Derived.Test.YtgekjfpapmlndaaGreatTM14
import Derived.Test.YtgekjfpapmlndaaGreatTP1
namespace Go.Proofs.YtgekjfpapmlndaaGreat
set_option maxRecDepth 100000
set_option maxHeartbeats 32000000
open Go.RowKit Go.ChangeShapes Go.WideShapes Go.ChangeAt
theorem Trel.nxt_cases {T:Trel} {i:Nat} {v a:Int}:∀ m,T.nxt i v a m = -1∨∃ j,j<m/\T.fr i j=v/\T.lb i j=a/\T.nxt i v a m=T.to i j:=by
 intro m
 induction m with
 | zero=>exact .inl rfl
 | succ m ih =>
  by_cases e:T.fr i m=v/\T.lb i m=a
  ·exact .inr ⟨m,by omega,e.1,e.2,if_pos e⟩
  ·have h:T.nxt i v a (m+1)=T.nxt i v a m:=if_neg e
   rw [h]
   rcases ih with h1 | ⟨j,hj,h2,h3,h4⟩
   ·exact .inl h1
   ·exact .inr ⟨j,by omega,h2,h3,h4⟩
theorem Trel.acc_path {T:Trel} (hP:T.Proper) {a:Nat->Int} {x:Nat->Nat} (hx:∀ i,i<T.n->a i=((x i:Nat):Int)):T.accB a=true↔T.PathW x:=by
 unfold Trel.accB
 rw [decide_eq_true_iff]
 constructor
 ·intro h
  have h0:∀ i,i<=T.n->0<=T.st a i:=fun i hi=>by
   cases i with
   | zero=>exact Int.le_refl _
   | succ i=>exact h i (by omega)
  refine ⟨fun i=>(T.st a i).toNat,rfl,fun i hi=>?_⟩
  have h1:=h i hi
  have h2:=h0 i (by omega)
  rcases T.nxt_cases (i:=i) (v:=T.st a i) (a:=a i) (T.el i) with h3 | ⟨j,hj,h3,h4,h5⟩
  ·have:T.st a (i+1) = -1:=h3
   omega
  ·have h6:T.st a (i+1)=T.to i j:=h5
   exact ⟨j,hj,by show T.fr i j=(((T.st a i).toNat:Nat):Int); rw [h3]; omega,by rw [h4,hx i hi],by show T.to i j=(((T.st a (i+1)).toNat:Nat):Int); omega⟩
 ·rintro ⟨nd,hn0,hnd⟩
  have h0:∀ i,i<=T.n->T.st a i=(nd i:Nat):=by
   intro i
   induction i with
   | zero=>intro _; rw [hn0]; rfl
   | succ i ih =>
    intro hi
    obtain ⟨j,hj,h1,h2,h3⟩:=hnd i (by omega)
    show T.nxt i (T.st a i) (a i) (T.el i)=_
    rw [Trel.nxt_some (hP.sec i (by omega)) (by rw [h1,ih (by omega)]) (by rw [h2,hx i (by omega)]) (T.el i) hj (Nat.le_refl _),h3]
  intro i hi
  rw [h0 (i+1) (by omega)]
  omega
theorem yaQ {P M:Int} {A:Option Addr} {k:Nat} {f:Nat->Int} {N:Int} {TC:Option Addr} {n:Nat} {ln:Nat->Nat} {V:Nat->Nat->Int} {w0 w w' w2 w3:World} {e e2:Ending} (hr:IntsR w0 w0.heap.size A k f) (h:IntRows w0 TC n ln V)
  (h1:MinPost P M k f N n ln V w e w') (h2:Size47Post P M k f N n ln V w2 e2 w3):∃ x v:Int,e2=.returned (.tuple #[.int .i64 x,.int .i64 v]) /\
  ((v≠0/\e=.returned (.tuple #[.agg #[.slice none 0 0,.slice none 0 0],.int .i64 v]))∨(v=0/\FirstErr (CodeErrs P M k f N n ln V) 0/\∃ P' M' N':Nat,P=P'/\M=M'/\N=N'/\∃ pv R,SpanF (P' ^ M') n N' pv R/\SameSp (P' ^ M') (addF P' M') (mulF P' M' fun i=>(f i).toNat) N' n n (natT V) R/\(∀ i j,i<j->j<n->lE (R i) N'≠lE (R j) N')/\SizeIn (P' ^ M') n N' pv R /\
   ∃ T y A B c d,MinT (P' ^ M') (addF P' M') (mulF P' M' fun i=>(f i).toNat) n N' pv R T/\T.Proper/\IsRen T y/\RenOut T y w' A B c d/\e=.returned (.tuple #[.agg #[.slice A T.nw c,.slice B T.n d],.int .i64 0]))):=by
 obtain ⟨_,u,hu,h1⟩:=h1
 obtain ⟨_,u2,hu2,h2⟩:=h2
 obtain rfl:u=u2:=FirstErr.unique hu hu2
 rcases h1 with ⟨h0,rfl⟩ | ⟨rfl,P',M',N',rfl,rfl,rfl,pv,R,hSF,hSP,hDI,h1⟩
 ·rcases h2 with ⟨_,rfl⟩ | ⟨h3,_⟩
  ·exact ⟨_,_,rfl,.inl ⟨h0,rfl⟩⟩
  ·exact absurd h3 h0
 ·rcases h2 with ⟨h3,_⟩ | ⟨_,P2,M2,N2,e1,e2,e3,pr,se,hp,hs,h2⟩
  ·exact absurd rfl h3
  ·obtain ⟨P3,M3,N3,g1,g2,g3,hC⟩:=zb5 hr h hu
   obtain rfl:P'=P2:=by omega
   obtain rfl:M'=M2:=by omega
   obtain rfl:N'=N2:=by omega
   obtain rfl:P'=P3:=by omega
   obtain rfl:M'=M3:=by omega
   obtain rfl:N'=N3:=by omega
   have hsz:=yaP (fieldLaws hC.fld) hSF hC.rref.choose_spec.lt hSP hDI hp hs
   rcases h1 with ⟨h5,rfl⟩ | ⟨h5,h6⟩
   ·rcases h2 with ⟨h7,_⟩ | ⟨_,rfl⟩
    ·exact absurd (hsz.1 h7) h5
    ·exact ⟨_,_,rfl,.inl ⟨by omega,rfl⟩⟩
   ·rcases h2 with ⟨_,rfl⟩ | ⟨h7,_⟩
    ·exact ⟨_,_,rfl,.inr ⟨rfl,hu,P',M',N',rfl,rfl,rfl,pv,R,hSF,hSP,hDI,h5,h6⟩⟩
    ·exact absurd (hsz.2 h5) h7
theorem yaT {P M:Int} {k:Nat} {f:Nat->Int} {N:Int} {n:Nat} {ln:Nat->Nat} {V:Nat->Nat->Int} {w w':World} {GA HA:Option Addr} {gn gc hn hc:Nat} (h1:MinPost P M k f N n ln V w (.returned (.tuple #[.agg #[.slice GA gn gc,.slice HA hn hc],.int .i64 0])) w') :
  FirstErr (CodeErrs P M k f N n ln V) 0/\∃ P' M' N':Nat,P=P'/\M=M'/\N=N'/\∃ pv R,SpanF (P' ^ M') n N' pv R/\SameSp (P' ^ M') (addF P' M') (mulF P' M' fun i=>(f i).toNat) N' n n (natT V) R/\(∀ i j,i<j->j<n->lE (R i) N'≠lE (R j) N')/\SizeIn (P' ^ M') n N' pv R /\
   ∃ T y,MinT (P' ^ M') (addF P' M') (mulF P' M' fun i=>(f i).toNat) n N' pv R T/\T.Proper/\IsRen T y/\RenOut T y w' GA HA gc hc/\gn=T.nw/\hn=T.n:=by
 obtain ⟨_,u,hu,h1⟩:=h1
 rcases h1 with ⟨h0,he⟩ | ⟨rfl,P',M',N',rfl,rfl,rfl,pv,R,hSF,hSP,hDI,⟨_,he⟩ | ⟨h5,T,y,A,B,c,d,h6,h7,h8,h9,he⟩⟩
 ·have:(0:Int)=u:=by simp at he; exact he.2
  exact absurd this.symm h0
 ·simp at he
 ·have he2:((GA=A/\gn=T.nw/\gc=c)/\HA=B/\hn=T.n/\hc=d):=by simpa using he
  obtain ⟨⟨rfl,rfl,rfl⟩,rfl,rfl,rfl⟩:=he2
  exact ⟨hu,P',M',N',rfl,rfl,rfl,pv,R,hSF,hSP,hDI,h5,T,y,h6,h7,h8,h9,rfl,rfl⟩
theorem yaa (P M:Int) (A:Option Addr) (k c:Nat) (f:Nat->Int) (N:Int) (TC:Option Addr) (n d:Nat) (ln:Nat->Nat) (V:Nat->Nat->Int) (UA:Option Addr) (l uc:Nat) (u:Nat->Int) (w:World) (hr:IntsR w w.heap.size A k f) (h:IntRows w TC n ln V) (hu:IntsR w w.heap.size UA l u) (hlu:l<=uc) (hl:l<=9223372036854775807) :
  Calls Tryz.prog 7 #[.agg #[.int .i64 P,.int .i64 M,.slice A k c,.int .i64 N,.slice TC n d],.slice UA l uc] w fun e w'=>e=.returned (.bool true)/\Below w.heap.size w w':=by
 have HI:=hid hr
 have HT:=hid h
 have HW:=hid hu
 clear hr h hu
 have rf:=zai (w:=w) (a:=.int .i64 P) (b:=.int .i64 M) (c:=.slice A k c) (d:=.int .i64 N) (e:=.slice TC n d) (T := 27)
 have hB:Below w.heap.size w (w.alloc (.cells #[.int .i64 P,.int .i64 M,.slice A k c,.int .i64 N,.slice TC n d] 27)):=(Below.refl _ _).alloc (Nat.le_refl _) _
 obtain ⟨w1,hw1⟩:∃ W,W=w.alloc (.cells #[.int .i64 P,.int .i64 M,.slice A k c,.int .i64 N,.slice TC n d] 27):=⟨_,rfl⟩
 rw [<-hw1] at hB rf
 go_enter Tryz.func7, Tryz.ntmps7
 go_upto_region 1 with fail
 rw [<-hw1];clear hw1
 obtain ⟨b0,hb0⟩:∃ b,b=w.heap.size:=⟨_,rfl⟩
 rw [<-hb0] at rf;rw [<-hb0];clear hb0
 have HBOX:Hid (∀ X,Below w1.heap.size w1 X->(X.cell? ⟨b0,0,none⟩=some (.int .i64 P)/\X.cell? ⟨b0,1,none⟩=some (.int .i64 M)/\X.cell? ⟨b0,2,none⟩=some (.slice A k c)/\X.cell? ⟨b0,3,none⟩=some (.int .i64 N)/\X.cell? ⟨b0,4,none⟩=some (.slice TC n d))):=hid fun X hx =>
  ⟨(zab rf hx).cell (i:=0) (by omega),(zab rf hx).cell (i:=1) (by omega),(zab rf hx).cell (i:=2) (by omega),(zab rf hx).cell (i:=3) (by omega),(zab rf hx).cell (i:=4) (by omega)⟩
 have HB:=hid hB
 clear hB rf
 go_wp2_with fail
 refine (zc2 _).mono ?_
 rintro e w2 ⟨rfl,kb⟩
 have KB:=hid kb
 clear kb
 obtain ⟨q0,q1,q2,q3,q4⟩:=HBOX.out _ KB.out
 go_wp2_with fail
 refine (zfx P M A k c f N TC n d ln V w2 (HI.out.on (onS HB.out KB.out)) (HT.out.on (onS HB.out KB.out))).mono ?_
 rintro e w3 ⟨kb,b,rfl,_⟩
 replace KB:=hid (onS KB.out kb);clear kb q0 q1 q2 q3 q4
 cases b with
 | false =>
  go_wp2
  go_ret
  exact ⟨rfl,onS HB.out KB.out⟩
 | true =>
  obtain ⟨q0,q1,q2,q3,q4⟩:=HBOX.out _ KB.out
  go_wp2_with fail
  refine (zfw P M A k c f N TC n d ln V w3 (HI.out.on (onS HB.out KB.out)) (HT.out.on (onS HB.out KB.out))).mono ?_
  rintro e w4 hmin
  have kb:=hmin.1
  have hform:∃ (GA HA:Option Addr) (gn gc hn hc:Nat) (ev:Int),e=.returned (.tuple #[.agg #[.slice GA gn gc,.slice HA hn hc],.int .i64 ev]):=by
   rcases hmin.2 with ⟨u,_,⟨_,h⟩ | ⟨_,P',M',N',_,_,_,pv,R,_,_,_,⟨_,h⟩ | ⟨_,T,y,A,B,c,d,_,_,_,_,h⟩⟩⟩ <;> exact ⟨_,_,_,_,_,_,_,h⟩
  obtain ⟨GA,HA,gn,gc,hn,hc,ev,rfl⟩:=hform
  have HM:=hid hmin
  have K4:=hid (onS KB.out kb)
  clear kb hmin q0 q1 q2 q3 q4
  go_upto_region 6 with fail
  have rt:(w4.alloc (Obj.cells #[.slice GA gn gc,.slice HA hn hc] 53)).rowIs w4.heap.size 53 2 (matCell (.slice GA gn gc) (.slice HA hn hc)):=zaB
  have kb:Below w4.heap.size w4 (w4.alloc (Obj.cells #[.slice GA gn gc,.slice HA hn hc] 53)):=(Below.refl _ _).alloc (Nat.le_refl _) _
  obtain ⟨w5,hw5⟩:∃ W,W=w4.alloc (Obj.cells #[.slice GA gn gc,.slice HA hn hc] 53):=⟨_,rfl⟩
  rw [<-hw5] at rt kb ⊢;clear hw5
  obtain ⟨b1,hb1⟩:∃ b,b=w4.heap.size:=⟨_,rfl⟩
  rw [<-hb1] at rt ⊢;clear hb1
  have HTB:Hid (∀ X,Below w5.heap.size w5 X->X.cell? ⟨b1,0,none⟩=some (.slice GA gn gc)/\X.cell? ⟨b1,1,none⟩=some (.slice HA hn hc)):=hid fun X hx=>⟨(zab rt hx).cell (i:=0) (by omega),(zab rt hx).cell (i:=1) (by omega)⟩
  have K5:=hid kb
  replace KB:=hid (onS K4.out kb);clear rt kb K4
  by_cases hev:ev=0
  rotate_left
  ·have hevb:(ev != 0)=true:=by simpa using hev
   clear hev
   obtain ⟨q0,q1,q2,q3,q4⟩:=HBOX.out _ KB.out
   go_wp2_with fail
   refine (zgQ P M A k c f N TC n d ln V w5 (HI.out.on (onS HB.out KB.out)) (HT.out.on (onS HB.out KB.out))).mono ?_
   rintro e w6 hsz
   obtain ⟨x,v,rfl,hcase⟩:=yaQ HI.out HT.out HM.out hsz
   have hve:v=ev:=by
    rcases hcase with ⟨_,he⟩ | ⟨_,_,P',M',N',_,_,_,pv,R,_,_,_,_,T,y,A,B,c,d,_,_,_,_,he⟩
    ·simp at he; exact he.2.symm
    ·have:ev=0:=by simp at he; exact he.2
     rw [this] at hevb; cases hevb
   subst hve
   have kb:=hsz.1
   replace KB:=hid (onS KB.out kb)
   have hvv:(v == v)=true:=by simp
   clear hcase hsz kb q0 q1 q2 q3 q4
   go_wp2
   go_ret
   exact ⟨rfl,onS HB.out KB.out⟩
  subst hev
  have hevb:((0:Int) != 0)=false:=by simp
  have h00:((0:Int) == 0)=true:=by simp
  obtain ⟨hE0,P',M',N',rfl,rfl,rfl,pv,R,hSF,hSP,hDI,hSI,S,y,hMT,hPR,hRE,hOUT,rfl,rfl⟩:=yaT HM.out
  have hC:=by
   exact zb5 HI.out HT.out hE0
  obtain ⟨P2,M2,N2,e1,e2,e3,hC⟩:=hC
  obtain rfl:P'=P2:=by omega
  obtain rfl:M'=M2:=by omega
  obtain rfl:N'=N2:=by omega
  have hN64:=hC.ln2
  have HC:=hid hC
  have HE0:=hid hE0
  have HIN:Hid (∀ x:Nat->Nat,(S.re y).PathW x↔InSp (P' ^ M') (addF P' M') (mulF P' M' fun i=>(f i).toNat) n N' (natT V) x):=hid (yaO (fieldLaws hC.fld) hSF hMT hPR hRE hSP)
  have HPR:Hid (S.re y).Proper:=hid (IsRen.proper hPR hRE)
  have HRD:=hid (hOUT.reads hPR hRE)
  have hSn:(S.re y).n=N':=hMT.nN
  have HSN:=hid hSn
  clear hE0 hSF hSP hDI hSI hMT hPR hRE hOUT hC HM e1 e2 e3 hSn
  obtain ⟨q0,q1,q2,q3,q4⟩:=HBOX.out _ KB.out
  go_wp2_with fail
  refine (yan P' M' (fun i=>(f i).toNat) A k c N' TC n d (natT V) UA l uc u w5 (HC.out.on (onS HB.out KB.out)) (HW.out.on (onS HB.out KB.out)) hl).mono ?_
  rintro e w6 ⟨v,rfl,hv,kb⟩
  have HV:=hid hv
  have K6:=hid (onS K5.out kb)
  have KT:=hid kb
  replace KB:=hid (onS KB.out kb);clear hv kb q0 q1 q2 q3 q4
  by_cases hv0:v=0
  rotate_left
  ·have hvb:(v != 0)=true:=by simpa using hv0
   clear hv0
   go_wp2
   go_ret
   exact ⟨rfl,onS HB.out KB.out⟩
  subst hv0
  obtain ⟨hlN,hAI⟩:l=N'/\AllIn (P' ^ M') l u:=by
   rcases HV.out with ⟨_,h9⟩ | ⟨h1,⟨_,h9⟩ | ⟨h2,_⟩⟩
   ·cases h9
   ·cases h9
   ·exact ⟨h1,h2⟩
  subst hlN
  have HAI:=hid hAI
  clear hAI HV
  obtain ⟨t0,t1⟩:=HTB.out _ KT.out
  go_wp2_with fail
  refine (yai (S.re y) GA HA UA gc hc l uc u w6 (HRD.out.1.on K6.out) (HW.out.on (onS HB.out KB.out)) (by omega)).mono ?_
  rintro e w7 ⟨kb,hacc⟩
  obtain rfl:e=.returned (.tuple #[.bool ((S.re y).accB u),.int .i64 0]):=by
   rcases hacc with ⟨h1,_⟩ | ⟨_,h1,_⟩ | ⟨_,_,h1⟩
   ·exact absurd HPR.out.E0 h1
   ·exact absurd HSN.out.symm h1
   ·exact h1
  replace KB:=hid (onS KB.out kb);clear kb hacc t0 t1
  obtain ⟨ab,hab⟩:∃ ab,ab=(S.re y).accB u:=⟨_,rfl⟩
  rw [<-hab]
  have HAB:=hid hab
  clear hab
  obtain ⟨q0,q1,q2,q3,q4⟩:=HBOX.out _ KB.out
  go_wp2_with fail
  refine (yaL P' M' A k c f l TC n d ln V UA l uc u w7 (HI.out.on (onS HB.out KB.out)) (HT.out.on (onS HB.out KB.out)) (HW.out.on (onS HB.out KB.out)) hlu).mono ?_
  rintro e w8 ⟨kb,b,v,rfl,hwv,hbv⟩
  obtain rfl:v=0:=WordV.unique hwv ⟨0,HE0.out,.inr ⟨rfl,P',M',l,rfl,rfl,rfl,.inr ⟨rfl,.inr ⟨HAI.out,rfl⟩⟩⟩⟩
  obtain ⟨P2,M2,N2,e1,e2,e3,hin⟩:=hbv rfl
  obtain rfl:P'=P2:=by omega
  obtain rfl:M'=M2:=by omega
  obtain rfl:l=N2:=by omega
  obtain rfl:ab=b:=by
   have h1:ab=true↔b=true:=by
    rw [HAB.out,hin,<-HIN.out]
    exact Trel.acc_path HPR.out fun i hi=>by
     have:=(HAI.out i (by rw [HSN.out] at hi; exact hi)).1
     omega
   cases ab with
   | false=>cases b with
    | false=>rfl
    | true=>exact absurd (h1.2 rfl) (by simp)
   | true=>exact (h1.1 rfl).symm
  replace KB:=hid (onS KB.out kb)
  have hbb:(ab == ab)=true:=by simp
  clear hwv hbv hin kb q0 q1 q2 q3 q4 HAB e1 e2 e3
  go_wp2
  go_ret
  exact ⟨rfl,onS HB.out KB.out⟩
theorem trellisMembers_law {H:Type} {enc:TypeId × Value->H} {w:World} {cs:Array Value} {u:Value}
  (h:Sees enc Tryz.prog w 0 (fun _=>true) true 27 cs.toList) (hu:Sees enc Tryz.prog w 0 (fun _=>true) true 22 [u]) :
  Calls Tryz.prog 7 #[.agg cs,u] w fun e w'=>e=.returned (.bool true)/\Below w.heap.size w w':=by
 obtain ⟨cs⟩:=cs
 obtain ⟨P,M,A,k,c1,N,T1,n,d,f,ln,V,rfl,_,_,_,_,_,_,hr,ht⟩:=zhH h
 obtain ⟨UA,l,uc,ms,e2,hl1,hl2,hI,_⟩:=zez Tryz.underlying22 Tryz.underlying3 (by kernel_rfl) hu
 injection e2 with e2 _
 subst e2
 exact yaa P M A k c1 f N T1 n d ln V UA l uc ms w hr ht hI hl1 (by unfold maxLen at hl2; omega)
end Go.Proofs.YtgekjfpapmlndaaGreat