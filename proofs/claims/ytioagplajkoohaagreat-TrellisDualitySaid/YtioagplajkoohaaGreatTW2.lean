/- Merged texts of a claim: DualityLaw, TriPl, TriCnt, PerpCnt, ProfDual. -/
import Derived.Test.YtioagplajkoohaaGreatTQ13
import Derived.Test.YtioagplajkoohaaGreatTW1
namespace Go.Proofs.YtioagplajkoohaaGreat
set_option maxRecDepth 100000
set_option maxHeartbeats 32000000
open Go.RowKit Go.ChangeShapes Go.WideShapes Go.ChangeAt
def ProfDual:Prop:=∀ (q n N a:Nat) (add mul:Nat->Nat->Nat) (neg:Nat->Nat) (V W:Nat->Nat->Nat),FieldLaws q add mul->(∀ x,x<q->neg x<q/\add x (neg x)=0)->RrefN q n N V->NullRel q add mul neg n N V a W->∀ t,t<=N->∀ r1 r2 s1 s2:Nat,
 RankOf q n t add mul V (fun i=>i) r1->RankOf q n (N - t) add mul V (fun i=>t+i) r2->RankOf q a t add mul W (fun i=>i) s1->RankOf q a (N - t) add mul W (fun i=>t+i) s2->(r1:Int)+(r2:Int) - (n:Int)=(s1:Int)+(s2:Int) - (a:Int)
theorem trellisDuality_any (hpd:ProfDual) (P M:Int) (A:Option Addr) (k c:Nat) (f:Nat->Int) (N:Int) (TC:Option Addr) (n d:Nat) (ln:Nat->Nat) (V:Nat->Nat->Int) (w:World) (hr:IntsR w w.heap.size A k f) (h:IntRows w TC n ln V) (hkc:k<=c) :
  Calls Tryz.prog 9 #[.agg #[.int .i64 P,.int .i64 M,.slice A k c,.int .i64 N,.slice TC n d]] w fun e w'=>e=.returned (.bool true)/\Below w.heap.size w w':=by
 have HPD:=hid hpd
 have HI:=hid hr
 have HT:=hid h
 clear hr h hpd
 have rf:=zam (w:=w) (a:=.int .i64 P) (b:=.int .i64 M) (c:=.slice A k c) (d:=.int .i64 N) (e:=.slice TC n d) (T := 27)
 have hB:Below w.heap.size w (w.alloc (.cells #[.int .i64 P,.int .i64 M,.slice A k c,.int .i64 N,.slice TC n d] 27)):=(Below.refl _ _).alloc (Nat.le_refl _) _
 obtain ⟨w1,hw1⟩:∃ W,W=w.alloc (.cells #[.int .i64 P,.int .i64 M,.slice A k c,.int .i64 N,.slice TC n d] 27):=⟨_,rfl⟩
 rw [<-hw1] at hB rf
 go_enter Tryz.func9, Tryz.ntmps9
 go_upto_region 1 with fail
 rw [<-hw1]
 clear hw1
 obtain ⟨b0,hb0⟩:∃ b,b=w.heap.size:=⟨_,rfl⟩
 rw [<-hb0] at rf
 rw [<-hb0]
 clear hb0
 have HBOX:Hid (∀ X,Below w1.heap.size w1 X->(X.cell? ⟨b0,0,none⟩=some (.int .i64 P)/\X.cell? ⟨b0,1,none⟩=some (.int .i64 M)/\X.cell? ⟨b0,2,none⟩=some (.slice A k c)/\X.cell? ⟨b0,3,none⟩=some (.int .i64 N)/\X.cell? ⟨b0,4,none⟩=some (.slice TC n d))):=hid fun X hx =>
  ⟨(zaa rf hx).cell (i:=0) (by omega),(zaa rf hx).cell (i:=1) (by omega),(zaa rf hx).cell (i:=2) (by omega),(zaa rf hx).cell (i:=3) (by omega),(zaa rf hx).cell (i:=4) (by omega)⟩
 have HB:=hid hB
 clear hB rf
 go_wp2_with fail
 refine (alive47_any _).mono ?_
 rintro e w2 ⟨rfl,kb⟩
 have KB:=hid kb
 clear kb
 obtain ⟨q0,q1,q2,q3,q4⟩:=HBOX.out _ KB.out
 go_wp2_with fail
 refine (profile_any P M A k c f N TC n d ln V w2 (HI.out.on (onS HB.out KB.out)) (HT.out.on (onS HB.out KB.out))).mono ?_
 rintro e w3 ⟨kb,u,hu,he⟩
 have HU:=hid hu
 replace KB:=hid (onS KB.out kb)
 clear kb hu q0 q1 q2 q3 q4
 have hform:∃ (SA:Option Addr) (sn sc:Nat) (ev:Int),e=.returned (.tuple #[.slice SA sn sc,.int .i64 ev]):=by
  rcases he with ⟨_,h⟩ | ⟨_,P',M',N',_,_,_,g,R,h,_⟩
  ·exact ⟨_,_,_,_,h⟩
  ·exact ⟨_,_,_,_,h⟩
 obtain ⟨SA,sn,sc,ev,rfl⟩:=hform
 have HE:=hid he
 clear he
 obtain ⟨q0,q1,q2,q3,q4⟩:=HBOX.out _ KB.out
 go_wp2_with fail
 refine (zdc P M A k c f N TC n d ln V w3 (HI.out.on (onS HB.out KB.out)) (HT.out.on (onS HB.out KB.out))).mono ?_
 rintro e w4 ⟨v,rfl,hv,kb⟩
 obtain rfl:u=v:=FirstErr.unique HU.out hv
 have K4:=hid kb
 replace KB:=hid (onS KB.out kb)
 clear kb hv q0 q1 q2 q3 q4
 rcases HE.out with ⟨hu0,he⟩ | ⟨hu0,P',M',N',rfl,rfl,rfl,g,R,he,hg,hrow,hrk⟩
 ·have hnz2:(u != 0)=true:=by simpa using hu0
  have he2:(SA=none/\sn=0/\sc=0)/\ev=u:=by simpa using he
  obtain ⟨⟨rfl,rfl,rfl⟩,rfl⟩:=he2
  clear he HE hu0
  go_wp2
  go_ret
  exact ⟨rfl,onS HB.out KB.out⟩
 subst hu0
 have hz0:((0:Int) != 0)=false:=by simp
 have he2:(SA=some ⟨g,0,none⟩/\sn=N'+1/\sc=N'+1)/\ev=0:=by simpa using he
 obtain ⟨⟨rfl,rfl,rfl⟩,rfl⟩:=he2
 obtain ⟨P2,M2,N2,e1,e2,e3,hC⟩:=zbP HI.out HT.out HU.out
 obtain rfl:P'=P2:=by omega
 obtain rfl:M'=M2:=by omega
 obtain rfl:N'=N2:=by omega
 have HC:=hid hC
 have hN64:=hC.ln2
 have HRK:=hid hrk
 have HROW:=hid (zaa hrow K4.out)
 clear hC he HE hg hrow hrk K4 e1 e2 e3
 obtain ⟨q0,q1,q2,q3,q4⟩:=HBOX.out _ KB.out
 go_wp2_with fail
 refine (zhI (P':Int) (M':Int) A k c f (N':Int) TC n d ln V w4 (HI.out.on (onS HB.out KB.out)) (HT.out.on (onS HB.out KB.out)) hkc).mono ?_
 rintro e w5 ⟨kb,v,hv,hcase⟩
 obtain rfl:v=0:=FirstErr.unique hv HU.out
 rcases hcase with ⟨hv0,_⟩ | ⟨_,P2,M2,N2,hP2,hM2,hN2,hD⟩
 ·exact absurd rfl hv0
 obtain rfl:P'=P2:=by omega
 obtain rfl:M'=M2:=by omega
 obtain rfl:N'=N2:=by omega
 obtain ⟨dv,lv,a,W,rfl,hdO,hM,_,hrel⟩:=hD
 obtain ⟨DA,dc,hdv⟩:=hdO.shape
 subst hdv
 obtain ⟨LA,lc,hlv⟩:=hM.shape
 subst hlv
 have HREL:=hid hrel
 have HDC:Hid (CodeR w5 P' M' (fun i=>(f i).toNat) DA k N' LA a W):=hid ⟨HC.out.fld,hdO.rd rfl,HC.out.kM,HC.out.ln1,HC.out.ln2,hM.rd HC.out.fld.1.2.2.2 hrel.rref.choose_spec.lt,hrel.rref.choose_spec.lt,hrel.rref⟩
 have HROW5:=hid (zaa HROW.out kb)
 have K5:=hid (onS KB.out kb)
 clear kb hv hdO hM hrel q0 q1 q2 q3 q4 hP2 hM2 hN2 KB HROW
 go_upto_region 7 with fail
 have rd:=zam (w:=w5) (a:=.int .i64 (P':Nat)) (b:=.int .i64 (M':Nat)) (c:=.slice DA k dc) (d:=.int .i64 (N':Nat)) (e:=.slice LA a lc) (T := 27)
 have kb:Below w5.heap.size w5 (w5.alloc (.cells #[.int .i64 (P':Nat),.int .i64 (M':Nat),.slice DA k dc,.int .i64 (N':Nat),.slice LA a lc] 27)):=(Below.refl _ _).alloc (Nat.le_refl _) _
 obtain ⟨w6,hw6⟩:∃ W,W=w5.alloc (.cells #[.int .i64 (P':Nat),.int .i64 (M':Nat),.slice DA k dc,.int .i64 (N':Nat),.slice LA a lc] 27):=⟨_,rfl⟩
 rw [<-hw6] at rd kb ⊢
 clear hw6
 have HDC6:=hid (HDC.out.on kb)
 have HROW6:=hid (zaa HROW5.out kb)
 have K6:=hid (onS K5.out kb)
 obtain ⟨db,hdb⟩:∃ b,b=w5.heap.size:=⟨_,rfl⟩
 rw [<-hdb] at rd ⊢
 clear hdb kb
 have q0:=rd.cell (i:=0) (by omega)
 have q1:=rd.cell (i:=1) (by omega)
 have q2:=rd.cell (i:=2) (by omega)
 have q3:=rd.cell (i:=3) (by omega)
 have q4:=rd.cell (i:=4) (by omega)
 clear rd
 go_wp2_with fail
 refine (profile_any (P':Int) (M':Int) DA k dc (fun i=>((f i).toNat:Int)) (N':Int) LA a lc (fun _=>N') (fun i j=>((W i j:Nat):Int)) w6 HDC6.out.ints HDC6.out.rows).mono ?_
 rintro e w7 ⟨kb,u2,hu2,he⟩
 obtain rfl:u2=0:=FirstErr.unique hu2 HDC6.out.errs
 rcases he with ⟨hu0,_⟩ | ⟨_,P2,M2,N2,hP2,hM2,hN2,g2,R2,rfl,hg2,hrow2,hrk2⟩
 ·exact absurd rfl hu0
 obtain rfl:P'=P2:=by omega
 obtain rfl:M'=M2:=by omega
 obtain rfl:N'=N2:=by omega
 simp only [Int.toNat_natCast,ziI] at hrk2
 have HSAME:Hid (∀ t,t<N'+1->R2 t=R t):=hid fun t ht=>by
  obtain ⟨r1,r2,e1,g1,g3⟩:=HRK.out t (by omega)
  obtain ⟨s1,s2,e2,g4,g5⟩:=hrk2 t (by omega)
  have hP0:0<P':=by have:=HC.out.fld.1.1; omega
  have:=HPD.out _ n N' a _ _ _ _ W (fieldLaws HC.out.fld) (fun x _=>⟨za7 hP0,zaR hP0⟩) HC.out.rref HREL.out t (by omega) r1 r2 s1 s2 g1 g3 g4 g5
  rw [e1,e2,this]
 have HRA:Hid (IntsR w7 w7.heap.size (some ⟨g,0,none⟩) (N'+1) R):=hid (zbk (zaa HROW6.out kb))
 have HRB:Hid (IntsR w7 w7.heap.size (some ⟨g2,0,none⟩) (N'+1) R):=hid ((show IntsR w7 w7.heap.size (some ⟨g2,0,none⟩) (N'+1) R2 from zbk hrow2).congr fun t ht=>HSAME.out t ht)
 have K7:=hid (onS K6.out kb)
 clear kb hu2 hg2 hrow2 hrk2 hP2 hM2 hN2 q0 q1 q2 q3 q4
 obtain ⟨q0,q1,q2,q3,q4⟩:=HBOX.out _ K7.out
 have hzz:((0:Int) == 0)=true:=by simp
 have hbe:(((N':Int)+1) == ((N':Int)+1))=true:=by simp
 go_wp2_with fail
 refine (same11eq_any (some ⟨g,0,none⟩) (some ⟨g2,0,none⟩) (N'+1) (N'+1) (N'+1) R w7 HRA.out HRB.out (by omega)).mono ?_
 rintro e w8 ⟨rfl,kb⟩
 have K8:=hid (onS K7.out kb)
 clear kb q0 q1 q2 q3 q4
 go_wp2
 go_ret
 exact ⟨rfl,onS HB.out K8.out⟩
theorem trellisDuality_law (hpd:ProfDual) {H:Type} {enc:TypeId × Value->H} {w:World} {cs:Array Value}
  (h:Sees enc Tryz.prog w 0 (fun _=>true) true 27 cs.toList) :
  Calls Tryz.prog 9 #[.agg cs] w fun e w'=>e=.returned (.bool true)/\Below w.heap.size w w':=by
 obtain ⟨cs⟩:=cs
 obtain ⟨P,M,A,k,c1,N,T1,n,d,f,ln,V,rfl,_,_,hkc,_,_,_,hr,ht⟩:=zhy h
 exact trellisDuality_any hpd P M A k c1 f N T1 n d ln V w hr ht hkc
section
variable {q k m:Nat} {add mul:Nat->Nat->Nat} {neg:Nat->Nat} {B:Nat->Nat->Nat} {p:Nat->Nat}
theorem dotN_same {b c c':Nat->Nat}:∀ n,(∀ j,j<n->mul (c j) (b j)=mul (c' j) (b j))->dotN add mul c b n=dotN add mul c' b n
 | 0,_=>rfl
 | n+1,h=>by
  show add (dotN add mul c b n) (mul (c n) (b n))=add (dotN add mul c' b n) (mul (c' n) (b n))
  rw [dotN_same n fun j hj=>h j (by omega),h n (by omega)]
theorem Tri.solve (hL:FieldLaws q add mul) (hneg:∀ x,x<q->neg x<q/\add x (neg x)=0) (h:Tri q k m B p) {c0 y:Nat->Nat} (hc0:∀ j,c0 j<q) (hy:∀ s,s<m->y s<q) :
  ∃ c:Nat->Nat,(∀ j,c j<q)/\(∀ j,(∀ t,t<m->p t≠j)->c j=c0 j)/\∀ s,s<m->dotN add mul c (B s) k=y s:=by
 classical
 have hq:=hL.two
 have key:∀ d,d<=m->∃ c:Nat->Nat,(∀ j,c j<q)/\(∀ j,(∀ t,t<m->p t≠j)->c j=c0 j)/\(∀ t,t<m - d->c (p t)=0)/\∀ s,m - d<=s->s<m->dotN add mul c (B s) k=y s:=by
  intro d
  induction d with
  | zero =>
   intro _
   refine ⟨fun j=>if ∃ t,t<m/\p t=j then 0 else c0 j,fun j=>?_,fun j hj=>?_,fun t ht=>?_,fun s h1 h2=>absurd h2 (by omega)⟩
   ·show (if ∃ t,t<m/\p t=j then 0 else c0 j)<q
    split
    ·omega
    ·exact hc0 j
   ·exact if_neg fun ⟨t,ht,e⟩=>hj t ht e
   ·exact if_pos ⟨t,by omega,rfl⟩
  | succ d ih =>
   intro hd
   obtain ⟨c,g1,g2,g3,g4⟩:=ih (by omega)
   obtain ⟨s0,hs0⟩:∃ s0,s0=m - (d+1):=⟨_,rfl⟩
   have hs0m:s0<m:=by omega
   have hb:∀ s,s<m->∀ i,i<k->c i<q/\B s i<q:=fun s hs i hi=>⟨g1 i,h.lt s hs i hi⟩
   have hD:=zjw hL c (B s0) k
   obtain ⟨hn1,hn2⟩:=hneg _ hD
   obtain ⟨v,hv⟩:∃ v,v=add (y s0) (neg (dotN add mul c (B s0) k)):=⟨_,rfl⟩
   have hvq:v<q:=by rw [hv]; exact hL.addLt _ _
   have hc0':c (p s0)=0:=g3 s0 (by omega)
   have hup:=fun s hs=>dotN_upd hL (c:=c) (b:=B s) (j:=p s0) (v:=v) hc0' hvq k (hb s hs)
   refine ⟨fun i=>if i=p s0 then v else c i,fun j=>?_,fun j hj=>?_,fun t ht=>?_,fun s h1 h2=>?_⟩
   ·show (if j=p s0 then v else c j)<q
    split
    ·exact hvq
    ·exact g1 j
   ·show (if j=p s0 then v else c j)=c0 j
    rw [if_neg fun e=>hj s0 hs0m e.symm]
    exact g2 j hj
   ·show (if p t=p s0 then v else c (p t))=0
    rw [if_neg (h.ne (by omega) hs0m)]
    exact g3 t (by omega)
   ·rw [hup s h2,if_pos (h.plt s0 hs0m)]
    by_cases e:s=s0
    ·subst e
     rw [h.one s hs0m,hL.mulComm _ _ hvq (by omega),hL.oneMul v hvq,hv,hL.addComm (y s),<-hL.addAssoc _ _ _ hD hn1 (hy s hs0m),hn2,hL.zeroAdd _ (hy s hs0m)]
    ·rw [h.zero s0 s (by omega) h2,hL.mulZero hvq,hL.addZero (zjw hL _ _ _)]
     exact g4 s (by omega) h2
 obtain ⟨c,g1,g2,_,g4⟩:=key m (Nat.le_refl _)
 exact ⟨c,g1,g2,fun s hs=>g4 s (by omega) hs⟩
theorem Tri.solve_one (hL : FieldLaws q add mul) (h : Tri q k m B p) {c c' : Nat → Nat} (hc : ∀ j, j < k → c j < q) (hc' : ∀ j, j < k → c' j < q) (hoff : ∀ j, j < k → (∀ t, t < m → p t ≠ j) → c j = c' j) (hd : ∀ s, s < m → dotN add mul c (B s) k = dotN add mul c' (B s) k) :
  ∀ j,j<k->c j=c' j:=by
 classical
 have hq:=hL.two
 have key : ∀ d, d ≤ m → ∀ t, m - d ≤ t → t < m → c (p t) = c' (p t) := by
  intro d
  induction d with
  | zero=>intro _ t h1 h2; omega
  | succ d ih =>
   intro hd2 t h1 h2
   by_cases e:m - d<=t
   ·exact ih (by omega) t e h2
   ·have hpt := h.plt t h2
    have split0:∀ x:Nat->Nat,(∀ j,j<k->x j<q)->dotN add mul x (B t) k=add (dotN add mul (fun j=>if j=p t then 0 else x j) (B t) k) (x (p t)):=fun x hx=>by
     have hu:=dotN_upd hL (c:=fun j=>if j=p t then 0 else x j) (b:=B t) (j:=p t) (v:=x (p t)) (if_pos rfl) (hx _ hpt) k (fun i hi=>⟨by
      show (if i=p t then 0 else x i)<q
      split
      ·omega
      ·exact hx i hi,h.lt t h2 i hi⟩)
     rw [if_pos hpt,h.one t h2,hL.mulComm _ _ (hx _ hpt) (by omega),hL.oneMul _ (hx _ hpt)] at hu
     rw [<-hu]
     refine dotN_same k fun j hj=>?_
     show mul (x j) (B t j)=mul (if j=p t then x (p t) else if j=p t then 0 else x j) (B t j)
     by_cases e2:j=p t
     ·rw [if_pos e2,e2]
     ·rw [if_neg e2,if_neg e2]
    have e1:=split0 c hc
    have e2:=split0 c' hc'
    have e3 : dotN add mul (fun j => if j = p t then 0 else c j) (B t) k = dotN add mul (fun j => if j = p t then 0 else c' j) (B t) k := dotN_same k fun j hj => by
     show mul (if j=p t then 0 else c j) (B t j)=mul (if j=p t then 0 else c' j) (B t j)
     by_cases e5:j=p t
     ·rw [if_pos e5,if_pos e5]
     ·rw [if_neg e5, if_neg e5]
      by_cases e6:∃ s,s<m/\p s=j
      ·obtain ⟨s,hs,rfl⟩:=e6
       by_cases e7:m - d<=s
       ·rw [ih (by omega) s e7 hs]
       ·have hst:s<t:=by
         have:s≠t:=fun e=>e5 (by rw [e])
         omega
        rw [h.zero s t hst h2,hL.mulZero (hc _ hj),hL.mulZero (hc' _ hj)]
      ·rw [hoff j hj fun t ht e=>e6 ⟨t,ht,e⟩]
    rw [hd t h2,e2,e3] at e1
    have hD:=zjw hL (fun j=>if j=p t then 0 else c' j) (B t) k
    obtain ⟨z,hz1,hz2⟩:=hL.neg _ hD
    have e4:add z (add (dotN add mul (fun j=>if j=p t then 0 else c' j) (B t) k) (c' (p t)))=add z (add (dotN add mul (fun j=>if j=p t then 0 else c' j) (B t) k) (c (p t))):=by rw [e1]
    rw [<-hL.addAssoc _ _ _ hz1 hD (hc' _ hpt),<-hL.addAssoc _ _ _ hz1 hD (hc _ hpt),hL.addComm z,hz2,hL.zeroAdd _ (hc' _ hpt),hL.zeroAdd _ (hc _ hpt)] at e4
    exact e4.symm
 intro j hj
 by_cases e:∃ t,t<m/\p t=j
 ·obtain ⟨t,ht,rfl⟩:=e
  exact key m (Nat.le_refl _) t (by omega) ht
 ·exact hoff j hj fun t ht e2=>e ⟨t,ht,e2⟩
theorem cntB_all {D:Nat->Bool}:∀ n,(∀ j,j<n->D j=true)->cntB D n=n
 | 0,_=>rfl
 | n+1,h=>by
  show cntB D n+(if D n then 1 else 0)=n+1
  rw [cntB_all n fun j hj=>h j (by omega),h n (by omega)]
  rfl
theorem cntB_flip {D E:Nat->Bool} {j0:Nat} (h1:D j0=true) (h2:E j0=false) (h3:∀ j,j≠j0->D j=E j):∀ n,cntB D n=cntB E n+if j0<n then 1 else 0
 | 0=>by rw [if_neg (by omega)]; rfl
 | n + 1 => by
  show cntB D n+(if D n then 1 else 0)=cntB E n+(if E n then 1 else 0)+_
  rw [cntB_flip h1 h2 h3 n]
  by_cases e:n=j0
  ·subst e
   simp [h1,h2]
  ·have hi:(j0<n+1)↔(j0<n):=by omega
   rw [h3 n e]
   simp only [hi]
   omega
def offB (p:Nat->Nat):Nat->Nat->Bool
 | 0,_=>true
 | m+1,j=>offB p m j && decide (p m≠j)
theorem offB_iff {p:Nat->Nat} {j:Nat}:∀ m,offB p m j=true↔∀ t,t<m->p t≠j
 | 0=>⟨fun _ t h=>absurd h (by omega),fun _=>rfl⟩
 | m + 1 => by
  show (offB p m j && decide (p m≠j))=true↔_
  rw [Bool.and_eq_true,offB_iff m,decide_eq_true_iff]
  constructor
  ·rintro ⟨h1,h2⟩ t ht
   by_cases e:t=m
   ·rw [e]; exact h2
   ·exact h1 t (by omega)
  ·exact fun h=>⟨fun t ht=>h t (by omega),h m (by omega)⟩
theorem cntB_off {p:Nat->Nat} {k:Nat}:∀ m,(∀ t,t<m->p t<k)->(∀ s t,s<t->t<m->p s≠p t)->cntB (offB p m) k+m=k
 | 0,_,_=>cntB_all k fun j _=>rfl
 | m + 1, h1, h2 => by
  have ih:=cntB_off m (fun t ht=>h1 t (by omega)) (fun s t hs ht=>h2 s t hs (by omega))
  have hf:=cntB_flip (D:=offB p m) (E:=offB p (m+1)) (j0:=p m) ((offB_iff m).2 fun t ht=>h2 t m ht (by omega)) (by
   show (offB p m (p m) && decide (p m≠p m))=false
   simp) (fun j hj=>by
   show offB p m j=(offB p m j && decide (p m≠j))
   have h9:p m≠j:=fun e=>hj e.symm
   simp [h9]) k
  rw [if_pos (h1 m (by omega))] at hf
  omega
theorem Tri.free (h:Tri q k m B p):cntB (offB p m) k+m=k:=cntB_off m h.plt fun _ _ hs ht=>h.ne hs ht
end
section
variable {q k m n a:Nat} {add mul:Nat->Nat->Nat} {neg:Nat->Nat} {B:Nat->Nat->Nat} {p:Nat->Nat}
theorem dot_same (hL:FieldLaws q add mul) (hneg:∀ x,x<q->neg x<q/\add x (neg x)=0) {c c' b:Nat->Nat} (hc:∀ j,j<k->c j<q) (hc':∀ j,j<k->c' j<q) (hb:∀ j,j<k->b j<q) :
  dotN add mul (fun j=>add (c j) (neg (c' j))) b k=0↔dotN add mul c b k=dotN add mul c' b k:=by
 have hq:=hL.two
 have e1:dotN add mul c b k=dotN add mul (fun j=>add (add (c j) (neg (c' j))) (c' j)) b k:=dotN_congr k fun j hj=>⟨by
  obtain ⟨h1,h2⟩:=hneg _ (hc' j hj)
  rw [hL.addAssoc _ _ _ (hc j hj) h1 (hc' j hj),hL.addComm (neg (c' j)),h2,hL.addZero (hc j hj)],rfl⟩
 rw [dotN_add hL k fun j hj=>⟨hL.addLt _ _,hc' j hj,hb j hj⟩] at e1
 have hd:=zjw hL (fun j=>add (c j) (neg (c' j))) b k
 have hd':=zjw hL c' b k
 rw [e1]
 constructor
 ·intro h
  rw [h,hL.zeroAdd _ hd']
 ·intro h
  rw [hL.addComm] at h
  exact add_left hL (x:=dotN add mul c' b k) hd' hd (by omega) (h.trans (hL.addZero hd').symm)
theorem orth_same (hL:FieldLaws q add mul) (hneg:∀ x,x<q->neg x<q/\add x (neg x)=0) {V:Nat->Nat->Nat} {fc:Nat->Nat} (ht:Tri q n m B p) (hV:∀ t,t<a->∀ i,i<n->V i (fc t)<q)
  (hk:∀ c,(∀ j,j<n->c j<q)->(OrthU add mul V fc n a c↔KerB add mul n m B c)) {c c':Nat->Nat} (hc:∀ j,j<n->c j<q) (hc':∀ j,j<n->c' j<q) :
  (∀ t,t<a->dotN add mul c (fun j=>V j (fc t)) n=dotN add mul c' (fun j=>V j (fc t)) n)↔∀ s,s<m->dotN add mul c (B s) n=dotN add mul c' (B s) n:=by
 have h:=hk (fun j=>add (c j) (neg (c' j))) fun j _=>hL.addLt _ _
 constructor
 ·intro h1 s hs
  exact (dot_same hL hneg hc hc' (ht.lt s hs)).1 (h.1 (fun t ht2=>(dot_same hL hneg hc hc' (hV t ht2)).2 (h1 t ht2)) s hs)
 ·intro h1 t ht2
  exact (dot_same hL hneg hc hc' (hV t ht2)).1 (h.2 (fun s hs=>(dot_same hL hneg hc hc' (ht.lt s hs)).2 (h1 s hs)) t ht2)
theorem im_cnt (hq:0<q) [iA:Add (El q)] [iM:Mul (El q)] [iN:Neg (El q)] [i0:Zero (El q)] [i1:One (El q)] (O:OnEl q add mul) {L:List (El q)} (hn:L.Nodup) (hcL:∀ a,a ∈ L) (hL:FieldLaws q add mul) (hneg:∀ x,x<q->neg x<q/\add x (neg x)=0) {V:Nat->Nat->Nat} {fc:Nat->Nat} {T r:Nat}
  (hV:∀ i,i<n->∀ t,t<T->V i (fc t)<q) (h:RankOf q n T add mul V fc r) :
  cntW L T (Gen T n fun u=>wordK q hq T (fun j=>V u (fc j)))=((q ^ r:Nat):Rat):=by
 obtain ⟨B,p,ht,hk⟩:=h
 have hs:=fun i=>Tri.solve (neg:=neg) hL hneg ht (c0:=fun _=>0) (y:=msgD q r i) (fun _=>hq) (fun s _=>zeb hq)
 obtain ⟨sol,hsol⟩:∃ sol:Nat->Nat->Nat,∀ i,(∀ j,sol i j<q)/\∀ s,s<r->dotN add mul (sol i) (B s) n=msgD q r i s:=⟨fun i=>(hs i).choose,fun i=>⟨(hs i).choose_spec.1,(hs i).choose_spec.2.2⟩⟩
 have hcol:∀ (c:Nat->Nat) t,spE add mul (fun u j=>V u (fc j)) c n t=dotN add mul c (fun j=>V j (fc t)) n:=fun c t=>(dotN_col (V:=fun u j=>V u (fc j)) n).symm
 have hos:=fun (c c':Nat->Nat) (hc:∀ j,j<n->c j<q) (hc':∀ j,j<n->c' j<q)=>orth_same (neg:=neg) hL hneg ht (fun t ht2 i hi=>hV i hi t ht2) hk hc hc'
 have d1:∀ i,i<q ^ r->(wordK q hq T (spE add mul (fun u j=>V u (fc j)) (sol i) n)).length=T:=fun i _=>za1 hq T _
 have d2:∀ i,i<q ^ r->Gen T n (fun u=>wordK q hq T (fun j=>V u (fc j))) (wordK q hq T (spE add mul (fun u j=>V u (fc j)) (sol i) n)):=fun i _ =>
  (zaG hq O.fie hL O.ha O.hm O.h0 (V:=fun u j=>V u (fc j)) hV fun j _=>zcL hL _ _ _).1 ⟨_,fun j _=>(hsol i).1 j,fun j _=>rfl⟩
 have d3:∀ i j,i<q ^ r->j<q ^ r->wordK q hq T (spE add mul (fun u j=>V u (fc j)) (sol i) n)=wordK q hq T (spE add mul (fun u j=>V u (fc j)) (sol j) n)->i=j:=fun i j hi hj e=>by
  have e2:=wordK_inj hq (fun j _=>zcL hL _ _ _) (fun j _=>zcL hL _ _ _) e
  have e3:=(hos (sol i) (sol j) (fun t _=>(hsol i).1 t) (fun t _=>(hsol j).1 t)).1 fun t ht2=>by
   rw [<-hcol,<-hcol]
   exact e2 t ht2
  refine zjq hq hi hj fun t ht2=>?_
  have h1:=e3 (r - 1 - t) (by omega)
  rw [(hsol i).2 _ (by omega),(hsol j).2 _ (by omega)] at h1
  unfold msgD at h1
  rwa [show r - 1 - (r - 1 - t)=t by omega] at h1
 have d4:∀ x,x.length=T->Gen T n (fun u=>wordK q hq T (fun j=>V u (fc j))) x->∃ i,i<q ^ r/\wordK q hq T (spE add mul (fun u j=>V u (fc j)) (sol i) n)=x:=fun x _ hx=>by
  have ex:=zfg (U:=fun u j=>V u (fc j)) hq O hx
  rw [ex] at hx
  obtain ⟨c,h1,h2⟩:=(zaG hq O.fie hL O.ha O.hm O.h0 (V:=fun u j=>V u (fc j)) hV fun j _=>(ent x j).lt).2 hx
  obtain ⟨i,hi,h3⟩:=zjr (n:=r) (c:=fun s=>dotN add mul c (B s) n) fun s _=>zjw hL _ _ _
  refine ⟨i,hi,?_⟩
  rw [ex]
  refine zfD hq fun j hj=>?_
  rw [hcol]
  have e3:=(hos (sol i) c (fun t _=>(hsol i).1 t) h1).2 (fun s hs2=>by
   rw [(hsol i).2 s hs2]
   exact h3 s hs2) j hj
  rw [e3,<-hcol]
  exact (h2 j hj).symm
 unfold cntW
 rw [sum_code hn hcL d1 d2 d3 d4 (fun _=>(1:Rat)),zcI]
 simp
end
section
variable {q N n a:Nat} {add mul:Nat->Nat->Nat} {neg:Nat->Nat}
def extN (lo len:Nat) (x:Nat->Nat) (j:Nat):Nat:=if lo<=j/\j<lo+len then x (j - lo) else 0
theorem extN_lt (hq:0<q) {lo len:Nat} {x:Nat->Nat} (hx:∀ j,j<len->x j<q) (j:Nat):extN lo len x j<q:=by
 unfold extN
 split
 ·exact hx _ (by omega)
 ·exact hq
theorem dot_ext (hL:FieldLaws q add mul) {lo len:Nat} {x v:Nat->Nat} (hv:∀ j,j<N->v j<q) (hlN:lo+len<=N):dotN add mul (extN lo len x) v N=dotN add mul x (fun j=>v (lo+j)) len:=by
 have hq:0<q:=by have:=hL.two; omega
 have e1:∀ r,r<=lo->dotN add mul (extN lo len x) v r=0:=fun r hr=>dotN_zero hL r (fun i hi=>hv i (by omega)) _ fun i hi=>by
  unfold extN
  rw [if_neg (by omega)]
 have e2:∀ i,i<=len->dotN add mul (extN lo len x) v (lo+i)=dotN add mul x (fun j=>v (lo+j)) i:=fun i=>by
  induction i with
  | zero=>exact fun _=>e1 lo (Nat.le_refl _)
  | succ i ih =>
   intro hi
   show add (dotN add mul (extN lo len x) v (lo+i)) (mul (extN lo len x (lo+i)) (v (lo+i)))=add (dotN add mul x (fun j=>v (lo+j)) i) (mul (x i) (v (lo+i)))
   rw [ih (by omega)]
   have e3:extN lo len x (lo+i)=x i:=by
    unfold extN
    rw [if_pos (by omega),show lo+i - lo=i by omega]
   rw [e3]
 have e4:∀ d,lo+len+d<=N->dotN add mul (extN lo len x) v (lo+len+d)=dotN add mul x (fun j=>v (lo+j)) len:=fun d=>by
  induction d with
  | zero=>exact fun _=>e2 len (Nat.le_refl _)
  | succ d ih =>
   intro hd
   show add (dotN add mul (extN lo len x) v (lo+len+d)) (mul (extN lo len x (lo+len+d)) (v (lo+len+d)))=_
   have e3:extN lo len x (lo+len+d)=0:=by
    unfold extN
    rw [if_neg (by omega)]
   rw [ih (by omega),e3,hL.mulComm 0 _ hq (hv _ (by omega)),hL.mulZero (hv _ (by omega)),hL.addZero (zjw hL _ _ _)]
 have:=e4 (N - (lo+len)) (by omega)
 rwa [show lo+len+(N - (lo+len))=N by omega] at this
theorem perp_dot (hq:0<q) [iA:Add (El q)] [iM:Mul (El q)] [iN:Neg (El q)] [i0:Zero (El q)] [i1:One (El q)] (O:OnEl q add mul) {U:Nat->Nat->Nat} (hU:∀ i,i<n->∀ j,j<N->U i j<q) {x:Nat->Nat} (hx:∀ j,j<N->x j<q) :
  perpW N (Gen N n fun i=>wordK q hq N (U i)) (wordK q hq N x)↔∀ k,k<n->dotN add mul x (U k) N=0:=by
 have F:=O.fie
 have hlx:=za1 hq N x
 have hdot:∀ k,k<n->(dotW (wordK q hq N x) (wordK q hq N (U k))=0↔dotN add mul x (U k) N=0):=fun k hk=>by
  have e1:=zgU hq O (x:=x) (y:=U k) N fun j hj=>⟨hx j hj,hU k hk j hj⟩
  have e2:dotW (wordK q hq N x) (wordK q hq N (U k))=sumK N (fun j=>toEl q hq (x j)*toEl q hq (U k j)):=by
   rw [zcK F (za1 hq N _) (za1 hq N _)]
   exact zaX fun j hj=>by rw [zcf hq,zcf hq,za2 hj,za2 hj]
  rw [e2]
  constructor
  ·intro h
   rw [h,O.h0] at e1
   exact e1.symm
  ·intro h
   exact El.ext' (by rw [e1,h,O.h0])
 constructor
 ·rintro ⟨h2,h3⟩ k hk
  exact (hdot k hk).1 (h3 _ (Gen.row (k:=N) (n:=n) (r:=fun i=>wordK q hq N (U i)) k hk))
 ·intro h
  exact ⟨hlx,fun y hy=>Gen.perp F (fun i _=>za1 hq N _) (fun i hi=>(hdot i hi).2 (h i hi)) y hy⟩
theorem perp_words (hq:0<q) [iA:Add (El q)] [iM:Mul (El q)] [iN:Neg (El q)] [i0:Zero (El q)] [i1:One (El q)] (O:OnEl q add mul) (hL:FieldLaws q add mul) (hneg:∀ x,x<q->neg x<q/\add x (neg x)=0) {V W:Nat->Nat->Nat} {lo len T:Nat} {gc:Nat->Nat} (hV:∀ i,i<n->∀ j,j<N->V i j<q) (hW:∀ i,i<a->∀ j,j<N->W i j<q) (h:NullRel q add mul neg n N V a W) (hlN:lo+len<=N)
  (hg:∀ t,t<T->gc t<N/\¬ (lo<=gc t/\gc t<lo+len)) (hcov:∀ j,j<N->(lo<=j/\j<lo+len)∨∃ t,t<T/\gc t=j) {x:Nat->Nat} (hx:∀ j,j<len->x j<q) :
  perpW len (Gen len n fun i=>wordK q hq len (fun j=>V i (lo+j))) (wordK q hq len x)↔∃ c,(∀ j,j<a->c j<q)/\OrthU add mul W gc a T c/\∀ j,j<len->x j=spE add mul W c a (lo+j):=by
 have hex:=fun j=>extN_lt (lo:=lo) (len:=len) hq hx j
 have g1:=perp_dot (n:=n) (N:=len) hq O (U:=fun i j=>V i (lo+j)) (fun i hi j hj=>hV i hi _ (by omega)) hx
 have g2:=perp_dot (n:=n) (N:=N) hq O (U:=V) hV (x:=extN lo len x) (fun j _=>hex j)
 have g3:=NullRel.perp hq O hL hneg hV h (wordK q hq N (extN lo len x))
 have g4:=zaG hq O.fie hL O.ha O.hm O.h0 (V:=W) hW (x:=extN lo len x) (fun j _=>hex j)
 have g5:(∀ k,k<n->dotN add mul x (fun j=>V k (lo+j)) len=0)↔∀ k,k<n->dotN add mul (extN lo len x) (V k) N=0 :=
  ⟨fun e k hk=>(dot_ext hL (hV k hk) hlN).trans (e k hk),fun e k hk=>(dot_ext hL (hV k hk) hlN).symm.trans (e k hk)⟩
 rw [g1,g5,<-g2,g3,<-g4]
 constructor
 ·rintro ⟨c,h1,h2⟩
  refine ⟨c,h1,fun t ht=>?_,fun j hj=>?_⟩
  ·obtain ⟨k1,k2⟩:=hg t ht
   have e:=h2 _ k1
   rw [dotN_col,<-e]
   exact if_neg k2
  ·rw [<-h2 _ (by omega)]
   unfold extN
   rw [if_pos (by omega),show lo+j - lo=j by omega]
 ·rintro ⟨c,h1,h2,h3⟩
  refine ⟨c,h1,fun j hj=>?_⟩
  by_cases e:lo<=j/\j<lo+len
  ·have e4:=h3 (j - lo) (by omega)
   rw [show lo+(j - lo)=j by omega] at e4
   rw [<-e4]
   exact if_pos e
  ·rcases hcov j hj with e1 | ⟨t,ht,rfl⟩
   ·exact absurd e1 e
   ·have e4:=h2 t ht
    rw [dotN_col] at e4
    rw [e4]
    exact if_neg e
theorem word_back (hq:0<q) [i0:Zero (El q)] {k:Nat} {x:List (El q)} (hx:x.length=k):x=wordK q hq k (fun j=>(ent x j).val):=by
 refine zd7 hx (za1 hq k _) fun j hj=>?_
 rw [zcf hq,za2 hj]
 exact El.ext' (zak hq (ent x j).lt).symm
theorem perp_cnt (hq:0<q) [iA:Add (El q)] [iM:Mul (El q)] [iN:Neg (El q)] [i0:Zero (El q)] [i1:One (El q)] (O:OnEl q add mul) {L:List (El q)} (hn:L.Nodup) (hcL:∀ a,a ∈ L) (hL:FieldLaws q add mul) (hneg:∀ x,x<q->neg x<q/\add x (neg x)=0) {V W:Nat->Nat->Nat} {lo len T r:Nat} {gc:Nat->Nat} (hV:∀ i,i<n->∀ j,j<N->V i j<q) (h:NullRel q add mul neg n N V a W) (hlN:lo+len<=N)
  (hg:∀ t,t<T->gc t<N/\¬ (lo<=gc t/\gc t<lo+len)) (hcov:∀ j,j<N->(lo<=j/\j<lo+len)∨∃ t,t<T/\gc t=j) (hr:RankOf q a T add mul W gc r) :
  ∃ z,z+r=a/\cntW L len (perpW len (Gen len n fun i=>wordK q hq len (fun j=>V i (lo+j))))=((q ^ z:Nat):Rat):=by
 obtain ⟨pw,hE⟩:=h.rref
 have hW:=hE.lt
 obtain ⟨B,p,ht,hk⟩:=hr
 refine ⟨_,ht.free,?_⟩
 have hpb:∀ i,∃ c:Nat->Nat,(∀ s,c s<q)/\(i<q ^ cntB (offB p r) a->packB q (offB p r) c a=i):=fun i=>by
  by_cases hi:i<q ^ cntB (offB p r) a
  ·obtain ⟨c,h1,_,h3⟩:=packB_surj hq (D:=offB p r) a i hi
   exact ⟨c,h1,fun _=>h3⟩
  ·exact ⟨fun _=>0,fun _=>hq,fun h=>absurd h hi⟩
 have hs:=fun i=>Tri.solve (neg:=neg) hL hneg ht (c0:=(hpb i).choose) (y:=fun _=>0) (hpb i).choose_spec.1 (fun _ _=>hq)
 obtain ⟨sol,hsol⟩:∃ sol:Nat->Nat->Nat,∀ i,(∀ j,sol i j<q)/\(i<q ^ cntB (offB p r) a->packB q (offB p r) (sol i) a=i)/\KerB add mul a r B (sol i):=by
  refine ⟨fun i=>(hs i).choose,fun i=>⟨(hs i).choose_spec.1,fun hi=>?_,(hs i).choose_spec.2.2⟩⟩
  rw [packB_congr (c':=(hpb i).choose) a fun s _ hD=>(hs i).choose_spec.2.1 s ((offB_iff r).1 hD)]
  exact (hpb i).choose_spec.2 hi
 have hpw:=fun {x:Nat->Nat} (hx:∀ j,j<len->x j<q)=>perp_words hq O hL hneg hV hW h hlN hg hcov hx
 have hbd:∀ c:Nat->Nat,∀ j,j<len->spE add mul W c a (lo+j)<q:=fun c j _=>zcL hL _ _ _
 have hor:∀ i,OrthU add mul W gc a T (sol i):=fun i=>(hk _ fun j _=>(hsol i).1 j).2 (hsol i).2.2
 have d1:∀ i,i<q ^ cntB (offB p r) a->(wordK q hq len (fun j=>spE add mul W (sol i) a (lo+j))).length=len:=fun i _=>za1 hq len _
 have d2:∀ i,i<q ^ cntB (offB p r) a->perpW len (Gen len n fun i=>wordK q hq len (fun j=>V i (lo+j))) (wordK q hq len (fun j=>spE add mul W (sol i) a (lo+j))):=fun i _ =>
  (hpw (hbd (sol i))).2 ⟨sol i,fun j _=>(hsol i).1 j,hor i,fun j _=>rfl⟩
 -- a word inside is of one message
 have huniq:∀ c c':Nat->Nat,(∀ j,j<a->c j<q)->(∀ j,j<a->c' j<q)->OrthU add mul W gc a T c->OrthU add mul W gc a T c'->(∀ j,j<len->spE add mul W c a (lo+j)=spE add mul W c' a (lo+j))->∀ s,s<a->c s=c' s:=fun c c' hc hc' ho ho' e s hs2=>by
  have e1:spE add mul W c a (pw s)=spE add mul W c' a (pw s):=by
   rcases hcov (pw s) (hE.pvlt s hs2) with ⟨k1,k2⟩ | ⟨t,ht2,e2⟩
   ·have:=e (pw s - lo) (by omega)
    rwa [show lo+(pw s - lo)=pw s by omega] at this
   ·have k1:=ho t ht2
    have k2:=ho' t ht2
    rw [dotN_col] at k1 k2
    rw [<-e2,k1,k2]
  rwa [hE.spE_pv hL hc hs2,hE.spE_pv hL hc' hs2] at e1
 have d3:∀ i j,i<q ^ cntB (offB p r) a->j<q ^ cntB (offB p r) a->wordK q hq len (fun t=>spE add mul W (sol i) a (lo+t))=wordK q hq len (fun t=>spE add mul W (sol j) a (lo+t))->i=j:=fun i j hi hj e=>by
  have e2:=wordK_inj hq (hbd (sol i)) (hbd (sol j)) e
  have e3:=huniq _ _ (fun t _=>(hsol i).1 t) (fun t _=>(hsol j).1 t) (hor i) (hor j) e2
  rw [<-(hsol i).2.1 hi,<-(hsol j).2.1 hj]
  exact packB_congr a fun s hs2 _=>e3 s hs2
 have d4:∀ x,x.length=len->perpW len (Gen len n fun i=>wordK q hq len (fun j=>V i (lo+j))) x->∃ i,i<q ^ cntB (offB p r) a/\wordK q hq len (fun j=>spE add mul W (sol i) a (lo+j))=x:=fun x hxl hx=>by
  have ex:x=wordK q hq len (fun j=>(ent x j).val):=word_back hq hxl
  rw [ex] at hx
  obtain ⟨c,h1,h2,h3⟩:=(hpw fun j _=>(ent x j).lt).1 hx
  have hkc:=(hk c h1).1 h2
  have hi:=packB_lt (D:=offB p r) a h1
  refine ⟨packB q (offB p r) c a,hi,?_⟩
  have e4:=packB_inj a (fun s _=>(hsol (packB q (offB p r) c a)).1 s) h1 ((hsol _).2.1 hi)
  have e5:=Tri.solve_one hL ht (fun j _=>(hsol (packB q (offB p r) c a)).1 j) h1 (fun j hj hoff=>e4 j hj ((offB_iff r).2 hoff)) fun s hs2=>((hsol _).2.2 s hs2).trans (hkc s hs2).symm
  rw [ex]
  refine zfD hq fun j hj=>?_
  exact (zb3 a fun t ht2=>⟨e5 t ht2,rfl⟩).trans (h3 j hj).symm
 unfold cntW
 rw [sum_code hn hcL d1 d2 d3 d4 (fun _=>(1:Rat)),zcI]
 simp
theorem rank_half (hL:FieldLaws q add mul) (hneg:∀ x,x<q->neg x<q/\add x (neg x)=0) {V W:Nat->Nat->Nat} {lo len T r1 r2:Nat} {gc:Nat->Nat} (hV:∀ i,i<n->∀ j,j<N->V i j<q) (h:NullRel q add mul neg n N V a W) (hlN:lo+len<=N)
  (hg:∀ t,t<T->gc t<N/\¬ (lo<=gc t/\gc t<lo+len)) (hcov:∀ j,j<N->(lo<=j/\j<lo+len)∨∃ t,t<T/\gc t=j) (h1:RankOf q n len add mul V (fun i=>lo+i) r1) (h2:RankOf q a T add mul W gc r2):r1+a=len+r2:=by
 have hq2:=hL.two
 have hq:0<q:=by omega
 obtain ⟨iA,iM,iN,i0,i1,F,hva,hvm,h0,h1'⟩:=zgl hL
 have O:OnEl q add mul:=⟨F,hva,hvm,h0,h1'⟩
 obtain ⟨L,hLd⟩:∃ L:List (El q),L=(List.range q).map (toEl q hq):=⟨_,rfl⟩
 have hn:L.Nodup:=by
  rw [hLd]
  exact zbc List.nodup_range fun a ha b hb e=>zdx hq (List.mem_range.1 ha) (List.mem_range.1 hb) e
 have hc:∀ a,a ∈ L:=fun a=>by
  rw [hLd]
  exact List.mem_map.2 ⟨a.val,List.mem_range.2 a.lt,El.ext' (zak hq a.lt)⟩
 have hlen:L.length=q:=by rw [hLd]; simp
 have e1:=im_cnt (V:=V) (fc:=fun i=>lo+i) (T:=len) hq O hn hc hL hneg (fun i hi t ht=>hV i hi _ (by omega)) h1
 obtain ⟨z,hz,e2⟩:=perp_cnt hq O hn hc hL hneg hV h hlN hg hcov h2
 have hC:=Gen.linC (k:=len) (n:=n) (r:=fun u=>wordK q hq len (fun j=>V u (lo+j))) fun i _=>za1 hq len _
 obtain ⟨hm,_⟩:=mac F hn hc len _ hC
 rw [e1,e2,hlen,rpow_pow] at hm
 have hm2:((q ^ r1*q ^ z:Nat):Rat)=((q ^ len:Nat):Rat):=by rw [<-hm]; push_cast; rfl
 have hm3:q ^ r1*q ^ z=q ^ len:=by exact_mod_cast hm2
 rw [<-Nat.pow_add] at hm3
 have h5:=(Nat.pow_le_pow_iff_right (show 1<q by omega)).1 (Nat.le_of_eq hm3)
 have h6:=(Nat.pow_le_pow_iff_right (show 1<q by omega)).1 (Nat.le_of_eq hm3.symm)
 omega
end
theorem profDual:ProfDual:=by
 intro q n N a add mul neg V W hL hneg hV h t ht r1 r2 s1 s2 h1 h2 h3 h4
 have hc:=NullRel.count hL hneg hV h
 obtain ⟨pv,hE⟩:=hV
 have e0:(fun i:Nat=>0+i)=fun i=>i:=by funext i; omega
 have k1:=rank_half (lo:=0) (len:=t) (T:=N - t) (gc:=fun i=>t+i) (r1:=r1) (r2:=s2) hL hneg hE.lt h (by omega) (fun i hi=>⟨by omega,by omega⟩) (fun j hj=>by
  by_cases e:j<t
  ·exact .inl ⟨by omega,by omega⟩
  ·exact .inr ⟨j - t,by omega,by omega⟩) (by rw [e0]; exact h1) h4
 have k2:=rank_half (lo:=t) (len:=N - t) (T:=t) (gc:=fun i=>i) (r1:=r2) (r2:=s1) hL hneg hE.lt h (by omega) (fun i hi=>⟨by omega,by omega⟩) (fun j hj=>by
  by_cases e:j<t
  ·exact .inr ⟨j,e,rfl⟩
  ·exact .inl ⟨by omega,by omega⟩) h2 h3
 omega
theorem trellisDuality_all {H:Type} {enc:TypeId × Value->H} {w:World} {cs:Array Value}
  (h:Sees enc Tryz.prog w 0 (fun _=>true) true 27 cs.toList) :
  Calls Tryz.prog 9 #[.agg cs] w fun e w'=>e=.returned (.bool true)/\Below w.heap.size w w':=trellisDuality_law profDual h
end Go.Proofs.YtioagplajkoohaaGreat