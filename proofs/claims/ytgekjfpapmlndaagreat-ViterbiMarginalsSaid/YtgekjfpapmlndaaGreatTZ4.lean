/- Merged texts of a claim: GfLaw, Gf5, GfObj, GfMul. -/
import Derived.Test.YtgekjfpapmlndaaGreatTZ3
namespace Go.Proofs.YtgekjfpapmlndaaGreat
set_option maxRecDepth 100000
set_option maxHeartbeats 32000000
open KB KE
structure RingM (q:Nat) (mul:Nat->Nat->Nat):Prop where
 two:2<=q
 lt:∀ x y,mul x y<q
 comm:∀ x y,x<q->y<q->mul x y=mul y x
 assoc:∀ x y z,x<q->y<q->z<q->mul (mul x y) z=mul x (mul y z)
 one:∀ x,x<q->mul 1 x=x
theorem ringM {P M:Nat} (m:Nat->Nat) (h:FldOk P M):RingM (P ^ M) (mulF P M m):=by
 obtain ⟨b,hM,_,_⟩:=h
 have a:0<P:=by omega
 have hq:P<=P ^ M:=by
  have:=Nat.pow_le_pow_right a hM
  simpa using this
 have one:∀ j,dgt P 1 j=one0 j:=fun j=>by
  unfold dgt one0
  cases j with
  | zero=>rw [zcb,Nat.mod_eq_of_lt (by omega)]; rfl
  | succ j=>rw [zcR,Nat.div_eq_of_lt (by omega),zbA]; rfl
 have mD:=fun (x y j:Nat) (hj:j<M)=>zcV (P:=P) (m:=m) a hM x y hj
 refine ⟨by omega,fun x y=>zaO a x y,fun x y hx hy=>?_,fun x y z hx hy hz=>?_,fun x hx=>?_⟩
 ·refine zbl a (zaO a _ _) (zaO a _ _) fun j hj=>?_
  exact (mD _ _ j hj).trans ((zbx (by rw [zaQ])).trans (mD _ _ j hj).symm)
 ·refine zbl a (zaO a _ _) (zaO a _ _) fun j hj=>?_
  refine (mD _ _ j hj).trans ((zbp (fun i hi=>mD _ _ i hi) (fun i _=>zah _) j).trans ?_)
  rw [zbF hM]
  exact ((mD _ _ j hj).trans (zbp (fun i _=>zah _) (fun i hi=>mD _ _ i hi) j)).symm
 refine zbl a (zaO a _ _) hx fun j hj=>?_
 refine (mD _ _ j hj).trans (zbx ?_)
 rw [show dgt P 1=one0 from funext one,zcU _ hj]
section
variable {q x:Nat} {mul:Nat->Nat->Nat}
theorem zfo (hR:RingM q mul) (hx:x<q) (h:GenX q mul x) {n:Nat} (hn:n<q - 1):mul (pwG mul x n) x=pwG mul x ((n+1) % (q - 1)):=by
 have h2:=hR.two
 by_cases e:n+1=q - 1
 ·rw [e,Nat.mod_self]
  have:n=q - 2:=by omega
  rw [this]
  exact h.2
 rw [Nat.mod_eq_of_lt (by omega)]
 cases n with
 | zero=>exact hR.one x hx
 | succ n=>rfl
theorem zev (hR:RingM q mul) (hx:x<q) (h:GenX q mul x) {i:Nat} (hi:i<q - 1):∀ j,j<q - 1->mul (pwG mul x i) (pwG mul x j)=pwG mul x ((i+j) % (q - 1))
 | 0,_=>by
  have h2:=hR.two
  rw [Nat.add_zero,Nat.mod_eq_of_lt hi]
  show mul (pwG mul x i) 1=_
  rw [hR.comm _ _ (h.1.lt i hi) (by omega),hR.one _ (h.1.lt i hi)]
 | j + 1, hj => by
  have h2:=hR.two
  have e:pwG mul x (j+1)=mul (pwG mul x j) x:=by
   rw [zfo hR hx h (by omega),Nat.mod_eq_of_lt hj]
  rw [e,<-hR.assoc _ _ _ (h.1.lt i hi) (h.1.lt j (by omega)) hx,zev hR hx h hi j (by omega),zfo hR hx h (Nat.mod_lt _ (by omega)),Nat.mod_add_mod]
  rfl
theorem zdv (h2:2<=q) (h:PwOk q (pwG mul x) (q - 1)) {y:Nat} (hy0:y≠0) (hy:y<q):∃ i,i<q - 1/\pwG mul x i=y:=by
 refine Classical.byContradiction fun hno=>?_
 have a:∀ i,i<q - 1->pwG mul x i≠y:=fun i hi e=>hno ⟨i,hi,e⟩
 have:=pigeon (M:=q) (N:=q - 1) (f:=fun i=>if i<q - 1 then pwG mul x i - 1 else y - 1) (fun i hi=>by
  show (if i<q - 1 then pwG mul x i - 1 else y - 1)<q - 1
  split
  ·rename_i h1
   have:=h.lt i h1
   have:=h.ne i h1
   omega
  ·omega) (fun i k hi hk e=>by
  have e:(if i<q - 1 then pwG mul x i - 1 else y - 1)=(if k<q - 1 then pwG mul x k - 1 else y - 1):=e
  by_cases h1:i<q - 1 <;> by_cases h3:k<q - 1
  ·rw [if_pos h1,if_pos h3] at e
   have a1:=h.ne i h1
   have a2:=h.ne k h3
   rcases Nat.lt_trichotomy i k with c | c | c
   ·exact absurd (show pwG mul x i=pwG mul x k by omega) (h.inj i k c h3)
   ·exact c
   ·exact absurd (show pwG mul x k=pwG mul x i by omega) (h.inj k i c h1)
  ·rw [if_pos h1,if_neg h3] at e
   have a1:=h.ne i h1
   exact absurd (show pwG mul x i=y by omega) (a i h1)
  ·rw [if_neg h1,if_pos h3] at e
   have a1:=h.ne k h3
   exact absurd (show pwG mul x k=y by omega) (a k h3)
  ·omega)
 omega
theorem zdw (hR:RingM q mul) (hx:x<q) (h:GenX q mul x) {y z:Nat} (hy0:y≠0) (hy:y<q) (hz0:z≠0) (hz:z<q):mul y z≠0:=by
 obtain ⟨i,hi,rfl⟩:=zdv hR.two h.1 hy0 hy
 obtain ⟨j,hj,rfl⟩:=zdv hR.two h.1 hz0 hz
 rw [zev hR hx h hi j hj]
 exact h.1.ne _ (Nat.mod_lt _ (by have:=hR.two; omega))
end
theorem zd1 {q:Nat} {add mul:Nat->Nat->Nat} (hF:FieldLaws q add mul):∃ x,1<=x/\x<q/\GenX q mul x:=by
 obtain ⟨iA,iM,iN,i0,i1,F,ha,hm,h0,h1⟩:=zhn hF
 have hq:0<q:=by have:=hF.two; omega
 have h:((List.range q).map (toEl q hq)).Nodup:=by
  rw [List.Nodup,List.pairwise_map]
  refine List.Pairwise.imp_of_mem (R:=fun a b=>a<b) (fun {a b} ha hb hab e=>?_) List.pairwise_lt_range
  have:=zdZ hq (List.mem_range.1 ha) (List.mem_range.1 hb) e
  omega
 obtain ⟨g,d,hg⟩:=zco F h fun a=>by
  obtain ⟨b,hb,e⟩:=zho hq a
  exact List.mem_map.2 ⟨b,List.mem_range.2 hb,e⟩
 rw [List.length_map,List.length_range] at hg
 have c:∀ n,pwG mul g.val n=(pwK g n).val:=fun n=>by
  induction n with
  | zero=>exact h1.symm
  | succ n ih =>
   show _=(pwK g n*g).val
   rw [hm,<-ih]
   cases n with
   | zero=>exact (hF.oneMul _ g.lt).symm
   | succ n=>rfl
 have f:∀ z:El q,z≠0->z.val≠0:=fun z hz e=>hz (El.ext' (by rw [e,h0]))
 have h2:=hF.two
 refine ⟨g.val,by have:=f g d; omega,g.lt,⟨fun i _=>by rw [c]; exact f _ (zh8 F d i),fun i _=>by rw [c]; exact (pwK g i).lt,fun i j hij hj e=>?_⟩,?_⟩
 ·rw [c,c] at e
  have e:=El.ext' e
  refine hg.2.2 (j - i) (by omega) (by omega) ?_
  rw [show j=i+(j - i) by omega,zfn F] at e
  have h1:pwK g i*pwK g (j - i)=pwK g i*1:=by rw [<-e,F.mulOne]
  obtain ⟨y,hy⟩:=F.inv _ (zh8 F d i)
  have h2:y*(pwK g i*pwK g (j - i))=y*(pwK g i*1):=by rw [h1]
  rwa [<-F.mulA,<-F.mulA,F.mulC y,hy,F.oneM,F.oneM] at h2
 rw [c,<-hm]
 have e:pwK g (q - 1)=pwK g (q - 2)*g:=by
  obtain ⟨r,hr⟩:∃ r,q=r+2:=⟨q - 2,by omega⟩
  subst hr
  rfl
 rw [<-e,hg.2.1,h1]
theorem zfp {P M x:Nat} {m:Nat->Nat} (hf:FldOk P M) (hm:M=1∨∀ t,t<M->m t<P) (hx:x<P ^ M) (h:GenX (P ^ M) (mulF P M m) x):IrrB P M m:=by
 intro d hd1 hd2 v hv hdiv
 have hR:=ringM m hf
 obtain ⟨k,hM,_,_⟩:=hf
 have c:0<P:=by omega
 have hm:∀ t,t<M->m t<P:=by
  rcases hm with e | e
  ·omega
  ·exact e
 have hl:∀ (B:Nat->Int) j,(((B j) % P).toNat:Int)=B j % P:=fun B j=>by
  have:=Int.emod_nonneg (B j) (show (P:Int)≠0 by omega)
  omega
 have g:∀ (B:Nat->Int) j,((B j) % P).toNat<P:=fun B j=>by
  have:=Int.emod_lt_of_pos (B j) (show (0:Int)<P by omega)
  have:=hl B j; omega
 have val:∀ B:Nat->Int,∃ y,y<P ^ M/\∀ j,j<M->cg P (dgt P y j) (B j):=fun B=>by
  refine ⟨valN P (fun j=>((B j) % P).toNat) M,za3 fun i _=>g B i,fun j hj=>?_⟩
  unfold dgt
  rw [zaX (fun i _=>g B i) j hj,hl B]
  exact zeM _
 obtain ⟨a,ha,hA⟩:=val (hD P d (dig P v) M (modR M m) (M+1 - d))
 obtain ⟨b,hb,hB⟩:=val (lead d (dig P v))
 have f:∀ {y j:Nat},j<M->cg P (dgt P y j) 1->y≠0:=fun {y j} hj e e0=>by
  subst e0
  unfold dgt at e
  rw [zbA] at e
  exact absurd (zfg (P:=P) (a:=0) (b:=1) e c (by omega)) (by omega)
 refine zdw hR hx h (y:=a) (z:=b) ?_ ha ?_ hb ?_
 ·refine f (j:=M - d) (by omega) ((hA _ (by omega)).trans (zbx ?_))
  obtain ⟨s,hs⟩:∃ s,M+1 - d=s+1:=⟨M - d,by omega⟩
  rw [hs]
  exact zh4 (by omega) s (by omega)
 ·refine f (j:=d) (by omega) ((hB _ (by omega)).trans (zbx ?_))
  unfold lead
  rw [if_neg (by omega),if_pos rfl]
 refine zbl c (zaO c _ _) (Nat.pow_pos c) fun j hj=>?_
 refine (zcV (P:=P) (m:=m) c hM a b hj).trans ((zbp (fun i hi=>hA i hi) (fun i hi=>hB i hi) j).trans ?_)
 refine (zg3 (by omega) hm hd1 (by omega) hj).trans (zbx ?_)
 rw [hdiv j (by omega)]
 unfold dgt
 rw [zbA]
 rfl
theorem zh9 {P M:Nat} {m:Nat->Nat} (hf:FldOk P M) (hp:PrimeB P) (hm:M=1∨∀ t,t<M->m t<P):(∃ x,1<=x/\x<P ^ M/\GenX (P ^ M) (mulF P M m) x)↔FieldOk P M m:=by
 constructor
 ·rintro ⟨x,_,hx,h⟩
  exact ⟨hf,hp,hm,zfp hf hm hx h⟩
 ·intro h
  exact zd1 (fieldLaws h)
open Go.RowKit
def ShapeF (P M:Int) (k:Nat) (f:Nat->Int):Prop :=
 ∃ P' M':Nat,P=P'/\M=M'/\FldOk P' M'/\PrimeB P'/\((M'=1/\k=0)∨(2<=M'/\k=M'/\∀ i,i<M'->0<=f i/\f i<P'))
theorem GoodF.shape {P M:Int} {k:Nat} {f:Nat->Int} (h:GoodF P M k f):ShapeF P M k f:=by
 obtain ⟨P',M',h1,h2,h3,h4,h5⟩:=h
 refine ⟨P',M',h1,h2,h3,h4,?_⟩
 rcases h5 with h | ⟨a,b,c,_⟩
 ·exact .inl h
 ·exact .inr ⟨a,b,c⟩
theorem ShapeF.good {P M:Nat} {k:Nat} {f:Nat->Int} (h:ShapeF (P:Int) (M:Int) k f):GoodF (P:Int) (M:Int) k f↔∃ x,1<=x/\x<P ^ M/\GenX (P ^ M) (mulF P M fun i=>(f i).toNat) x:=by
 obtain ⟨P',M',h1,h2,h3,h4,h5⟩:=h
 obtain rfl:P=P':=by omega
 obtain rfl:M=M':=by omega
 rw [zh9 h3 h4 (by
  rcases h5 with ⟨e,_⟩ | ⟨_,_,c⟩
  ·exact .inl e
  ·exact .inr fun t ht=>by have:=c t ht; show (f t).toNat<P; omega)]
 refine ⟨fun h=>h.field.1,fun h=>⟨P,M,rfl,rfl,h3,h4,?_⟩⟩
 rcases h5 with e | ⟨a,b,c⟩
 ·exact .inl e
 ·exact .inr ⟨a,b,c,h.2.2.2⟩
theorem ShapeF.fld {P M:Int} {k:Nat} {f:Nat->Int} (h:ShapeF P M k f):∃ P' M':Nat,P=P'/\M=M'/\FldOk P' M'/\(M'=1∨k=M'):=by
 obtain ⟨P',M',h1,h2,h3,h4,h5⟩:=h
 refine ⟨P',M',h1,h2,h3,?_⟩
 rcases h5 with ⟨a,b⟩ | ⟨a,b,c⟩
 ·exact .inl a
 ·exact .inr b
theorem ShapeF.mod {P M:Nat} {k:Nat} {f:Nat->Int} {w:World} {A:Option Addr} (h:ShapeF (P:Int) (M:Int) k f) (hr:IntsR w w.heap.size A k f):ModOk w P M A (fun i=>(f i).toNat):=by
 obtain ⟨P',M',h1,h2,h3,h4,h5⟩:=h
 obtain rfl:P=P':=by omega
 obtain rfl:M=M':=by omega
 rcases h5 with ⟨e,_⟩ | ⟨e1,rfl,e3⟩
 ·exact .inl e
 ·exact .inr ⟨hr.congr fun i hi=>by have:=e3 i hi; show f i=((f i).toNat:Int); omega,fun i hi=>by have:=e3 i hi; show (f i).toNat<P; omega⟩
theorem zew (P M:Int) (A:Option Addr) (k c:Nat) (f:Nat->Int) (w:World) (hr:IntsR w w.heap.size A k f) :
  Calls Tryz.prog 145 #[.agg #[.int .i64 P,.int .i64 M,.slice A k c]] w (IffPost (ShapeF P M k f) w):=by
 obtain ⟨w0,l,hB,rf⟩:=zaj w (.int .i64 P) (.int .i64 M) (.slice A k c) 24
 go_enter Tryz.func145, Tryz.ntmps145
 go_upto_region 1 with fail
 rw [<-l];clear l
 have q0:=qc0 rf
 have q1:=qc1 rf
 have q2:=qc2 rf
 go_wp2_with fail
 refine (zbR P M _).mono ?_
 rintro e w1 ⟨rfl,kb⟩
 replace rf:=zab rf kb;replace hB:=onS hB kb;clear kb q0 q1 q2
 by_cases h0:ordV P M=0
 ·have a:Hid (¬ ShapeF P M k f):=by
   rintro ⟨P',M',rfl,rfl,h3,_⟩
   rw [zbo h3] at h0
   have:=Nat.pow_pos (n:=M') (show 0<P' by have:=h3.1; omega)
   omega
  rw [h0];clear h0 rf
  go_wp2
  go_ret
  exact zap a.out hB
 obtain ⟨P,M,rfl,rfl,hf⟩:=zgW h0
 obtain ⟨v,hv⟩:=exx (ordV (P:Int) (M:Int))
 rw [<-hv] at h0;rw [<-hv]
 have m:(v == 0)=false:=by simpa using h0
 have B:=hf.1
 have z:=hf.P_le
 have G:=hf.2.1
 have F:=hf.2.2.1
 have hq:=hf.2.2.2
 have HF:=hid hf
 clear hv hf
 have q0:=qc0 rf
 have q1:=qc1 rf
 have q2:=qc2 rf
 go_wp2_with fail
 refine (zeO P _ B z).mono ?_
 rintro e w2 ⟨b,rfl,hb,rfl⟩
 have j:=hid hb
 clear hb h0 m
 cases b
 ·have a:Hid (¬ ShapeF (P:Int) (M:Int) k f):=by
   rintro ⟨P',M',e1,e2,h3,h4,_⟩
   obtain rfl:P=P':=by omega
   have:=j.out.2 h4
   cases this
  go_wp2
  go_ret
  exact zap a.out hB
 have hp:Hid (PrimeB P):=j.out.1 rfl
 clear j
 by_cases hM:M=1
 ·subst hM
  by_cases hk0:k=0
  ·subst hk0
   have d:Hid (ShapeF (P:Int) ((1:Nat):Int) 0 f):=⟨P,1,rfl,rfl,HF.out,hp.out,.inl ⟨rfl,rfl⟩⟩
   go_wp2
   go_ret
   exact za4 d.out hB
  have u:((k:Int) == 0)=false:=by simp; omega
  have a:Hid (¬ ShapeF (P:Int) ((1:Nat):Int) k f):=by
   rintro ⟨P',M',e1,e2,h3,h4,⟨e3,e4⟩ | ⟨e3,_⟩⟩
   ·exact hk0 e4
   ·omega
  go_wp2
  go_ret
  exact zap a.out hB
 have C:((M:Int) == 1)=false:=by simp; omega
 by_cases hkM:k=M
 rotate_left
 ·have r:((k:Int) != (M:Int))=true:=by simp; omega
  have a:Hid (¬ ShapeF (P:Int) (M:Int) k f):=by
   rintro ⟨P',M',e1,e2,h3,h4,⟨e3,e4⟩ | ⟨e3,e4,_⟩⟩
   ·omega
   ·omega
  go_wp2
  go_ret
  exact zap a.out hB
 subst hkM
 have q:((k:Int) != (k:Int))=false:=by simp
 have s:2<=k:=by omega
 go_wp2
 clear q0 q1 q2 C q
 go_loopg [33] k (fun gg iv wx=>∃ i:Nat,iv=.int .i64 (i:Nat)/\i<=k/\k<=i+gg/\(∀ i',i'<i->0<=f i'/\f i'<P)/\wx.rowIs w.heap.size 24 3 (fldCell (.int .i64 (P:Nat)) (.int .i64 (k:Nat)) (.slice A k c))/\Below w.heap.size w wx)
 case atStart=>exact ⟨0,rfl,by omega,by omega,fun i' h=>by omega,rf,hB⟩
 clear rf hB
 obtain ⟨i,rfl,hi,D,hg,rf,hB⟩:=hrel
 have HG:=hid hg
 clear hg
 have E:(0:Int)<=(i:Int):=by omega
 have q0:=qc0 rf
 have q1:=qc1 rf
 have q2:=qc2 rf
 by_cases hlt:i<k
 rotate_left
 ·obtain rfl:i=k:=by omega
  have g:¬ (i:Int)<(i:Int):=by omega
  have d:Hid (ShapeF (P:Int) (i:Int) i f):=⟨P,i,rfl,rfl,HF.out,hp.out,.inr ⟨s,rfl,HG.out⟩⟩
  go_wp2
  go_ret
  exact za4 d.out hB
 have g:(i:Int)<(k:Int):=by omega
 obtain ⟨b,o,rfl,hb,e0⟩:=(hr.on hB).at hlt
 obtain ⟨x,hx⟩:=exx (f i)
 rw [<-hx] at e0
 have HX:=hid hx
 clear hx
 have a:Hid (x<0∨(P:Int)<=x->¬ ShapeF (P:Int) (k:Int) k f):=by
  rintro hc ⟨P',M',e1,e2,h3,h4,⟨e3,e4⟩ | ⟨e3,e4,e5⟩⟩
  ·omega
  have:=e5 i (by omega)
  rw [<-HX.out] at this
  omega
 by_cases hx0:x<0
 ·have hd:decide (x<0)=true:=by simpa using hx0
  go_wp2
  go_ret
  exact zap (a.out (.inl hx0)) hB
 have hd:decide (x<0)=false:=by simpa using hx0
 by_cases hxP:(P:Int)<=x
 ·have y:decide ((P:Int)<=x)=true:=by simpa using hxP
  go_wp2
  go_ret
  exact zap (a.out (.inr hxP)) hB
 have y:decide ((P:Int)<=x)=false:=by simpa using hxP
 have p:Hid (∀ i',i'<i+1->0<=f i'/\f i'<P):=fun i' h=>by
  by_cases e:i'=i
  ·rw [e,<-HX.out]; omega
  ·exact HG.out i' (by omega)
 clear a
 go_wp2
 go_roundg (gk - 1)
 case measure=>omega
 case rel=>exact ⟨i+1,by go_num,by omega,by omega,p.out,rf,hB⟩
theorem zcc {p:Nat}:∀ (n:Nat) (f:Nat->Nat),valN p f (n+1)=valN p f n+p ^ n*f n
 | 0,f=>by show f 0+p*0=0+p ^ 0*f 0; simp
 | n+1,f=>by
  show f 0+p*valN p (fun i=>f (i+1)) (n+1)=f 0+p*valN p (fun i=>f (i+1)) n+p ^ (n+1)*f (n+1)
  rw [zcc n]
  show f 0+p*(valN p (fun i=>f (i+1)) n+p ^ n*f (n+1))=_
  rw [Nat.mul_add,Nat.pow_succ,Nat.mul_comm (p ^ n) p,Nat.mul_assoc,Nat.add_assoc]
theorem zd2 {p k:Nat} {f:Nat->Nat}:∀ n,(∀ i,k<=i->i<n->f i=0)->k<=n->valN p f n=valN p f k
  | 0, _, h => by obtain rfl : k = 0 := by omega
                  rfl
  | n + 1, h, hk => by
    by_cases e:k=n+1
    · rw [e]
    · rw [zcc,h n (by omega) (by omega),Nat.mul_zero,Nat.add_zero,zd2 n (fun i h1 h2=>h i h1 (by omega)) (by omega)]
theorem zd3 {p x i j:Nat} (h:x / p ^ i=0) (hij:i<=j):dig p x j=0:=by
 unfold dig
 obtain ⟨r,rfl⟩:∃ r,j=i+r:=⟨j - i,by omega⟩
 rw [Nat.pow_add,<-Nat.div_div_eq_div_mul,h,Nat.zero_div,Nat.zero_mod]
theorem zhp {M x y:Nat} (hx:x<2 ^ M) (hy:y<2 ^ M):addF 2 M x y=x ^^^ y:=by
 refine zdp (p:=2) (M:=M) (by omega) (zcL (by omega) _ _) (Nat.xor_lt_two_pow hx hy) fun j hj=>?_
 unfold addF
 rw [zaX (fun i _=>Nat.mod_lt _ (by omega)) j hj]
 have h:=Nat.testBit_xor x y j
 simp only [Nat.testBit_eq_decide_div_mod_eq] at h
 unfold dig
 have a1:=Nat.mod_two_eq_zero_or_one (x / 2 ^ j)
 have a2:=Nat.mod_two_eq_zero_or_one (y / 2 ^ j)
 have a3:=Nat.mod_two_eq_zero_or_one ((x ^^^ y) / 2 ^ j)
 rcases a1 with a1 | a1 <;> rcases a2 with a2 | a2 <;> rcases a3 with a3 | a3 <;> simp [a1,a2,a3] at h ⊢
theorem zia {x y:Nat} (hx:x<256) (hy:y<256):bits .xor .i64 (x:Int) (y:Int)=((x ^^^ y:Nat):Int):=by
 show IntKind.i64.wrap ((BitVec.ofInt 64 (x:Int) ^^^ BitVec.ofInt 64 (y:Int)).toNat:Nat)=_
 have k1:(BitVec.ofInt 64 (x:Int)).toNat=x:=by rw [BitVec.toNat_ofInt]; omega
 have k2:(BitVec.ofInt 64 (y:Int)).toNat=y:=by rw [BitVec.toNat_ofInt]; omega
 have h:x ^^^ y<2 ^ 8:=Nat.xor_lt_two_pow (n:=8) hx hy
 rw [BitVec.toNat_xor,k1,k2]
 exact IntWalk.i64_in _ (by omega)
def gfCell (a b c d e f:Value) (i:Nat):Value:=if i=0 then a else if i=1 then b else if i=2 then c else if i=3 then d else if i=4 then e else f
theorem KF.qc0 {w:World} {g:Nat} {T:TypeId} {a b c d e f:Value} (h:w.rowIs g T 6 (gfCell a b c d e f)) : w.cell? ⟨g,0,none⟩=some a:=h.cell (i:=0) (by decide)
theorem KF.qc1 {w:World} {g:Nat} {T:TypeId} {a b c d e f:Value} (h:w.rowIs g T 6 (gfCell a b c d e f)) : w.cell? ⟨g,1,none⟩=some b:=h.cell (i:=1) (by decide)
theorem KF.qc2 {w:World} {g:Nat} {T:TypeId} {a b c d e f:Value} (h:w.rowIs g T 6 (gfCell a b c d e f)) : w.cell? ⟨g,2,none⟩=some c:=h.cell (i:=2) (by decide)
theorem KF.qc3 {w:World} {g:Nat} {T:TypeId} {a b c d e f:Value} (h:w.rowIs g T 6 (gfCell a b c d e f)) : w.cell? ⟨g,3,none⟩=some d:=h.cell (i:=3) (by decide)
theorem KF.qc4 {w:World} {g:Nat} {T:TypeId} {a b c d e f:Value} (h:w.rowIs g T 6 (gfCell a b c d e f)) : w.cell? ⟨g,4,none⟩=some e:=h.cell (i:=4) (by decide)
theorem KF.qc5 {w:World} {g:Nat} {T:TypeId} {a b c d e f:Value} (h:w.rowIs g T 6 (gfCell a b c d e f)) : w.cell? ⟨g,5,none⟩=some f:=h.cell (i:=5) (by decide)
open KF
structure GFr (w:World) (B g P M:Nat) (m:Nat->Nat) (A:Option Addr) (k c eb eo ec lb lo lc x:Nat) (lg:Nat->Nat):Prop where
 ok:FieldOk P M m
 km:(M=1/\k=0)∨(2<=M/\k=M)
 row:w.rowIs g 182 6 (gfCell (.int .i64 (P:Nat)) (.int .i64 (M:Nat)) (.slice A k c) (.int .i64 (P ^ M:Nat)) (.slice (some ⟨eb,eo,none⟩) (P ^ M - 1) ec) (.slice (some ⟨lb,lo,none⟩) (P ^ M) lc))
 lt:g<B
 md:IntsR w B A k (fun i=>(m i:Nat))
 ex:IntsR w B (some ⟨eb,eo,none⟩) (P ^ M - 1) (fun i=>(pwG (mulF P M m) x i:Nat))
 lgr:IntsR w B (some ⟨lb,lo,none⟩) (P ^ M) (fun i=>(lg i:Nat))
 x0:1<=x
 xq:x<P ^ M
 gen:GenX (P ^ M) (mulF P M m) x
 lgs:∀ i,i<P ^ M - 1->lg (pwG (mulF P M m) x i)=i
def GF (w:World) (B g P M:Nat) (m:Nat->Nat):Prop:=∃ A k c eb eo ec lb lo lc x lg,GFr w B g P M m A k c eb eo ec lb lo lc x lg
theorem GF.ok {w:World} {B g P M:Nat} {m:Nat->Nat} (h:GF w B g P M m):FieldOk P M m:=by
 obtain ⟨_,_,_,_,_,_,_,_,_,_,_,h⟩:=h
 exact h.ok
theorem GF.at {w w':World} {B g P M:Nat} {m:Nat->Nat} (h:GF w B g P M m) (hb:Below B w w') (hB:B<=w'.heap.size):GF w' w'.heap.size g P M m:=by
 obtain ⟨A,k,c,eb,eo,ec,lb,lo,lc,x,lg,h⟩:=h
 exact ⟨A,k,c,eb,eo,ec,lb,lo,lc,x,lg,h.ok,h.km,zcH h.row hb h.lt,Nat.lt_of_lt_of_le h.lt hB,(Rd.below h.md hb (Nat.le_refl _)).mono hB,(Rd.below h.ex hb (Nat.le_refl _)).mono hB,(Rd.below h.lgr hb (Nat.le_refl _)).mono hB,h.x0,h.xq,h.gen,h.lgs⟩
theorem GF.on {w w':World} {g P M:Nat} {m:Nat->Nat} (h:GF w w.heap.size g P M m) (hb:Below w.heap.size w w'):GF w' w'.heap.size g P M m:=h.at hb hb.size
section
variable {P M g:Nat} {m:Nat->Nat} {w:World}
theorem zcd (h:GF w w.heap.size g P M m) :
  Calls Tryz.prog 76 #[.pointer (some ⟨g,0,none⟩)] w fun e w'=>e=.returned (.int .i64 (P ^ M:Nat))/\Below w.heap.size w w':=by
 obtain ⟨A,k,c,eb,eo,ec,lb,lo,lc,x,lg,h⟩:=h
 obtain ⟨Q,hQ⟩:=exx (P ^ M)
 have c3:w.cell? ⟨g,3,none⟩=some (.int .i64 (Q:Nat)):=by rw [hQ]; exact h.row.cell (i:=3) (by omega)
 rw [<-hQ]
 have HQ:=hid hQ
 clear hQ h
 go_enter Tryz.func76, Tryz.ntmps76
 go_wp2
 go_ret
 exact ⟨rfl,Below.refl _ _⟩
theorem zfq (x:Int) (h:GF w w.heap.size g P M m) :
  Calls Tryz.prog 155 #[.pointer (some ⟨g,0,none⟩),.int .i64 x] w fun e w'=>e=.returned (.bool (isB (P ^ M) x))/\Below w.heap.size w w':=by
 obtain ⟨A,k,c,eb,eo,ec,lb,lo,lc,y,lg,h⟩:=h
 obtain ⟨Q,hQ⟩:=exx (P ^ M)
 have c3:w.cell? ⟨g,3,none⟩=some (.int .i64 (Q:Nat)):=by rw [hQ]; exact h.row.cell (i:=3) (by omega)
 rw [<-hQ];clear hQ h
 by_cases h0:0<=x
 focus
  have hv:Hid (isB Q x=decide (x<(Q:Int))):=by show _=_; simp [isB,h0]
  have hd:decide (0<=x)=true:=by simpa using h0
 rotate_left
 focus
  have hv:Hid (isB Q x=false):=by show _=_; simp [isB]; omega
  have hd:decide (0<=x)=false:=by simpa using h0
 rotate_left
 all_goals
  go_enter Tryz.func155, Tryz.ntmps155
  go_wp2
  go_ret
  exact ⟨by rw [hv.out]; rfl,Below.refl _ _⟩
theorem zbV (x:Int) (h:GF w w.heap.size g P M m) :
  Calls Tryz.prog 197 #[.pointer (some ⟨g,0,none⟩),.int .i64 x] w fun e w'=>e=.returned (.int .i64 (inV (P ^ M) x:Nat))/\Below w.heap.size w w':=by
 go_enter Tryz.func197, Tryz.ntmps197
 go_wp2_with fail
 refine (zfq x h).mono ?_
 rintro e w1 ⟨rfl,hB⟩
 by_cases hx:0<=x/\x<(P ^ M:Nat)
 ·have hv:Hid ((inV (P ^ M) x:Int)=x):=by show _=_; unfold inV; rw [if_pos hx]; omega
  have hd:isB (P ^ M) x=true:=by unfold isB; simpa using hx
  rw [hd];clear hx hd h
  go_wp2
  go_ret
  exact ⟨by rw [hv.out]; rfl,hB⟩
 have hv:Hid (inV (P ^ M) x=0):=by show _=_; unfold inV; rw [if_neg hx]
 have hd:isB (P ^ M) x=false:=by unfold isB; simpa using hx
 rw [hd];clear hx hd h
 go_wp2
 go_ret
 exact ⟨by rw [hv.out]; rfl,hB⟩
theorem zbJ (x y:Int) (h:GF w w.heap.size g P M m) :
  Calls Tryz.prog 149 #[.pointer (some ⟨g,0,none⟩),.int .i64 x,.int .i64 y] w fun e w'=>e=.returned (.int .i64 (addF P M (inV (P ^ M) x) (inV (P ^ M) y):Nat))/\Below w.heap.size w w':=by
 have b:=h.ok.1
 have ac:=b.1
 have ab:=b.P_le
 have ae:=b.2.1
 have hq:=b.2.2.2
 have G:Hid (∀ i,i<=M->P ^ i<=256):=fun i hi=>b.pow_le hi
 have af:=hid b
 clear b
 have hX:=zdU (Nat.pow_pos (n:=M) (show 0<P by omega)) x
 have hY:=zdU (Nat.pow_pos (n:=M) (show 0<P by omega)) y
 go_enter Tryz.func149, Tryz.ntmps149
 go_wp2_with fail
 refine (zbV x h).mono ?_
 rintro e w1 ⟨rfl,hB⟩
 have h1:=h.on hB
 go_wp2_with fail
 refine (zbV y h1).mono ?_
 rintro e w2 ⟨rfl,kb⟩
 have h2:=h1.on kb
 replace hB:=onS hB kb;clear kb h1 h
 obtain ⟨A,k,c,eb,eo,ec,lb,lo,lc,gx,lg,h⟩:=h2
 have c0:=qc0 h.row
 clear h
 obtain ⟨X,D⟩:=exx (inV (P ^ M) x)
 obtain ⟨Y,C⟩:=exx (inV (P ^ M) y)
 rw [<-D] at hX;rw [<-C] at hY;rw [<-D,<-C]
 have J:=hid D
 have I:=hid C
 clear D C
 by_cases hP:P=2
 ·have H:((P:Int) == 2)=true:=by simp; omega
  have K:Hid (addF P M X Y=X ^^^ Y):=by
   subst hP
   exact zhp hX hY
  have a0:=zia (x:=X) (y:=Y) (by omega) (by omega)
  clear hP hX hY
  go_wp2
  go_ret
  exact ⟨by rw [<-J.out,<-I.out,K.out]; rfl,hB⟩
 have H:((P:Int) == 2)=false:=by simp; omega
 have a9:X<256:=by omega
 have a8:Y<256:=by omega
 have T:Hid (X<P ^ M):=hX
 have S:Hid (Y<P ^ M):=hY
 clear hX hY hq hP
 go_wp2
 clear H
 go_loopg [7,8,1,2] M (fun gg sv pv xv yv wx=>∃ i s p u v:Nat,sv=.int .i64 (s:Nat)/\pv=.int .i64 (p:Nat)/\xv=.int .i64 (u:Nat)/\yv=.int .i64 (v:Nat)/\i<=M/\M<=i+gg/\Hid (u=X / P ^ i)/\Hid (v=Y / P ^ i)/\Hid (p=P ^ i)/\Hid (s=valN P (fun i=>(dig P X i+dig P Y i) % P) i)/\wx.cell? ⟨g,0,none⟩=some (.int .i64 (P:Nat))/\Below w.heap.size w wx)
 case atStart=>exact ⟨0,0,1,X,Y,rfl,rfl,rfl,rfl,by omega,by omega,by show _=_; simp,by show _=_; simp,by show _=_; simp,rfl,c0,hB⟩
 clear c0 hB
 obtain ⟨i,s,p,u,v,rfl,rfl,rfl,rfl,hi,a7,HU,HV,E,HS,c0,hB⟩:=hrel
 have a3:u<=X:=by rw [HU.out]; exact Nat.div_le_self _ _
 have a1:v<=Y:=by rw [HV.out]; exact Nat.div_le_self _ _
 by_cases hend:u=0/\v=0
 ·have F:Hid (addF P M X Y=s):=by
   show _=_
   rw [HS.out]
   unfold addF
   exact zd2 M (fun j h1 _=>by rw [zd3 (by rw [<-HU.out]; exact hend.1) h1,zd3 (by rw [<-HV.out]; exact hend.2) h1]; simp) hi
  obtain ⟨rfl,rfl⟩:=hend
  go_wp2
  go_ret
  exact ⟨by rw [<-J.out,<-I.out,F.out]; rfl,hB⟩
 have N:i<M:=by
  refine Classical.byContradiction fun hn=>hend ?_
  obtain rfl:i=M:=by omega
  exact ⟨by rw [HU.out]; exact Nat.div_eq_of_lt T.out,by rw [HV.out]; exact Nat.div_eq_of_lt S.out⟩
 obtain ⟨du,o⟩:=exx (u % P)
 obtain ⟨dv,l⟩:=exx (v % P)
 obtain ⟨qu,z⟩:=exx (u / P)
 obtain ⟨qv,r⟩:=exx (v / P)
 obtain ⟨ds,q⟩:∃ d,d=(du+dv) % P:=⟨_,rfl⟩
 obtain ⟨t,ht⟩:=exx (ds*p)
 obtain ⟨p2,B⟩:=exx (p*P)
 have Q:du<P:=by rw [o]; exact Nat.mod_lt _ (by omega)
 have O:dv<P:=by rw [l]; exact Nat.mod_lt _ (by omega)
 have R:ds<P:=by rw [q]; exact Nat.mod_lt _ (by omega)
 have a6:p<=256:=by rw [E.out]; exact G.out i hi
 have a:p2=P ^ (i+1):=by rw [B,E.out,Nat.pow_succ]
 have L:p2<=256:=by rw [a]; exact G.out (i+1) N
 have a4:t<=256:=by
  have:t<=p2:=by rw [ht,B,Nat.mul_comm]; exact Nat.mul_le_mul_left p (by omega)
  omega
 have a5:s<=256:=by
  have:=za3 (p:=P) (n:=i) (f:=fun i=>(dig P X i+dig P Y i) % P) fun _ _=>Nat.mod_lt _ (by omega)
  rw [<-HS.out] at this
  have:=G.out i hi
  omega
 have W:Hid (s+t=valN P (fun i=>(dig P X i+dig P Y i) % P) (i+1)):=by
  show _=_
  rw [zcc,<-HS.out,ht,q,o,l,HU.out,HV.out,E.out,Nat.mul_comm]
  rfl
 have V:Hid (qu=X / P ^ (i+1)):=by show _=_; rw [z,HU.out,Nat.pow_succ,Nat.div_div_eq_div_mul]
 have U:Hid (qv=Y / P ^ (i+1)):=by show _=_; rw [r,HV.out,Nat.pow_succ,Nat.div_div_eq_div_mul]
 have Z:=hid a
 have m1:(u:Int).tmod (P:Int)=(du:Int):=by rw [o,Int.tmod_eq_emod_of_nonneg (by omega)]; simp
 have m2:(v:Int).tmod (P:Int)=(dv:Int):=by rw [l,Int.tmod_eq_emod_of_nonneg (by omega)]; simp
 have m3:((du:Int)+(dv:Int)).tmod (P:Int)=(ds:Int):=by rw [q,Int.tmod_eq_emod_of_nonneg (by omega)]; simp
 have e1:(u:Int) % (P:Int)=(du:Int):=by rw [o]; simp
 have e2:(v:Int) % (P:Int)=(dv:Int):=by rw [l]; simp
 have e3:((du:Int)+(dv:Int)) % (P:Int)=(ds:Int):=by rw [q]; simp
 have e4:(ds:Int)*(p:Int)=(t:Int):=by rw [ht]; simp
 have e5:(p:Int)*(P:Int)=(p2:Int):=by rw [B]; simp
 have d1:(u:Int).tdiv (P:Int)=(qu:Int):=by rw [z,Int.tdiv_eq_ediv_of_nonneg (by omega)]; rfl
 have d2:(v:Int).tdiv (P:Int)=(qv:Int):=by rw [r,Int.tdiv_eq_ediv_of_nonneg (by omega)]; rfl
 have d3:(u:Int) / (P:Int)=(qu:Int):=by rw [z]; rfl
 have d4:(v:Int) / (P:Int)=(qv:Int):=by rw [r]; rfl
 have qu6:qu<=256:=by have:u / P<=u:=Nat.div_le_self _ _; omega
 have qv6:qv<=256:=by have:v / P<=v:=Nat.div_le_self _ _; omega
 have w1':IntKind.i64.wrap ((du:Int)+(dv:Int))=(du:Int)+(dv:Int):=IntWalk.i64_in _ (by omega)
 have w2':IntKind.i64.wrap (du:Int)=(du:Int):=IntWalk.i64_in _ (by omega)
 have w3':IntKind.i64.wrap (dv:Int)=(dv:Int):=IntWalk.i64_in _ (by omega)
 have w4':IntKind.i64.wrap (ds:Int)=(ds:Int):=IntWalk.i64_in _ (by omega)
 have w5':IntKind.i64.wrap (t:Int)=(t:Int):=IntWalk.i64_in _ (by omega)
 have w6':IntKind.i64.wrap (p2:Int)=(p2:Int):=IntWalk.i64_in _ (by omega)
 have w7':IntKind.i64.wrap ((s:Int)+(t:Int))=(s:Int)+(t:Int):=IntWalk.i64_in _ (by omega)
 have w8':IntKind.i64.wrap (qu:Int)=(qu:Int):=IntWalk.i64_in _ (by omega)
 have w9':IntKind.i64.wrap (qv:Int)=(qv:Int):=IntWalk.i64_in _ (by omega)
 have ad:¬ (P:Int)=0:=by omega
 have aa:¬ P=0:=by omega
 clear o l z r q ht B a HU HV E HS
 by_cases hu0:u=0
 focus
  have a2:0<v:=by omega
  have g1:decide ((0:Int)<(u:Int))=false:=by simp; omega
  have g2:decide ((0:Int)<(v:Int))=true:=by simp; omega
  have g1':decide (0<u)=false:=by simp; omega
  have g2':decide (0<v)=true:=by simp; omega
 rotate_left
 focus
  have g1:decide ((0:Int)<(u:Int))=true:=by simp; omega
  have g1':decide (0<u)=true:=by simp; omega
 rotate_left
 all_goals
  clear hend hu0
  go_wp2
  go_quiet (fail)
  go_wp2
  go_roundg (gk - 1)
  case measure=>omega
  case rel=>exact ⟨i+1,s+t,p2,qu,qv,by go_num,rfl,rfl,rfl,by omega,by omega,V,U,Z,W,c0,zad hB _⟩
end
theorem IntsR.here {w:World} {B b o n i:Nat} {f:Nat->Int} (h:IntsR w B (some ⟨b,o,none⟩) n f) (hi:i<n):w.cell? ⟨b,o+i,none⟩=some (.int .i64 (f i)):=by
 obtain ⟨b',o',e,_,h⟩:=h.at hi
 injection e with e
 injection e with e1 e2
 subst e1 e2
 exact h
section
variable {P M g:Nat} {m:Nat->Nat} {w:World}
theorem zc4 (x:Int) (h:GF w w.heap.size g P M m) :
  Calls Tryz.prog 196 #[.pointer (some ⟨g,0,none⟩),.int .i64 x] w fun e w'=>e=.returned (.int .i64 (negF P M (inV (P ^ M) x):Nat))/\Below w.heap.size w w':=by
 have l:=h.ok.1
 have Z:=l.1
 have Y:=l.P_le
 have a1:=l.2.1
 have hq:=l.2.2.2
 have C:Hid (∀ i,i<=M->P ^ i<=256):=fun i hi=>l.pow_le hi
 clear l
 have hX:=zdU (Nat.pow_pos (n:=M) (show 0<P by omega)) x
 go_enter Tryz.func196, Tryz.ntmps196
 go_wp2_with fail
 refine (zbV x h).mono ?_
 rintro e w2 ⟨rfl,hB⟩
 have h2:=h.on hB
 clear h
 obtain ⟨A,k,c,eb,eo,ec,lb,lo,lc,gx,lg,h⟩:=h2
 have c0:=qc0 h.row
 clear h
 obtain ⟨X,y⟩:=exx (inV (P ^ M) x)
 rw [<-y] at hX;rw [<-y]
 have J:=hid y
 clear y
 have V:X<256:=by omega
 have I:Hid (X<P ^ M):=hX
 clear hX hq
 go_wp2
 go_loopg [5,6,1] M (fun gg sv pv xv wx=>∃ i s p u:Nat,sv=.int .i64 (s:Nat)/\pv=.int .i64 (p:Nat)/\xv=.int .i64 (u:Nat)/\i<=M/\M<=i+gg/\Hid (u=X / P ^ i)/\Hid (p=P ^ i)/\Hid (s=valN P (fun i=>(P - dig P X i) % P) i)/\wx.cell? ⟨g,0,none⟩=some (.int .i64 (P:Nat))/\Below w.heap.size w wx)
 case atStart=>exact ⟨0,0,1,X,rfl,rfl,rfl,by omega,by omega,by show _=_; simp,by show _=_; simp,rfl,c0,hB⟩
 clear c0 hB
 obtain ⟨i,s,p,u,rfl,rfl,rfl,hi,U,HU,z,HS,c0,hB⟩:=hrel
 have O:u<=X:=by rw [HU.out]; exact Nat.div_le_self _ _
 by_cases hend:u=0
 ·have B:Hid (negF P M X=s):=by
   show _=_
   rw [HS.out]
   unfold negF
   exact zd2 M (fun j h1 _=>by rw [zd3 (by rw [<-HU.out]; exact hend) h1]; simp) hi
  subst hend
  go_wp2
  go_ret
  exact ⟨by rw [<-J.out,B.out]; rfl,hB⟩
 have F:i<M:=by
  refine Classical.byContradiction fun hn=>hend ?_
  obtain rfl:i=M:=by omega
  rw [HU.out]; exact Nat.div_eq_of_lt I.out
 obtain ⟨du,o⟩:=exx (u % P)
 obtain ⟨qu,q⟩:=exx (u / P)
 obtain ⟨ds,v⟩:∃ d,d=(P - du) % P:=⟨_,rfl⟩
 obtain ⟨t,ht⟩:=exx (ds*p)
 obtain ⟨p2,r⟩:=exx (p*P)
 have G:du<P:=by rw [o]; exact Nat.mod_lt _ (by omega)
 have H:ds<P:=by rw [v]; exact Nat.mod_lt _ (by omega)
 have T:p<=256:=by rw [z.out]; exact C.out i hi
 have b:p2=P ^ (i+1):=by rw [r,z.out,Nat.pow_succ]
 have E:p2<=256:=by rw [b]; exact C.out (i+1) F
 have R:t<=256:=by
  have:t<=p2:=by rw [ht,r,Nat.mul_comm]; exact Nat.mul_le_mul_left p (by omega)
  omega
 have S:s<=256:=by
  have:=za3 (p:=P) (n:=i) (f:=fun i=>(P - dig P X i) % P) fun _ _=>Nat.mod_lt _ (by omega)
  rw [<-HS.out] at this
  have:=C.out i hi
  omega
 have L:Hid (s+t=valN P (fun i=>(P - dig P X i) % P) (i+1)):=by
  show _=_
  rw [zcc,<-HS.out,ht,v,o,HU.out,z.out,Nat.mul_comm]
  rfl
 have K:Hid (qu=X / P ^ (i+1)):=by show _=_; rw [q,HU.out,Nat.pow_succ,Nat.div_div_eq_div_mul]
 have N:=hid b
 have m1:(u:Int).tmod (P:Int)=(du:Int):=by rw [o,Int.tmod_eq_emod_of_nonneg (by omega)]; simp
 have e1:(u:Int) % (P:Int)=(du:Int):=by rw [o]; simp
 have a:((P:Int) - (du:Int))=((P - du:Nat):Int):=by omega
 have e3:((P:Int) - (du:Int)) % (P:Int)=(ds:Int):=by rw [v,a]; rfl
 have m3:((P:Int) - (du:Int)).tmod (P:Int)=(ds:Int):=by rw [Int.tmod_eq_emod_of_nonneg (by omega)]; exact e3
 have e4:(ds:Int)*(p:Int)=(t:Int):=by rw [ht]; simp
 have e5:(p:Int)*(P:Int)=(p2:Int):=by rw [r]; simp
 have d1:(u:Int).tdiv (P:Int)=(qu:Int):=by rw [q,Int.tdiv_eq_ediv_of_nonneg (by omega)]; rfl
 have d3:(u:Int) / (P:Int)=(qu:Int):=by rw [q]; rfl
 have qu6:qu<=256:=by have:u / P<=u:=Nat.div_le_self _ _; omega
 have w1':IntKind.i64.wrap ((P:Int) - (du:Int))=(P:Int) - (du:Int):=IntWalk.i64_in _ (by omega)
 have w2':IntKind.i64.wrap (du:Int)=(du:Int):=IntWalk.i64_in _ (by omega)
 have w4':IntKind.i64.wrap (ds:Int)=(ds:Int):=IntWalk.i64_in _ (by omega)
 have w5':IntKind.i64.wrap (t:Int)=(t:Int):=IntWalk.i64_in _ (by omega)
 have w6':IntKind.i64.wrap (p2:Int)=(p2:Int):=IntWalk.i64_in _ (by omega)
 have w7':IntKind.i64.wrap ((s:Int)+(t:Int))=(s:Int)+(t:Int):=IntWalk.i64_in _ (by omega)
 have w8':IntKind.i64.wrap (qu:Int)=(qu:Int):=IntWalk.i64_in _ (by omega)
 have a0:¬ (P:Int)=0:=by omega
 have W:¬ P=0:=by omega
 have Q:(0:Int)<(u:Int):=by omega
 have D:0<u:=by omega
 clear o q v ht r b HU z HS a hend
 go_wp2
 go_quiet (fail)
 go_wp2
 go_roundg (gk - 1)
 case measure=>omega
 case rel=>exact ⟨i+1,s+t,p2,qu,by go_num,rfl,rfl,by omega,by omega,K,N,L,c0,zad hB _⟩
theorem zgl (x y:Int) (h:GF w w.heap.size g P M m) :
  Calls Tryz.prog 143 #[.pointer (some ⟨g,0,none⟩),.int .i64 x,.int .i64 y] w fun e w'=>e=.returned (.int .i64 (addF P M (inV (P ^ M) x) (negF P M (inV (P ^ M) y)):Nat))/\Below w.heap.size w w':=by
 have a:0<P:=by have:=h.ok.1.1; omega
 go_enter Tryz.func143, Tryz.ntmps143
 go_wp2_with fail
 refine (zc4 y h).mono ?_
 rintro e w1 ⟨rfl,hB⟩
 have h1:=h.on hB
 clear h
 have hn:Hid (inV (P ^ M) ((negF P M (inV (P ^ M) y):Nat):Int)=negF P M (inV (P ^ M) y)):=zal (zb2 a)
 obtain ⟨Y,hY⟩:=exx (negF P M (inV (P ^ M) y))
 rw [<-hY] at hn;rw [<-hY]
 have HY:=hid hY
 clear hY
 go_wp2_with fail
 refine (zbJ x (Y:Int) h1).mono ?_
 rintro e w2 ⟨rfl,kb⟩
 rw [hn.out];replace hB:=onS hB kb;clear kb h1 hn
 obtain ⟨Z,hZ⟩:=exx (addF P M (inV (P ^ M) x) Y)
 rw [<-hZ]
 have HZ:=hid hZ
 clear hZ
 go_wp2
 go_ret
 exact ⟨by rw [HZ.out,HY.out]; rfl,hB⟩
theorem zaU (x y:Int) (h:GF w w.heap.size g P M m) :
  Calls Tryz.prog 144 #[.pointer (some ⟨g,0,none⟩),.int .i64 x,.int .i64 y] w fun e w'=>e=.returned (.int .i64 (mulF P M m (inV (P ^ M) x) (inV (P ^ M) y):Nat))/\Below w.heap.size w w':=by
 have b:=h.ok
 have hL:=fieldLaws b
 have K:=b.1.1
 have hq:=b.1.2.2.2
 have p:=hL.two
 have hX:=zdU (Nat.pow_pos (n:=M) (show 0<P by omega)) x
 have hY:=zdU (Nat.pow_pos (n:=M) (show 0<P by omega)) y
 have HR:=hid (ringM m b.1)
 go_enter Tryz.func144, Tryz.ntmps144
 go_wp2_with fail
 refine (zbV x h).mono ?_
 rintro e w1 ⟨rfl,hB⟩
 have h1:=h.on hB
 go_wp2_with fail
 refine (zbV y h1).mono ?_
 rintro e w2 ⟨rfl,kb⟩
 have h2:=h1.on kb
 replace hB:=onS hB kb;clear kb h1 h
 obtain ⟨X,l⟩:=exx (inV (P ^ M) x)
 obtain ⟨Y,d⟩:=exx (inV (P ^ M) y)
 rw [<-l] at hX;rw [<-d] at hY;rw [<-l,<-d]
 have u:=hid l
 have t:=hid d
 clear l d
 have HL:=hid hL
 clear hL b
 by_cases hX0:X=0
 ·have hv:Hid (mulF P M m X Y=0):=by
   show _=_
   rw [HL.out.mulComm X Y hX hY,hX0]
   exact HL.out.mulZero hY
  have hd:((X:Int) == 0)=true:=by simp [hX0]
  clear hX0 h2
  go_wp2
  go_ret
  exact ⟨by rw [<-u.out,<-t.out,hv.out]; rfl,hB⟩
 have hd:((X:Int) == 0)=false:=by simp [hX0]
 by_cases hY0:Y=0
 ·have hv:Hid (mulF P M m X Y=0):=by
   show _=_
   rw [hY0]
   exact HL.out.mulZero hX
  have C:((Y:Int) == 0)=true:=by simp [hY0]
  clear hX0 hY0 h2
  go_wp2
  go_ret
  exact ⟨by rw [<-u.out,<-t.out,hv.out]; rfl,hB⟩
 have C:((Y:Int) == 0)=false:=by simp [hY0]
 obtain ⟨A,k,c,eb,eo,ec,lb,lo,lc,gx,lg,h⟩:=h2
 obtain ⟨i,hi,s⟩:=zdv p h.gen.1 hX0 hX
 obtain ⟨j,hj,q⟩:=zdv p h.gen.1 hY0 hY
 have z:lg X=i:=by rw [<-s]; exact h.lgs i hi
 have v:lg Y=j:=by rw [<-q]; exact h.lgs j hj
 have c3:=qc3 h.row
 have c4:=qc4 h.row
 have c5:=qc5 h.row
 have l1:=h.lgr.here hX
 have l2:=h.lgr.here hY
 rw [z] at l1;rw [v] at l2
 obtain ⟨r,hr⟩:∃ r,r=(i+j) % (P ^ M - 1):=⟨_,rfl⟩
 have o:r<P ^ M - 1:=by rw [hr]; exact Nat.mod_lt _ (by omega)
 have l3:=h.ex.here o
 have a:pwG (mulF P M m) gx r=mulF P M m X Y:=by rw [hr,<-s,<-q,zev HR.out h.xq h.gen hi j hj]
 rw [a] at l3
 obtain ⟨Z,hZ⟩:=exx (mulF P M m X Y)
 rw [<-hZ] at l3
 have HZ:=hid hZ
 obtain ⟨Q,hQ⟩:=exx (P ^ M)
 rw [<-hQ] at hX hY hi hj c3 c4 c5 o hr hq p
 obtain ⟨Q1,B⟩:=exx (Q - 1)
 rw [<-B] at hi hj c4 o hr
 have E:(Q:Int) - 1=(Q1:Int):=by omega
 have F:¬ (Q1:Int)=0:=by omega
 have D:¬ Q1=0:=by omega
 have J:Q1<=256:=by omega
 have s0:(0:Int)<=(i:Int)+(j:Int):=by omega
 have m1:((i:Int)+(j:Int)) % (Q1:Int)=(r:Int):=by rw [hr]; simp
 have m2:((i:Int)+(j:Int)).tmod (Q1:Int)=(r:Int):=by rw [Int.tmod_eq_emod_of_nonneg s0]; exact m1
 have ws:IntKind.i64.wrap ((i:Int)+(j:Int))=(i:Int)+(j:Int):=IntWalk.i64_in _ (by omega)
 have wr':IntKind.i64.wrap (r:Int)=(r:Int):=IntWalk.i64_in _ (by omega)
 have wq:IntKind.i64.wrap (Q1:Int)=(Q1:Int):=IntWalk.i64_in _ (by omega)
 have I:(X:Int)<(Q:Int):=by omega
 have H:(Y:Int)<(Q:Int):=by omega
 have G:(r:Int)<(Q1:Int):=by omega
 clear h hZ hQ B hr a s q z v hX0 hY0 HR HL
 go_wp2
 go_quiet (fail)
 go_wp2
 go_ret
 exact ⟨by rw [<-u.out,<-t.out,<-HZ.out]; rfl,zad hB _⟩
theorem zc5 (x:Int) (h:GF w w.heap.size g P M m) :
  Calls Tryz.prog 195 #[.pointer (some ⟨g,0,none⟩),.int .i64 x] w fun e w'=>Below w.heap.size w w'/\((inV (P ^ M) x=0/\e=.returned (.tuple #[.int .i64 0,.int .i64 7]))∨(inV (P ^ M) x≠0/\∃ y:Nat,e=.returned (.tuple #[.int .i64 (y:Nat),.int .i64 0])/\y<P ^ M/\y≠0/\mulF P M m (inV (P ^ M) x) y=1)):=by
 have b:=h.ok
 have hL:=fieldLaws b
 have G:=b.1.1
 have hq:=b.1.2.2.2
 have s:=hL.two
 have hX:=zdU (Nat.pow_pos (n:=M) (show 0<P by omega)) x
 have HR:=hid (ringM m b.1)
 go_enter Tryz.func195, Tryz.ntmps195
 go_wp2_with fail
 refine (zbV x h).mono ?_
 rintro e w2 ⟨rfl,hB⟩
 have h2:=h.on hB
 clear h
 obtain ⟨X,l⟩:=exx (inV (P ^ M) x)
 rw [<-l] at hX;rw [<-l]
 have p:=hid l
 clear l hL b
 by_cases hX0:X=0
 ·have q:=hid hX0
  have hd:((X:Int) == 0)=true:=by simp [hX0]
  clear hX0 h2
  go_wp2
  go_ret2
  exact ⟨hB,.inl ⟨by rw [<-p.out]; exact q.out,rfl⟩⟩
 have q:=hid hX0
 have hd:((X:Int) == 0)=false:=by simp [hX0]
 obtain ⟨A,k,c,eb,eo,ec,lb,lo,lc,gx,lg,h⟩:=h2
 obtain ⟨i,hi,o⟩:=zdv s h.gen.1 hX0 hX
 have t:lg X=i:=by rw [<-o]; exact h.lgs i hi
 have c3:=qc3 h.row
 have c4:=qc4 h.row
 have c5:=qc5 h.row
 have l1:=h.lgr.here hX
 rw [t] at l1
 obtain ⟨d,j⟩:=exx (P ^ M - 1 - i)
 obtain ⟨r,hr⟩:=exx (d % (P ^ M - 1))
 have a:r<P ^ M - 1:=by rw [hr]; exact Nat.mod_lt _ (by omega)
 have l3:=h.ex.here a
 obtain ⟨Z,hZ⟩:=exx (pwG (mulF P M m) gx r)
 rw [<-hZ] at l3
 have HV:Hid (Z<P ^ M/\Z≠0/\mulF P M m X Z=1):=by
  refine ⟨by rw [hZ]; exact h.gen.1.lt r a,by rw [hZ]; exact h.gen.1.ne r a,?_⟩
  rw [hZ,<-o,zev HR.out h.xq h.gen hi r a,hr,Nat.add_mod_mod,j,show i+(P ^ M - 1 - i)=P ^ M - 1 by omega,Nat.mod_self]
  rfl
 obtain ⟨Q,hQ⟩:=exx (P ^ M)
 rw [<-hQ] at hX hi c3 c4 c5 a hr hq s j HV
 have HQ:=hid hQ
 obtain ⟨Q1,u⟩:=exx (Q - 1)
 rw [<-u] at hi c4 a hr j
 have z:(Q:Int) - 1=(Q1:Int):=by omega
 have B:¬ (Q1:Int)=0:=by omega
 have v:¬ Q1=0:=by omega
 have F:Q1<=256:=by omega
 have D:(Q1:Int) - (i:Int)=(d:Int):=by omega
 have m1:(d:Int) % (Q1:Int)=(r:Int):=by rw [hr]; simp
 have m2:(d:Int).tmod (Q1:Int)=(r:Int):=by rw [Int.tmod_eq_emod_of_nonneg (by omega)]; exact m1
 have wd:IntKind.i64.wrap (d:Int)=(d:Int):=IntWalk.i64_in _ (by omega)
 have wr':IntKind.i64.wrap (r:Int)=(r:Int):=IntWalk.i64_in _ (by omega)
 have wq:IntKind.i64.wrap (Q1:Int)=(Q1:Int):=IntWalk.i64_in _ (by omega)
 have E:(X:Int)<(Q:Int):=by omega
 have C:(r:Int)<(Q1:Int):=by omega
 clear h hZ hQ u hr o t hX0 HR j
 go_wp2
 go_quiet (fail)
 go_wp2
 go_ret2
 refine ⟨zad hB _,.inr ⟨by rw [<-p.out]; exact q.out,Z,rfl,?_⟩⟩
 rw [<-p.out,<-HQ.out]
 exact HV.out
end
end Go.Proofs.YtgekjfpapmlndaaGreat