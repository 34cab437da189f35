/- Merged texts of a claim: RecMath, RecCnt, RecFirst, RecRed, RecFrom, Recover, FallsPl. -/
import Derived.Test.YtioagplajkoohaaGreatTF5
import Derived.Test.YtioagplajkoohaaGreatTF12
import Derived.Test.YtioagplajkoohaaGreatTF13
import Derived.Test.YtioagplajkoohaaGreatTF14
namespace Go.Proofs.YtioagplajkoohaaGreat
set_option maxRecDepth 100000
set_option maxHeartbeats 32000000
open KA KB KC KD KE KF
structure Tri (q k m:Nat) (B:Nat->Nat->Nat) (p:Nat->Nat):Prop where
 lt:∀ t,t<m->∀ j,j<k->B t j<q
 plt:∀ t,t<m->p t<k
 one:∀ t,t<m->B t (p t)=1
 low:∀ t,t<m->∀ j,j<p t->B t j=0
 zero:∀ t s,t<s->s<m->B s (p t)=0
def KerB (add mul:Nat->Nat->Nat) (k m:Nat) (B:Nat->Nat->Nat) (c:Nat->Nat):Prop:=∀ t,t<m->dotN add mul c (B t) k=0
def Triv (q k:Nat) (K:(Nat->Nat)->Prop):Prop:=∀ c,(∀ j,j<k->c j<q)->K c->∀ j,j<k->c j=0
section
variable {q k m:Nat} {add mul:Nat->Nat->Nat} {neg:Nat->Nat} {B:Nat->Nat->Nat} {p:Nat->Nat}
theorem zhx (hL:FieldLaws q add mul) {c b:Nat->Nat} {j v:Nat} (hc:c j=0) (hv:v<q):∀ n,(∀ i,i<n->c i<q/\b i<q)->dotN add mul (fun i=>if i=j then v else c i) b n=add (dotN add mul c b n) (if j<n then mul v (b j) else 0)
 | 0,_=>by have:=hL.two; rw [if_neg (by omega)]; exact (hL.zeroAdd 0 (by omega)).symm
 | n + 1, h => by
  have hq:=hL.two
  obtain ⟨h1,h2⟩:=h n (by omega)
  show add (dotN add mul (fun i=>if i=j then v else c i) b n) (mul (if n=j then v else c n) (b n))=add (add (dotN add mul c b n) (mul (c n) (b n))) _
  rw [zhx hL hc hv n fun i hi=>h i (by omega)]
  by_cases e:n=j
  ·subst e
   rw [if_pos rfl,if_neg (by omega),if_pos (by omega),hc,hL.mulComm 0 _ (by omega) h2,hL.mulZero h2]
  ·rw [if_neg e]
   by_cases e2:j<n
   ·rw [if_pos e2,if_pos (by omega)]
    have h3:=zb7 hL c b n
    rw [hL.addAssoc _ _ _ h3 (hL.mulLt _ _) (hL.mulLt _ _),hL.addComm (mul v (b j)),<-hL.addAssoc _ _ _ h3 (hL.mulLt _ _) (hL.mulLt _ _)]
   ·rw [if_neg e2,if_neg (by omega),hL.addZero (zb7 hL _ _ _),hL.addZero (hL.addLt _ _)]
theorem zeo (hL:FieldLaws q add mul) {b:Nat->Nat}:∀ n,(∀ i,i<n->b i<q)->∀ c:Nat->Nat,(∀ i,i<n->c i=0)->dotN add mul c b n=0
 | 0,_,_,_=>rfl
 | n+1,h,c,hc=>by
  have hq:=hL.two
  show add (dotN add mul c b n) (mul (c n) (b n))=0
  rw [zeo hL n (fun i hi=>h i (by omega)) c fun i hi=>hc i (by omega),hc n (by omega),hL.mulComm _ _ (by omega) (h n (by omega)),hL.mulZero (h n (by omega)),hL.zeroAdd 0 (by omega)]
theorem zhy (hL:FieldLaws q add mul) {c b:Nat->Nat} {j:Nat}:∀ n,j<n->(∀ i,i<n->c i<q/\b i<q)->(∀ i,i<n->i≠j->c i=0∨b i=0)->dotN add mul c b n=mul (c j) (b j)
 | 0,hj,_,_=>absurd hj (by omega)
 | n + 1, hj, h, h0 => by
  have hq:=hL.two
  obtain ⟨h1,h2⟩:=h n (by omega)
  show add (dotN add mul c b n) (mul (c n) (b n))=_
  have hz:∀ i,i<n+1->i≠j->mul (c i) (b i)=0:=fun i hi hne=>by
   obtain ⟨g1,g2⟩:=h i hi
   rcases h0 i hi hne with e | e
   ·rw [e,hL.mulComm _ _ (by omega) g2,hL.mulZero g2]
   ·rw [e,hL.mulZero g1]
  by_cases e:n=j
  ·subst e
   have key:∀ r,r<=n->dotN add mul c b r=0:=by
    intro r
    induction r with
    | zero=>intro _; rfl
    | succ r ih =>
     intro hr
     show add (dotN add mul c b r) (mul (c r) (b r))=0
     rw [ih (by omega),hz r (by omega) (by omega),hL.zeroAdd 0 (by omega)]
   rw [key n (Nat.le_refl _),hL.zeroAdd _ (hL.mulLt _ _)]
  ·rw [zhy hL n (by omega) (fun i hi=>h i (by omega)) fun i hi hne=>h0 i (by omega) hne,hz n (by omega) e,hL.addZero (hL.mulLt _ _)]
theorem Tri.ne (h:Tri q k m B p) {s t:Nat} (hst:s<t) (ht:t<m):p s≠p t:=fun e=>by
 have h1:=h.zero s t hst ht
 have h2:=h.one t ht
 rw [e] at h1
 omega
theorem Tri.inj (h:Tri q k m B p) {s t:Nat} (hs:s<m) (ht:t<m) (e:p s=p t):s=t:=by
 rcases Nat.lt_trichotomy s t with h1 | h1 | h1
 ·exact absurd e (h.ne h1 ht)
 ·exact h1
 ·exact absurd e.symm (h.ne h1 hs)
theorem Tri.le (h:Tri q k m B p):m<=k:=by
 have h1:((List.range m).map p).Nodup:=zbT List.nodup_range fun s hs t ht e=>h.inj (List.mem_range.1 hs) (List.mem_range.1 ht) e
 have h2:=zfk h1 (m:=List.range k) fun x hx=>by
  obtain ⟨t,ht,rfl⟩:=List.mem_map.1 hx
  exact List.mem_range.2 (h.plt t (List.mem_range.1 ht))
 simpa using h2
theorem Tri.cover (h:Tri q k k B p) {j:Nat} (hj:j<k):∃ t,t<k/\p t=j:=by
 by_cases hx:∃ t,t<k/\p t=j
 ·exact hx
 ·have h1:(j :: (List.range k).map p).Nodup:=List.nodup_cons.2 ⟨fun hm=>by
   obtain ⟨t,ht,e⟩:=List.mem_map.1 hm
   exact hx ⟨t,List.mem_range.1 ht,e⟩,zbT List.nodup_range fun s hs t ht e=>h.inj (List.mem_range.1 hs) (List.mem_range.1 ht) e⟩
  have h2:=zfk h1 (m:=List.range k) fun x hx=>by
   rcases List.mem_cons.1 hx with rfl | hx
   ·exact List.mem_range.2 hj
   ·obtain ⟨t,ht,rfl⟩:=List.mem_map.1 hx
    exact List.mem_range.2 (h.plt t (List.mem_range.1 ht))
  simp at h2
  omega
theorem Tri.triv (hL:FieldLaws q add mul) (h:Tri q k k B p):Triv q k (KerB add mul k k B):=by
 intro c hc hK
 have key:∀ d,d<=k->∀ s,k - d<=s->s<k->c (p s)=0:=by
  intro d
  induction d with
  | zero=>intro _ s h1 h2; omega
  | succ d ih =>
   intro hd s h1 h2
   by_cases e:k - d<=s
   ·exact ih (by omega) s e h2
   ·have h3:=hK s h2
    rw [zhy hL k (h.plt s h2) (fun i hi=>⟨hc i hi,h.lt s h2 i hi⟩) fun i hi hne=>?_,h.one s h2,hL.mulOne (hc _ (h.plt s h2))] at h3
    ·exact h3
    ·obtain ⟨t,ht,rfl⟩:=h.cover hi
     rcases Nat.lt_trichotomy s t with g | g | g
     ·exact .inl (ih (by omega) t (by omega) ht)
     ·exact absurd (by rw [g]) hne
     ·exact .inr (h.zero t s g h2)
 intro j hj
 obtain ⟨t,ht,rfl⟩:=h.cover hj
 exact key k (Nat.le_refl _) t (by omega) ht
theorem Tri.more (hL:FieldLaws q add mul) (hneg:∀ x,x<q->neg x<q/\add x (neg x)=0) (h:Tri q k m B p) (hm:m<k):¬ Triv q k (KerB add mul k m B):=by
 have hq:=hL.two
 obtain ⟨f,hf,hne⟩:∃ f,f<k/\∀ t,t<m->p t≠f:=by
  by_cases hx:∃ f,f<k/\∀ t,t<m->p t≠f
  ·exact hx
  ·have h2:=zfk (l:=List.range k) (m:=(List.range m).map p) List.nodup_range fun x hx2=>by
    have hxk:=List.mem_range.1 hx2
    by_cases h3:∃ t,t<m/\p t=x
    ·obtain ⟨t,ht,e⟩:=h3
     exact List.mem_map.2 ⟨t,List.mem_range.2 ht,e⟩
    ·exact absurd ⟨x,hxk,fun t ht e=>h3 ⟨t,ht,e⟩⟩ hx
   simp at h2
   omega
 have key:∀ d,d<=m->∃ c:Nat->Nat,(∀ j,j<k->c j<q)/\c f=1/\(∀ s,s<m - d->c (p s)=0)/\∀ s,m - d<=s->s<m->dotN add mul c (B s) k=0:=by
  intro d
  induction d with
  | zero =>
   intro _
   refine ⟨fun j=>if j=f then 1 else 0,fun j _=>by show (if j=f then 1 else 0)<q; split <;> omega,if_pos rfl,fun s hs=>if_neg (hne s (by omega)),fun s h1 h2=>by omega⟩
  | succ d ih =>
   intro hd
   obtain ⟨c,g1,g2,g3,g4⟩:=ih (by omega)
   obtain ⟨t,ht⟩:∃ t,t=m - (d+1):=⟨_,rfl⟩
   have htm:t<m:=by omega
   have hp:=h.plt t htm
   obtain ⟨v,hv⟩:∃ v,v=neg (dotN add mul c (B t) k):=⟨_,rfl⟩
   obtain ⟨n1,n2⟩:=hneg _ (zb7 hL c (B t) k)
   rw [<-hv] at n1 n2
   have hc0:c (p t)=0:=g3 t (by omega)
   refine ⟨fun j=>if j=p t then v else c j,fun j hj=>by show (if j=p t then v else c j)<q; split; exact n1; exact g1 j hj,?_,fun s hs=>?_,fun s h1 h2=>?_⟩
   ·show (if f=p t then v else c f)=1
    rw [if_neg (fun e=>hne t htm e.symm)]
    exact g2
   ·show (if p s=p t then v else c (p s))=0
    rw [if_neg (h.ne (by omega) htm)]
    exact g3 s (by omega)
   ·rw [zhx hL hc0 n1 k fun i hi=>⟨g1 i hi,h.lt s h2 i hi⟩,if_pos hp]
    by_cases e:s=t
    ·subst e
     rw [h.one s h2,hL.mulOne n1]
     exact n2
    ·rw [h.zero t s (by omega) h2,hL.mulZero n1,hL.addZero (zb7 hL _ _ _)]
     exact g4 s (by omega) h2
 intro hT
 obtain ⟨c,g1,g2,_,g4⟩:=key m (Nat.le_refl _)
 have:=hT c g1 (fun t ht=>g4 t (by omega) ht) f hf
 omega
theorem Tri.full (hL:FieldLaws q add mul) (hneg:∀ x,x<q->neg x<q/\add x (neg x)=0) (h:Tri q k m B p):m=k↔Triv q k (KerB add mul k m B):=by
 constructor
 ·rintro rfl
  exact h.triv hL
 ·intro hT
  have:=h.le
  by_cases e:m=k
  ·exact e
  ·exact absurd hT (h.more hL hneg (by omega))
def redN (add mul:Nat->Nat->Nat) (neg:Nat->Nat) (B:Nat->Nat->Nat) (p:Nat->Nat) (v:Nat->Nat):Nat->Nat->Nat
 | 0,j=>v j
 | t+1,j=>if redN add mul neg B p v t (p t)=0 then redN add mul neg B p v t j else add (redN add mul neg B p v t j) (neg (mul (redN add mul neg B p v t (p t)) (B t j)))
theorem zcY (hL:FieldLaws q add mul) {v:Nat->Nat} (hv:∀ j,j<k->v j<q):∀ t j,j<k->redN add mul neg B p v t j<q
 | 0,j,hj=>hv j hj
 | t+1,j,hj=>by
  show (if redN add mul neg B p v t (p t)=0 then redN add mul neg B p v t j else _)<q
  split
  ·exact zcY hL hv t j hj
  ·exact hL.addLt _ _
theorem zfQ (hL:FieldLaws q add mul) (hneg:∀ x,x<q->neg x<q/\add x (neg x)=0) (h:Tri q k m B p) {v:Nat->Nat} (hv:∀ j,j<k->v j<q):∀ t,t<=m->∀ s,s<t->redN add mul neg B p v t (p s)=0
 | 0,_,s,hs=>absurd hs (by omega)
 | t + 1, ht, s, hs => by
  have hq:=hL.two
  show (if redN add mul neg B p v t (p t)=0 then redN add mul neg B p v t (p s) else _)=0
  have hlt:=zcY (neg:=neg) (B:=B) (p:=p) hL hv t (p t) (h.plt t (by omega))
  by_cases e:s=t
  ·subst e
   split
   ·assumption
   ·rw [h.one s (by omega),hL.mulOne hlt]
    exact (hneg _ hlt).2
  ·have ih:=zfQ hL hneg h hv t (by omega) s (by omega)
   split
   ·exact ih
   ·rw [ih,h.zero s t (by omega) (by omega),hL.mulZero hlt]
    exact (hneg 0 (by omega)).2
theorem zdo (hL:FieldLaws q add mul) (hneg:∀ x,x<q->neg x<q/\add x (neg x)=0) (h:Tri q k m B p) {v c:Nat->Nat} (hv:∀ j,j<k->v j<q) (hc:∀ j,j<k->c j<q) (hK:KerB add mul k m B c):∀ t,t<=m->dotN add mul c (redN add mul neg B p v t) k=dotN add mul c v k
 | 0,_=>rfl
 | t + 1, ht => by
  have hq:=hL.two
  by_cases e:redN add mul neg B p v t (p t)=0
  ·have e2:dotN add mul c (redN add mul neg B p v (t+1)) k=dotN add mul c (redN add mul neg B p v t) k:=zcr k fun j _=>⟨rfl,if_pos e⟩
   rw [e2,zdo hL hneg h hv hc hK t (by omega)]
  ·obtain ⟨y,hy⟩:∃ y,y=redN add mul neg B p v t (p t):=⟨_,rfl⟩
   have hyq:y<q:=by rw [hy]; exact zcY hL hv t _ (h.plt t (by omega))
   have hng:∀ j,neg (mul y (B t j))<q:=fun j=>(hneg _ (hL.mulLt _ _)).1
   have e2:dotN add mul c (redN add mul neg B p v (t+1)) k=dotN add mul (fun j=>add (redN add mul neg B p v t j) (neg (mul y (B t j)))) c k:=by
    rw [zbE hL k fun j hj=>⟨hc j hj,zcY hL hv _ j hj⟩]
    exact zcr k fun j _=>⟨by rw [hy]; exact if_neg e,rfl⟩
   rw [e2,zfq (v:=fun j=>neg (mul y (B t j))) hL k fun j hj=>⟨zcY hL hv _ j hj,hng j,hc j hj⟩,zbE hL k fun j hj=>⟨zcY hL hv _ j hj,hc j hj⟩,zdo hL hneg h hv hc hK t (by omega)]
   have z1:dotN add mul (fun j=>mul y (B t j)) c k=0:=by
    rw [zem hL hyq k fun j hj=>⟨h.lt t (by omega) j hj,hc j hj⟩,zbE hL k fun j hj=>⟨h.lt t (by omega) j hj,hc j hj⟩,hK t (by omega),hL.mulZero hyq]
   have z2:=zfq (x:=fun j=>mul y (B t j)) (v:=fun j=>neg (mul y (B t j))) (w:=c) hL k fun j hj=>⟨hL.mulLt _ _,hng j,hc j hj⟩
   have z3:dotN add mul (fun j=>add (mul y (B t j)) (neg (mul y (B t j)))) c k=0:=zeo hL k hc _ fun j _=>(hneg _ (hL.mulLt _ _)).2
   rw [z3,z1,hL.zeroAdd _ (zb7 hL _ _ _)] at z2;rw [<-z2,hL.addZero (zb7 hL _ _ _)]
theorem KerB.none {c:Nat->Nat}:KerB add mul k 0 B c:=fun _ h=>absurd h (by omega)
theorem Tri.start:Tri q k 0 B p:=⟨fun _ h=>absurd h (by omega),fun _ h=>absurd h (by omega),fun _ h=>absurd h (by omega),fun _ h=>absurd h (by omega),fun _ _ _ h=>absurd h (by omega)⟩
theorem Tri.same (hL:FieldLaws q add mul) (hneg:∀ x,x<q->neg x<q/\add x (neg x)=0) (h:Tri q k m B p) {v c:Nat->Nat} (hv:∀ j,j<k->v j<q) (hc:∀ j,j<k->c j<q) (hz:∀ j,j<k->redN add mul neg B p v m j=0):(KerB add mul k m B c/\dotN add mul c v k=0)↔KerB add mul k m B c:=by
 refine ⟨fun h=>h.1,fun hK=>⟨hK,?_⟩⟩
 rw [<-zdo (neg:=neg) hL hneg h hv hc hK m (Nat.le_refl _),zbE hL k fun j hj=>⟨hc j hj,by have:=hL.two; rw [hz j hj]; omega⟩]
 exact zeo hL k hc _ hz
theorem Tri.next (hL:FieldLaws q add mul) (hneg:∀ x,x<q->neg x<q/\add x (neg x)=0) (h:Tri q k m B p) {v b:Nat->Nat} {f i:Nat} (hv:∀ j,j<k->v j<q) (hf:f<k) (hlow:∀ j,j<f->redN add mul neg B p v m j=0) (hi:i<q) (h1:mul i (redN add mul neg B p v m f)=1) (hb:∀ j,j<k->b j=mul i (redN add mul neg B p v m j)) :
  Tri q k (m+1) (fun t=>if t=m then b else B t) (fun t=>if t=m then f else p t)/\∀ c,(∀ j,j<k->c j<q)->((KerB add mul k m B c/\dotN add mul c v k=0)↔KerB add mul k (m+1) (fun t=>if t=m then b else B t) c):=by
 have hq:=hL.two
 have hr:=zcY (neg:=neg) (B:=B) (p:=p) hL hv m
 refine ⟨⟨fun t ht j hj=>?_,fun t ht=>?_,fun t ht=>?_,fun t ht j hj=>?_,fun t s hts hs=>?_⟩,fun c hc=>?_⟩
 ·by_cases e:t=m
  ·simp only [if_pos e]; rw [hb j hj]; exact hL.mulLt _ _
  ·simp only [if_neg e]; exact h.lt t (by omega) j hj
 ·by_cases e:t=m
  ·simp only [if_pos e]; exact hf
  ·simp only [if_neg e]; exact h.plt t (by omega)
 ·by_cases e:t=m
  ·simp only [if_pos e]; rw [hb f hf]; exact h1
  ·simp only [if_neg e]; exact h.one t (by omega)
 ·by_cases e:t=m
  ·simp only [if_pos e] at hj ⊢; rw [hb j (by omega),hlow j hj]; exact hL.mulZero hi
  ·simp only [if_neg e] at hj ⊢; exact h.low t (by omega) j hj
 ·by_cases e:s=m
  ·simp only [if_pos e,if_neg (show t≠m by omega)]
   rw [hb _ (h.plt t (by omega)),zfQ hL hneg h hv m (Nat.le_refl _) t (by omega)]
   exact hL.mulZero hi
  ·simp only [if_neg e,if_neg (show t≠m by omega)]
   exact h.zero t s hts (by omega)
 ·have hbd:dotN add mul c b k=mul i (dotN add mul c (redN add mul neg B p v m) k):=by
   have e1:dotN add mul c b k=dotN add mul (fun j=>mul i (redN add mul neg B p v m j)) c k:=by
    rw [zbE hL k fun j hj=>⟨hc j hj,by rw [hb j hj]; exact hL.mulLt _ _⟩]
    exact zcr k fun j hj=>⟨hb j hj,rfl⟩
   rw [e1,zem hL hi k fun j hj=>⟨hr j hj,hc j hj⟩,zbE hL k fun j hj=>⟨hr j hj,hc j hj⟩]
  have hsp:∀ s,s<m->(fun t=>if t=m then b else B t) s=B s:=fun s hs=>if_neg (by omega)
  constructor
  ·rintro ⟨hK,hd⟩ t ht
   by_cases e:t=m
   ·simp only [if_pos e]
    rw [hbd,zdo hL hneg h hv hc hK m (Nat.le_refl _),hd]
    exact hL.mulZero hi
   ·simp only [if_neg e]
    exact hK t (by omega)
  ·intro hK
   have hK2:KerB add mul k m B c:=fun t ht=>by
    have:=hK t (by omega)
    simp only [if_neg (show t≠m by omega)] at this
    exact this
   refine ⟨hK2,?_⟩
   have h2:=hK m (by omega)
   simp only [if_true] at h2
   rw [hbd,zdo hL hneg h hv hc hK2 m (Nat.le_refl _)] at h2
   have hd:=zb7 hL c v k
   have hyq:=hr f hf
   have e3:mul (redN add mul neg B p v m f) (mul i (dotN add mul c v k))=dotN add mul c v k:=by
    rw [<-hL.mulAssoc _ _ _ hyq hi hd,hL.mulComm _ i hyq hi,h1,hL.oneMul _ hd]
   rw [h2,hL.mulZero hyq] at e3
   exact e3.symm
end
section
open Classical
noncomputable def cntS (P:Nat->Prop):Nat->Nat
 | 0=>0
 | m+1=>cntS P m+if P m then 1 else 0
theorem zdp {P Q:Nat->Prop}:∀ {m:Nat},(∀ x,x<m->(P x↔Q x))->cntS P m=cntS Q m
 | 0,_=>rfl
 | m+1,h=>by
  show cntS P m+_=cntS Q m+_
  rw [zdp (m:=m) fun x hx=>h x (by omega)]
  by_cases e:P m
  ·rw [if_pos e,if_pos ((h m (by omega)).1 e)]
  ·rw [if_neg e,if_neg (fun g=>e ((h m (by omega)).2 g))]
theorem ziN (P:Nat->Prop):∀ m,cntS P m<=m
 | 0=>Nat.le_refl _
 | m+1=>by
  have:=ziN P m
  show cntS P m+(if P m then 1 else 0)<=m+1
  split <;> omega
theorem zjK (P:Nat->Prop):cntS P 1=if P 0 then 1 else 0:=by
 show 0+_=_
 rw [Nat.zero_add]
theorem zfR (P:Nat->Prop):∀ m,cntS P (2*m)=cntS (fun y=>P (2*y)) m+cntS (fun y=>P (2*y+1)) m
 | 0=>rfl
 | m+1=>by
  show cntS P (2*m)+(if P (2*m) then 1 else 0)+(if P (2*m+1) then 1 else 0)=cntS (fun y=>P (2*y)) m+(if P (2*m) then 1 else 0)+(cntS (fun y=>P (2*y+1)) m+(if P (2*m+1) then 1 else 0))
  rw [zfR P m]
  omega
def bitN (x j:Nat):Bool:=x / 2 ^ j % 2 == 1
theorem zfS (x:Nat):bitN x 0=(x % 2 == 1):=by unfold bitN; rw [Nat.pow_zero,Nat.div_one]
theorem zcs (x j:Nat):bitN x (j+1)=bitN (x / 2) j:=by
 unfold bitN
 rw [Nat.div_div_eq_div_mul,Nat.pow_succ,Nat.mul_comm (2 ^ j)]
def sizN (x:Nat):Nat->Nat
 | 0=>0
 | r+1=>sizN x r+if bitN x r then 1 else 0
theorem zep (x:Nat):∀ r,sizN x (r+1)=sizN (x / 2) r+if bitN x 0 then 1 else 0
 | 0=>by show 0+(if bitN x 0 then 1 else 0)=0+(if bitN x 0 then 1 else 0); rfl
 | r+1=>by
  show sizN x (r+1)+(if bitN x (r+1) then 1 else 0)=sizN (x / 2) r+(if bitN (x / 2) r then 1 else 0)+_
  rw [zep x r,zcs]
  omega
abbrev MsgP:=(Nat->Nat)->Prop
noncomputable def cntE (T:MsgP->Prop) (D:Nat->MsgP):Nat->Nat->Nat->MsgP->Nat->Nat
 | 0,_,e,K,s=>if T K/\e=s then 1 else 0
 | r+1,i,e,K,s=>cntE T D r (i+1) (e+1) K s+cntE T D r (i+1) e (fun c=>K c/\D i c) s
def RecS (T:MsgP->Prop) (D:Nat->MsgP) (r i:Nat) (K:MsgP) (x:Nat):Prop:=T fun c=>K c/\∀ j,j<r->bitN x j=false->D (i+j) c
theorem zfs (T:MsgP->Prop) (D:Nat->MsgP) (s:Nat):∀ r i e K,cntE T D r i e K s=cntS (fun x=>RecS T D r i K x/\e+sizN x r=s) (2 ^ r)
 | 0, i, e, K => by
  show (if T K/\e=s then 1 else 0)=cntS (fun x=>RecS T D 0 i K x/\e+sizN x 0=s) 1
  have:RecS T D 0 i K 0=T K:=by
   unfold RecS
   congr 1
   funext c
   exact propext ⟨fun h=>h.1,fun h=>⟨h,fun j hj=>absurd hj (by omega)⟩⟩
  rw [zjK]
  by_cases h:T K/\e=s
  ·rw [if_pos h,if_pos ⟨by rw [this]; exact h.1,h.2⟩]
  ·rw [if_neg h,if_neg (fun g=>h ⟨by rw [<-this]; exact g.1,g.2⟩)]
 | r + 1, i, e, K => by
  show cntE T D r (i+1) (e+1) K s+cntE T D r (i+1) e (fun c=>K c/\D i c) s=_
  rw [zfs T D s r,zfs T D s r,Nat.pow_succ,Nat.mul_comm (2 ^ r),zfR,Nat.add_comm]
  have hb0:∀ y,bitN (2*y) 0=false:=fun y=>by rw [zfS]; simp
  have hb1:∀ y,bitN (2*y+1) 0=true:=fun y=>by rw [zfS]; simp
  have h0:∀ y,2*y / 2=y:=fun y=>by omega
  have h1:∀ y,(2*y+1) / 2=y:=fun y=>by omega
  congr 1
  ·refine zdp fun y _=>?_
   rw [zep,hb0,h0,if_neg (by decide),show sizN y r+0=sizN y r from rfl]
   have:RecS T D r (i+1) (fun c=>K c/\D i c) y=RecS T D (r+1) i K (2*y):=by
    unfold RecS
    congr 1
    funext c
    refine propext ⟨fun ⟨⟨g1,g2⟩,g3⟩=>⟨g1,fun j hj hb=>?_⟩,fun ⟨g1,g2⟩=>⟨⟨g1,?_⟩,fun j hj hb=>?_⟩⟩
    ·cases j with
     | zero=>exact g2
     | succ j =>
      rw [zcs,h0] at hb
      have:=g3 j (by omega) hb
      rwa [show i+1+j=i+(j+1) by omega] at this
    ·exact g2 0 (by omega) (hb0 y)
    ·have:=g2 (j+1) (by omega) (by rw [zcs,h0]; exact hb)
     rwa [show i+(j+1)=i+1+j by omega] at this
   rw [this]
  ·refine zdp fun y _=>?_
   rw [zep,hb1,h1,if_pos rfl,show e+1+sizN y r=e+(sizN y r+1) by omega]
   have:RecS T D r (i+1) K y=RecS T D (r+1) i K (2*y+1):=by
    unfold RecS
    congr 1
    funext c
    refine propext ⟨fun ⟨g1,g3⟩=>⟨g1,fun j hj hb=>?_⟩,fun ⟨g1,g2⟩=>⟨g1,fun j hj hb=>?_⟩⟩
    ·cases j with
     | zero=>rw [hb1] at hb; cases hb
     | succ j =>
      rw [zcs,h1] at hb
      have:=g3 j (by omega) hb
      rwa [show i+1+j=i+(j+1) by omega] at this
    ·have:=g2 (j+1) (by omega) (by rw [zcs,h1]; exact hb)
     rwa [show i+(j+1)=i+1+j by omega] at this
   rw [this]
theorem zhz (T:MsgP->Prop) (D:Nat->MsgP) (s r i e:Nat) (K:MsgP):cntE T D r i e K s<=2 ^ r:=by rw [zfs]; exact ziN _ _
noncomputable def valE (T:MsgP->Prop) (D:Nat->MsgP) (p:Rat):Nat->Nat->MsgP->Rat
 | 0,_,K=>if T K then 1 else 0
 | r+1,i,K=>p*valE T D p r (i+1) K+(1 - p)*valE T D p r (i+1) (fun c=>K c/\D i c)
theorem zhA (f g:Nat->Rat):∀ n,sumQ (fun i=>f i+g i) n=sumQ f n+sumQ g n
 | 0=>by show (0:Rat)=0+0; grind
 | n+1=>by
  show sumQ (fun i=>f i+g i) n+(f n+g n)=sumQ f n+f n+(sumQ g n+g n)
  rw [zhA f g n]; grind
theorem sumQ_zero':∀ n,sumQ (fun _=>(0:Rat)) n=0
 | 0=>rfl
 | n+1=>by show sumQ (fun _=>(0:Rat)) n+0=0; rw [sumQ_zero' n]; grind
theorem ziO (e:Nat) (g:Nat->Rat):∀ n,sumQ (fun s=>if e=s then g s else 0) n=if e<n then g e else 0
 | 0=>by rw [if_neg (by omega)]; rfl
 | n + 1 => by
  show sumQ (fun s=>if e=s then g s else 0) n+(if e=n then g n else 0)=_
  rw [ziO e g n]
  by_cases h:e=n
  ·subst h; rw [if_neg (by omega),if_pos rfl,if_pos (by omega)]; grind
  ·by_cases h2:e<n
   ·rw [if_pos h2,if_neg h,if_pos (by omega)]; grind
   ·rw [if_neg h2,if_neg h,if_neg (by omega)]; grind
theorem zhB (T:MsgP->Prop) (D:Nat->MsgP) (p:Rat) (N:Nat):∀ r i e K,i+r=N->e<=i->sumQ (fun s=>(cntE T D r i e K s:Rat)*(powR p s*powR (1 - p) (N - s))) (N+1)=powR p e*powR (1 - p) (i - e)*valE T D p r i K
 | 0, i, e, K, hi, he => by
  by_cases hT:T K
  ·have e1:sumQ (fun s=>(cntE T D 0 i e K s:Rat)*(powR p s*powR (1 - p) (N - s))) (N+1)=sumQ (fun s=>if e=s then powR p s*powR (1 - p) (N - s) else 0) (N+1):=zbU _ fun s _=>by
    show ((if T K/\e=s then 1 else 0:Nat):Rat)*_=_
    by_cases h:e=s
    ·rw [if_pos ⟨hT,h⟩,if_pos h]; push_cast; grind
    ·rw [if_neg (fun g=>h g.2),if_neg h]; push_cast; grind
   rw [e1,ziO,if_pos (by omega)]
   show _=_*(if T K then 1 else 0)
   rw [if_pos hT,show i=N by omega]; grind
  ·have e1:sumQ (fun s=>(cntE T D 0 i e K s:Rat)*(powR p s*powR (1 - p) (N - s))) (N+1)=sumQ (fun _=>0) (N+1):=zbU _ fun s _=>by
    show ((if T K/\e=s then 1 else 0:Nat):Rat)*_=_
    rw [if_neg (fun g=>hT g.1)]; push_cast; grind
   rw [e1,sumQ_zero']
   show _=_*(if T K then 1 else 0)
   rw [if_neg hT]; grind
 | r + 1, i, e, K, hi, he => by
  have e1:sumQ (fun s=>(cntE T D (r+1) i e K s:Rat)*(powR p s*powR (1 - p) (N - s))) (N+1)=sumQ (fun s=>(cntE T D r (i+1) (e+1) K s:Rat)*(powR p s*powR (1 - p) (N - s))+(cntE T D r (i+1) e (fun c=>K c/\D i c) s:Rat)*(powR p s*powR (1 - p) (N - s))) (N+1):=zbU _ fun s _=>by
   show ((cntE T D r (i+1) (e+1) K s+cntE T D r (i+1) e (fun c=>K c/\D i c) s:Nat):Rat)*_=_
   push_cast; grind
  rw [e1,zhA,zhB T D p N r (i+1) (e+1) K (by omega) (by omega),zhB T D p N r (i+1) e _ (by omega) (by omega)]
  rw [show i+1 - (e+1)=i - e by omega,show i+1 - e=i - e+1 by omega]
  show powR p e*p*_*_+powR p e*(powR (1 - p) (i - e)*(1 - p))*_=_*(p*valE T D p r (i+1) K+(1 - p)*valE T D p r (i+1) _)
  grind
structure MonoT (T:MsgP->Prop):Prop where
 mono:∀ K K':MsgP,(∀ c,K' c->K c)->T K->T K'
theorem zeq {T:MsgP->Prop} (hT:MonoT T) (D:Nat->MsgP) {p:Rat} (h0:0<=p) (h1:p<=1):∀ r i (K K':MsgP),(∀ c,K' c->K c)->valE T D p r i K<=valE T D p r i K'
 | 0,i,K,K',h=>by
  show (if T K then (1:Rat) else 0)<=(if T K' then (1:Rat) else 0)
  by_cases g:T K
  ·rw [if_pos g,if_pos (hT.mono K K' h g)]; exact Rat.le_refl
  ·rw [if_neg g]; split <;> decide
 | r+1,i,K,K',h=>by
  have g1:=zeq hT D h0 h1 r (i+1) K K' h
  have g2:=zeq hT D h0 h1 r (i+1) (fun c=>K c/\D i c) (fun c=>K' c/\D i c) fun c hc=>⟨h c hc.1,hc.2⟩
  have s0:0<=1 - p:=by grind
  have k1:=Rat.mul_le_mul_of_nonneg_left g1 h0
  have k2:=Rat.mul_le_mul_of_nonneg_left g2 s0
  show p*valE T D p r (i+1) K+(1 - p)*valE T D p r (i+1) _<=p*valE T D p r (i+1) K'+(1 - p)*valE T D p r (i+1) _
  grind
theorem zct (T:MsgP->Prop) (D:Nat->MsgP) {p:Rat} (h0:0<=p) (h1:p<=1):∀ r i K,0<=valE T D p r i K/\valE T D p r i K<=1
 | 0,i,K=>by
  show 0<=(if T K then (1:Rat) else 0)/\(if T K then (1:Rat) else 0)<=1
  split <;> exact ⟨by decide,by decide⟩
 | r+1,i,K=>by
  obtain ⟨a1,a2⟩:=zct T D h0 h1 r (i+1) K
  obtain ⟨b1,b2⟩:=zct T D h0 h1 r (i+1) fun c=>K c/\D i c
  have s0:0<=1 - p:=by grind
  have k1:=Rat.mul_nonneg h0 a1
  have k2:=Rat.mul_nonneg s0 b1
  have k3:=Rat.mul_le_mul_of_nonneg_left a2 h0
  have k4:=Rat.mul_le_mul_of_nonneg_left b2 s0
  show 0<=p*valE T D p r (i+1) K+(1 - p)*valE T D p r (i+1) _/\p*valE T D p r (i+1) K+(1 - p)*valE T D p r (i+1) _<=1
  constructor <;> grind
theorem zer {T:MsgP->Prop} (hT:MonoT T) (D:Nat->MsgP) {p p':Rat} (h0:0<=p) (h1:p<=p') (h2:p'<=1):∀ r i K,valE T D p' r i K<=valE T D p r i K
 | 0,i,K=>Rat.le_refl
 | r+1,i,K=>by
  have g1:=zer hT D h0 h1 h2 r (i+1) K
  have g2:=zer hT D h0 h1 h2 r (i+1) fun c=>K c/\D i c
  have g3:=zeq hT D h0 (Rat.le_trans h1 h2) r (i+1) K (fun c=>K c/\D i c) fun c hc=>hc.1
  have p0:0<=p':=Rat.le_trans h0 h1
  have s0:0<=1 - p':=by grind
  have d0:0<=p' - p:=by grind
  have k1:=Rat.mul_le_mul_of_nonneg_left g1 p0
  have k2:=Rat.mul_le_mul_of_nonneg_left g2 s0
  have k3:=Rat.mul_le_mul_of_nonneg_left g3 d0
  show p'*valE T D p' r (i+1) K+(1 - p')*valE T D p' r (i+1) _<=p*valE T D p r (i+1) K+(1 - p)*valE T D p r (i+1) _
  grind
theorem zfT (T:MsgP->Prop) (D:Nat->MsgP):∀ r i K,valE T D 0 r i K=if T (fun c=>K c/\∀ j,j<r->D (i+j) c) then 1 else 0
 | 0, i, K => by
  have:(fun c=>K c/\∀ j,j<0->D (i+j) c)=K:=by
   funext c
   exact propext ⟨fun h=>h.1,fun h=>⟨h,fun j hj=>absurd hj (by omega)⟩⟩
  rw [this]; rfl
 | r + 1, i, K => by
  show 0*_+(1 - 0)*valE T D 0 r (i+1) (fun c=>K c/\D i c)=_
  rw [zfT T D r (i+1) fun c=>K c/\D i c]
  have:(fun c=>(K c/\D i c)/\∀ j,j<r->D (i+1+j) c)=fun c=>K c/\∀ j,j<r+1->D (i+j) c:=by
   funext c
   refine propext ⟨fun ⟨⟨g1,g2⟩,g3⟩=>⟨g1,fun j hj=>?_⟩,fun ⟨g1,g2⟩=>⟨⟨g1,g2 0 (by omega)⟩,fun j hj=>?_⟩⟩
   ·cases j with
    | zero=>exact g2
    | succ j=>have:=g3 j (by omega); rwa [show i+1+j=i+(j+1) by omega] at this
   ·have:=g2 (j+1) (by omega); rwa [show i+(j+1)=i+1+j by omega] at this
  rw [this]
  grind
theorem zhC (T:MsgP->Prop) (D:Nat->MsgP):∀ r i K,valE T D 1 r i K=if T K then 1 else 0
 | 0,i,K=>rfl
 | r+1,i,K=>by
  show 1*valE T D 1 r (i+1) K+(1 - 1)*_=_
  rw [zhC T D r (i+1)]
  grind
theorem ziq (q k:Nat):MonoT (Triv q k):=⟨fun _ _ h hK c hc hc'=>hK c hc (h c hc')⟩
end
open Go.RowKit
def FirstPost (n:Nat) (f:Nat->Int) (w:World) (e:Ending) (w':World):Prop :=
 ∃ r:Int,e=.returned (.int .i64 r)/\Below w.heap.size w w'/\((r = -1/\∀ j,j<n->f j=0)∨∃ p:Nat,r=p/\p<n/\f p≠0/\∀ j,j<p->f j=0)
theorem zfU (A:Option Addr) (n c:Nat) (f:Nat->Int) (w:World) (h:IntsR w w.heap.size A n f) (hn:n<=1048576) :
  Calls Tryz.prog 213 #[.slice A n c] w (FirstPost n f w):=by
 have HA:=hid h
 clear h
 go_enter Tryz.func213, Tryz.ntmps213
 go_wp2
 go_loopg [7] n (fun gg iv wx=>∃ i:Nat,iv=.int .i64 (i:Nat)/\i<=n/\n<=i+gg/\Hid (∀ j,j<i->f j=0)/\Below w.heap.size w wx)
 case atStart=>exact ⟨0,rfl,by omega,by omega,fun j hj=>absurd hj (by omega),Below.refl _ _⟩
 case round =>
  obtain ⟨i,rfl,hi,hig,HZ,hB⟩:=hrel
  have hi0:(0:Int)<=(i:Int):=by omega
  by_cases hlt:i<n
  ·have hlt':(i:Int)<(n:Int):=by omega
   obtain ⟨b,o,hAe,hb,x0⟩:=HA.out.at hlt
   subst hAe
   replace x0:=(hB.cell (p:=⟨b,o+i,none⟩) hb).trans x0
   obtain ⟨x,hx⟩:∃ x,x=f i:=⟨_,rfl⟩
   rw [<-hx] at x0
   have HX:=hid hx
   clear hx hb
   by_cases h0:x=0
   ·have hx0:(x != 0)=false:=by simpa using h0
    have HZ2:Hid (∀ j,j<i+1->f j=0):=fun j hj=>by
     by_cases e:j=i
     ·rw [e,<-HX.out,h0]
     ·exact HZ.out j (by omega)
    clear h0
    go_wp2
    go_roundg (gk - 1)
    case measure=>omega
    case rel=>exact ⟨i+1,by go_num,by omega,by omega,HZ2,hB⟩
   ·have hx0:(x != 0)=true:=by simpa using h0
    have HN:=hid h0
    clear h0
    go_wp2
    go_ret
    exact ⟨i,rfl,hB,.inr ⟨i,rfl,hlt,by rw [<-HX.out]; exact HN.out,HZ.out⟩⟩
  ·have hlt':¬ (i:Int)<(n:Int):=by omega
   obtain rfl:i=n:=by omega
   go_wp2
   go_ret
   exact ⟨-1,rfl,hB,.inl ⟨rfl,HZ.out⟩⟩
section
variable {P:Program} (w:World)
theorem zdu (base:Nat) (t ty e:TypeId) (i:TypeInfo) (z:Value) (s bytes:Nat) (ht:P.underlying t=some (.slice e)) (hi:P.info? e=some i) (hz:i.zero=some z)
  (hsize:i.size=s) (hby:i.bytes=bytes) (hzs:z.cells.size=s) (hs:0<s)
  (A:Option Addr) (n:Nat) (f:Nat->Nat->Value) (hown:Own w base e s (.slice A n n) n f)
  (a:Addr) (c:Nat) (hnews:∀ j,j<s->w.cell? (a.add j)=some (f n j)) (h1:∀ j,j<s->(f n j).oneCell'=true)
  (h63:n+1<=maxLen) (hbytes:(n+1)*bytes<=140737488355328) (hbase:base<=w.heap.size) :
  ∃ v' w',(Builtin.append_ #[t,t] ty #[.slice A n n,.slice (some a) 1 c]).run P w=.ok v' w'/\Own w' base e s v' (n+1) f/\w.grownBy w' none/\v'.ownBlock=some w.heap.size:=by
 subst hsize
 subst hby
 have hsmall:n+1<=9223372036854775807:=by simp only [maxLen] at h63; omega
 have hnews':∀ j u,(elem i.size (f n))[j]?=some u->w.cell? (a.add j)=some u:=fun j u hu=>by
  have hj:j<i.size:=by have:=(List.getElem?_eq_some_iff.1 hu).1; rwa [zam] at this
  rw [zcy hj] at hu
  injection hu with hu
  subst hu
  exact hnews j hj
 have h1':∀ u ∈ elem i.size (f n),u.oneCell'=true:=fun u hu=>by
  obtain ⟨j,hj,rfl⟩:=List.mem_map.1 hu
  exact h1 j (List.mem_range.1 hj)
 have hsrc:=Src.ofSlice (P:=P) w (size:=i.size) (e':=e) ht a 1 c (elem i.size (f n)) (by rw [zam]; omega) hnews' h1'
 have hold:(Builtin.firstCells i.size n (.slice A n n)).run P w.drew=.ok (flat i.size f n).toArray w.drew:=by
  rcases hown with ⟨h,rfl⟩ | ⟨g,o,cap,cur,h,hb,hg,hnc,hcm,hfit,hcur⟩
  ·injection h with h
   subst h
   simp [Builtin.firstCells,flat]
  ·injection h with h _ h3
   subst h h3
   refine run_firstCells_some (P:=P) w.drew i.size n ⟨g,o,none⟩ n n (flat i.size f n) (zal _ _ _) fun j u hu=>?_
   have hj:j<n*i.size:=by have:=(List.getElem?_eq_some_iff.1 hu).1; rwa [zal] at this
   have e1:j / i.size<n:=Nat.div_lt_of_lt_mul (by rw [Nat.mul_comm]; exact hj)
   have e2:j % i.size<i.size:=Nat.mod_lt _ hs
   have e3:j / i.size*i.size+j % i.size=j:=Nat.div_add_mod' j i.size
   have:=zb9 (f:=f) hs e1 e2
   rw [e3,hu] at this
   injection this with this
   subst this
   have:=hcur _ e1 _ e2
   have hadd:(⟨g,o,none⟩:Addr).add j=⟨g,o+j,none⟩:=by unfold Addr.add; split <;> simp_all
   rw [hadd]
   show w.cell? ⟨g,o+j,none⟩=_
   rw [cell_of_row w g _ cur e (0,0) hg,<-this]
   congr 1; omega
 have hrun:=run_append_grow_src (P:=P) w t t ty e i z ht hi hz A n n (flat i.size f n) hold (.slice (some a) 1 c) 1 (elem i.size (f n)) hsrc (by omega) (by omega) (growslice_fits (by omega) hbytes)
 refine ⟨_,_,hrun,.inr ⟨w.heap.size,0,_,_,rfl,hbase,heap_alloc_new w.drew _,grownCap_ge w (n+1) n e,grownCap_le_maxLen w (n+1) n e h63,?_,fun k hk j hj=>?_⟩,⟨rfl,rfl,rfl,by simp,fun k hk _=>Below.heap_alloc w.drew _ k hk⟩,rfl⟩
 ·have hge:=grownCap_ge w (n+1) n e
  have e1:(grownCap w (n+1) n e - (n+1))*i.size+(n+1)*i.size=grownCap w (n+1) n e*i.size:=by rw [<-Nat.add_mul]; congr 1; omega
  simp [zal,zam,size_zeroCells,hzs]
  rw [Nat.add_mul] at e1
  omega
 ·have hlt:k*i.size+j<(n+1)*i.size:=by
   have:(k+1)*i.size<=(n+1)*i.size:=Nat.mul_le_mul_right i.size (by omega)
   rw [Nat.add_mul] at this; omega
  have hlen:(flat i.size f n ++ elem i.size (f n)).length=(n+1)*i.size:=by rw [List.length_append,zal,zam,Nat.add_mul]; omega
  rw [Nat.zero_add,Array.getElem?_append_left (by simpa [hlen] using hlt)]
  rw [List.getElem?_toArray]
  by_cases hkn:k<n
  ·rw [List.getElem?_append_left (by
    rw [zal]
    have:(k+1)*i.size<=n*i.size:=Nat.mul_le_mul_right i.size hkn
    rw [Nat.add_mul] at this; omega)]
   exact zb9 hs hkn hj
  ·obtain rfl:k=n:=by omega
   rw [List.getElem?_append_right (by rw [zal]; omega),zal,show k*i.size+j - k*i.size=j by omega]
   exact zcy hj
end
section
variable {P:Program} (w:World)
theorem zcR {ops:Array Oper} {rest:List Oper} {o:Oper} {a:Act} {Q:Exit->Act->World->Prop} (hgd:o.guard=none) (sl x:Operand) (t:TypeId)
  (ho:o.op=.call { callee:=.builtin .append,args:=#[sl,x],argTypes:=#[t,t] })
  (base:Nat) (e:TypeId) (i:TypeInfo) (z:Value) (s bytes:Nat) (ht:P.underlying t=some (.slice e)) (hi:P.info? e=some i) (hz:i.zero=some z)
  (hsize:i.size=s) (hby:i.bytes=bytes) (hzs:z.cells.size=s) (hs:0<s)
  (A:Option Addr) (n:Nat) (f:Nat->Nat->Value) (hv:a.eval sl=.slice A n n) (hown:Own w base e s (.slice A n n) n f)
  (ad:Addr) (c:Nat) (hx:a.eval x=.slice (some ad) 1 c) (hnews:∀ j,j<s->w.cell? (ad.add j)=some (f n j)) (h1:∀ j,j<s->(f n j).oneCell'=true)
  (h63:n+1<=maxLen) (hbytes:(n+1)*bytes<=140737488355328) (hbase:base<=w.heap.size)
  (h:∀ v' w',Own w' base e s v' (n+1) f->w.grownBy w' none->v'.ownBlock=some w.heap.size->wpList P ops Q rest (a.put o.dst v') w'):wpList P ops Q (o :: rest) a w:=by
 refine wpList_plain hgd fun K hK=>?_
 obtain ⟨v',w',hrun,h2,h3,h4⟩:=zdu (P:=P) w base t o.type e i z s bytes ht hi hz hsize hby hzs hs A n f hown ad c hnews h1 h63 hbytes hbase
 unfold Oper.wp execOp
 simp only [ho,resolve,invoke,builtin,Sem.run_bind,Sem.run_pure,Result.andThen_ok,List.map_toArray,List.map_cons,List.map_nil,hv,hx,hrun]
 exact hK _ _ (h v' w' h2 h3 h4)
end
def RedPost (q k m:Nat) (add mul:Nat->Nat->Nat) (neg:Nat->Nat) (B:Nat->Nat->Nat) (p v:Nat->Nat) (w0 w:World) (e:Ending) (w':World):Prop :=
 Below w0.heap.size w0 w'/\w.heap.size<=w'.heap.size/\((e=.returned (.slice none 0 0)/\∀ j,j<k->redN add mul neg B p v m j=0) ∨
  ∃ f i go,e=.returned (.slice (some ⟨go,0,none⟩) k k)/\f<k/\(∀ j,j<f->redN add mul neg B p v m j=0)/\i<q/\mul i (redN add mul neg B p v m f)=1/\w.heap.size<=go/\w'.rowIs go 3 k (fun j=>.int .i64 (mul i (redN add mul neg B p v m j):Nat)))
theorem zgl (P M g rb vb k m:Nat) (m':Nat->Nat) (BA:Option Addr) (bc:Nat) (B:Nat->Nat->Nat) (p v:Nat->Nat) (w0 w:World) (hB:Below w0.heap.size w0 w) (hG:GF w0 w0.heap.size g P M m') (hrb:rb<w0.heap.size) (hcb:w0.cell? ⟨rb,0,none⟩=some (.pointer (some ⟨g,0,none⟩))) (hR:MRows w0 BA m k B)
  (hT:Tri (P ^ M) k m B p) (hvb:w0.heap.size<=vb) (hv:w.rowIs vb 3 k (fun j=>.int .i64 (v j:Nat))) (hvq:∀ j,j<k->v j<P ^ M) (hk:k<=64) (hm:m<=64) :
  Calls Tryz.prog 148 #[.pointer (some ⟨rb,0,none⟩),.slice (some ⟨vb,0,none⟩) k k,.slice BA m bc] w (RedPost (P ^ M) k m (addF P M) (mulF P M m') (negF P M) B p v w0 w):=by
 have hok:=hG.ok
 have hL:=fieldLaws hok
 have hP0:0<P:=by have:=hok.1.1; omega
 have HG:=hid hG
 have HR:=hid hR
 have HT:=hid hT
 have HVQ:=hid hvq
 have HCB:=hid hcb
 have HNEG:Hid (∀ x,x<P ^ M->negF P M x<P ^ M/\addF P M x (negF P M x)=0):=fun x _=>⟨zb6 hP0,zbC hP0⟩
 have HL:=hid hL
 have HLT:Hid (∀ t j,j<k->redN (addF P M) (mulF P M m') (negF P M) B p v t j<P ^ M):=fun t j hj=>zcY hL hvq t j hj
 obtain ⟨rd,hrd⟩:∃ r,r=redN (addF P M) (mulF P M m') (negF P M) B p v:=⟨_,rfl⟩
 have HRD:=hid hrd
 rw [<-hrd] at HLT
 have HV0:=hid (show w.rowIs vb 3 k (fun j=>.int .i64 (rd 0 j:Nat)) from hv.congr fun j _=>by rw [hrd]; rfl)
 have HW:=hid (Nat.le_refl w.heap.size)
 have HB0:=hid hB
 obtain ⟨wi,hwi⟩:∃ W,W=w:=⟨_,rfl⟩
 rw [<-hwi] at HW
 have HWI:=hid hwi
 clear hG hR hT hv hvq hcb hL hrd hwi hok hB
 go_enter Tryz.func148, Tryz.ntmps148
 go_wp2
 go_loopg [17] m (fun gg iv wx=>∃ t:Nat,iv=.int .i64 (t:Nat)/\t<=m/\m<=t+gg/\Hid (wx.rowIs vb 3 k (fun j=>.int .i64 (rd t j:Nat)))/\Hid (Below w0.heap.size w0 wx)/\Hid (w.heap.size<=wx.heap.size))
 case atStart=>exact ⟨0,rfl,by omega,by omega,HV0,HB0,Nat.le_refl _⟩
 case round =>
  clear HV0 HB0
  obtain ⟨t,rfl,ht,htg,HV,HB,HS⟩:=hrel
  have ht0:(0:Int)<=(t:Int):=by omega
  by_cases hlt:t<m
  ·have hlt':(t:Int)<(m:Int):=by omega
   obtain ⟨tb,to0,RA,rc,hTe,htb,t0,_,_,hrow,_⟩:=HR.out t hlt
   subst hTe
   replace t0:=(HB.out.cell (p:=⟨tb,to0+t,none⟩) htb).trans t0
   have HROW:=hid hrow
   have hp:=HT.out.plt t hlt
   have h1:=HT.out.one t hlt
   have hlow:=HT.out.low t hlt
   have HBT:=hid (HT.out.lt t hlt)
   have h1':=hid h1
   have hlow':=hid hlow
   clear hrow htb h1 hlow
   obtain ⟨gO,hgO⟩:∃ x,x=gk:=⟨_,rfl⟩
   subst hgO
   obtain ⟨w2,hw2⟩:∃ X,X=wr:=⟨_,rfl⟩
   subst hw2
   go_wp2_with fail
   refine (zfU RA k rc (fun j=>(B t j:Nat)) w2 (HROW.out.on HB.out) (by omega)).mono ?_
   rintro e w3 ⟨r,rfl,kb,hr⟩
   dsimp only at hr
   obtain rfl:r=(p t:Nat):=by
    rcases hr with ⟨_,h2⟩ | ⟨f,rfl,h2,h3,h4⟩
    ·have:=h2 (p t) hp; have:=h1'.out; omega
    ·rcases Nat.lt_trichotomy f (p t) with h5 | h5 | h5
     ·have:=hlow'.out f h5; omega
     ·rw [h5]
     ·have:=h4 (p t) h5; have:=h1'.out; omega
   have HV3:=hid (zaa HV.out kb)
   have HB3:=hid (onS HB.out kb)
   have HS3:=hid (Nat.le_trans HS.out kb.size)
   replace t0:=cellS kb t0;clear kb hr HV HB HS
   obtain ⟨pt,hpt⟩:∃ x,x=p t:=⟨_,rfl⟩
   rw [<-hpt] at hp h1' hlow' ⊢
   have HPT:=hid hpt
   clear hpt
   obtain ⟨x,hx⟩:∃ x,x=rd t pt:=⟨_,rfl⟩
   have hxq:x<P ^ M:=by rw [hx]; exact HLT.out t pt hp
   have c0:w3.cell? ⟨vb,pt,none⟩=some (.int .i64 (x:Nat)):=by rw [hx]; exact HV3.out.cell hp
   have HX:=hid hx
   clear hx
   by_cases hx0:x=0
   ·have hxb:((x:Int) == 0)=true:=by simp [hx0]
    have HV4:Hid (w3.rowIs vb 3 k (fun j=>.int .i64 (rd (t+1) j:Nat))):=HV3.out.congr fun j _=>by
     have:rd (t+1) j=rd t j:=by
      rw [HRD.out]
      refine if_pos ?_
      rw [<-HRD.out,<-HPT.out,<-HX.out,hx0]
     rw [this]
    clear hx0
    go_wp2
    clear c0 t0
    go_roundg (gO - 1)
    case measure=>omega
    case rel=>exact ⟨t+1,by go_num,by omega,by omega,HV4,HB3,HS3⟩
   ·have hxb:((x:Int) == 0)=false:=by simp; omega
    have HX0:=hid hx0
    have HIX:=hid (zaS hxq)
    clear hx0
    have y0:w3.cell? ⟨rb,0,none⟩=some (.pointer (some ⟨g,0,none⟩)):=(HB3.out.cell (p:=⟨rb,0,none⟩) hrb).trans HCB.out
    go_wp2
    refine wp_region_held_drew (S:=fun w'=>w'.cell? ⟨rb,0,none⟩=some (.pointer (some ⟨g,0,none⟩))/\w'.cell? ⟨vb,pt,none⟩=some (.int .i64 (x:Nat))) (by kernel_rfl) ⟨cellS (Below.refl _ _).drew y0,cellS (Below.refl _ _).drew c0⟩ (fun hHeld=>?_)
    obtain ⟨w4,hw⟩:∃ W,W=World.drew w3:=⟨_,rfl⟩
    have kb:Below w3.heap.size w3 w4:=by rw [hw]; exact (Below.refl _ _).drew
    rw [<-hw] at hHeld ⊢;clear hw
    have HV4:=hid (zaa HV3.out kb)
    have HB4:=hid (onS HB3.out kb)
    have HS4:=hid (Nat.le_trans HS3.out kb.size)
    clear kb y0 c0 t0 HV3 HB3 HS3
    refine tkq 0 (h:=tkq 1 (h:=tkq 2 (h:=tkq 3 (h:=tkq 4 (h:=tkq 5 (h:=tkq 6 (h:=tkq 7 (h:=tkq 8 (h:=?_)))))))))
    refine rdq 9 (h:=fun K hK=>?_)
    go_simp
    go_wp2_with fail
    refine (zcQ x k RA rc (B t) (HG.out.at HB4.out HB4.out.size) hxq (HROW.out.on HB4.out) HBT.out (by omega)).mono ?_
    rintro e w5 ⟨sg,rfl,hsg,hsr,kb⟩
    have HV5:=hid (zaa HV4.out kb)
    have HB5:=hid (onS HB4.out kb)
    have HS5:=hid (Nat.le_trans HS4.out kb.size)
    have HSR:=hid hsr
    have hvl:=HV4.out.lt
    have HNE:=hid (show sg≠vb by omega)
    clear kb hsr hvl HV4 HB4 HS4
    refine bkq hK ⟨(HB5.out.cell (p:=⟨rb,0,none⟩) hrb).trans HCB.out,by have:=HV5.out.cell hp; rw [<-HX.out] at this; exact this⟩ (h:=fun hHeld=>?_)
    clear hK K
    refine tkq 10 (h:=?_)
    refine wpAnyH_done (by kernel_rfl) ?_ _
    clear hHeld hsg
    have HV6:Hid (w5.rowIs vb 3 k (fun j=>.int .i64 ((if j<0 then rd (t+1) j else rd t j:Nat):Int))):=HV5.out.congr fun j _=>by rw [if_neg (by omega)]
    clear HV5
    go_wp2
    go_loopg [40] k (fun gg iv wx=>∃ j:Nat,iv=.int .i64 (j:Nat)/\j<=k/\k<=j+gg/\Hid (wx.rowIs vb 3 k (fun u=>.int .i64 ((if u<j then rd (t+1) u else rd t u:Nat):Int)))/\Hid (wx.rowIs sg 3 k (fun u=>.int .i64 (mulF P M m' x (B t u):Nat)))/\Hid (Below w0.heap.size w0 wx)/\Hid (w.heap.size<=wx.heap.size))
    case atStart=>exact ⟨0,rfl,by omega,by omega,HV6,HSR,HB5,HS5⟩
    case round =>
     clear HV6 HSR HB5 HS5
     obtain ⟨j,rfl,hj,hjg,HV,HSR,HB,HS⟩:=hrel
     have hj0:(0:Int)<=(j:Int):=by omega
     by_cases hjk:j<k
     ·have hjk':(j:Int)<(k:Int):=by omega
      obtain ⟨y,hy⟩:∃ y,y=rd t j:=⟨_,rfl⟩
      have hyq:y<P ^ M:=by rw [hy]; exact HLT.out t j hjk
      obtain ⟨z,hz⟩:∃ z,z=mulF P M m' x (B t j):=⟨_,rfl⟩
      have hzq:z<P ^ M:=by rw [hz]; exact HL.out.mulLt _ _
      have HY:=hid hy
      have HZ:=hid hz
      have HIY:=hid (zaS hyq)
      have HIZ:=hid (zaS hzq)
      clear hy hz hyq hzq
      obtain ⟨w6,hw6⟩:∃ X,X=wr:=⟨_,rfl⟩
      rw [<-hw6] at HV HSR HB HS ⊢;clear hw6
      have y0:w6.cell? ⟨rb,0,none⟩=some (.pointer (some ⟨g,0,none⟩)):=(HB.out.cell (p:=⟨rb,0,none⟩) hrb).trans HCB.out
      have s0:w6.cell? ⟨sg,j,none⟩=some (.int .i64 (z:Nat)):=by rw [HZ.out]; exact HSR.out.cell hjk
      go_wp2
      refine wp_region_held_drew (S:=fun w'=>w'.cell? ⟨rb,0,none⟩=some (.pointer (some ⟨g,0,none⟩))/\w'.cell? ⟨sg,j,none⟩=some (.int .i64 (z:Nat))) (by kernel_rfl) ⟨cellS (Below.refl _ _).drew y0,cellS (Below.refl _ _).drew s0⟩ (fun hHeld=>?_)
      obtain ⟨w7,hw⟩:∃ W,W=World.drew w6:=⟨_,rfl⟩
      have kb:Below w6.heap.size w6 w7:=by rw [hw]; exact (Below.refl _ _).drew
      rw [<-hw] at hHeld ⊢;clear hw;replace HV:=hid (zaa HV.out kb);replace HSR:=hid (zaa HSR.out kb);replace HB:=hid (onS HB.out kb);replace HS:=hid (Nat.le_trans HS.out kb.size);replace y0:=cellS kb y0;replace s0:=cellS kb s0;clear kb
      have c0:w7.cell? ⟨vb,j,none⟩=some (.int .i64 (y:Nat)):=by have:=HV.out.cell hjk; rw [if_neg (by omega),<-HY.out] at this; exact this
      refine tkq 0 (h:=tkq 1 (h:=tkq 2 (h:=tkq 3 (h:=tkq 4 (h:=tkq 5 (h:=tkq 6 (h:=tkq 7 (h:=tkq 8 (h:=?_)))))))))
      refine tkq 10 (h:=tkq 11 (h:=tkq 12 (h:=tkq 13 (h:=?_))))
      refine rdq 9 (h:=fun K hK=>?_)
      go_simp
      refine bkq hK ⟨y0,s0⟩ (h:=fun hHeld=>?_)
      clear hK K c0
      refine rdq 14 (h:=fun K hK=>?_)
      go_simp
      go_wp2_with fail
      refine (zih (y:Int) (z:Int) (HG.out.at HB.out HB.out.size)).mono ?_
      rintro e w8 ⟨rfl,kb⟩
      rw [HIY.out,HIZ.out];replace HV:=hid (zaa HV.out kb);replace HSR:=hid (zaa HSR.out kb);replace HB:=hid (onS HB.out kb);replace HS:=hid (Nat.le_trans HS.out kb.size);replace y0:=cellS kb y0;replace s0:=cellS kb s0;clear kb
      obtain ⟨d,hd⟩:∃ d,d=addF P M y (negF P M z):=⟨_,rfl⟩
      rw [<-hd]
      have HD:=hid hd
      clear hd
      refine bkq hK ⟨y0,s0⟩ (h:=fun hHeld=>?_)
      clear hK K
      refine tkq 15 (h:=?_)
      refine rdq 16 (h:=fun K hK=>?_)
      have c0:=HV.out.cell hjk
      have z0:=HV.out.frozen j
      go_simp
      have hrv:(w8.setCell ⟨vb,j,none⟩ (.int .i64 (d:Int))).rowIs vb 3 k (fun u=>.int .i64 ((if u<j+1 then rd (t+1) u else rd t u:Nat):Int)):=(HV.out.set j _).congr fun u hu=>by
       by_cases e:u=j
       ·subst e
        rw [if_pos rfl,if_pos (by omega)]
        have:rd (t+1) u=d:=by
         rw [HD.out,HY.out,HZ.out,HX.out,HPT.out,HRD.out]
         refine if_neg ?_
         rw [<-HRD.out,<-HPT.out,<-HX.out]
         exact HX0.out
        rw [this]
       ·rw [if_neg e]
        by_cases e2:u<j
        ·rw [if_pos e2,if_pos (by omega)]
        ·rw [if_neg e2,if_neg (by omega)]
      have HV8:=hid hrv
      have HSR8:=hid (HSR.out.setOther (a:=⟨vb,j,none⟩) HNE.out (.int .i64 (d:Int)))
      have HB8:=hid (show Below w0.heap.size w0 (w8.setCell ⟨vb,j,none⟩ (.int .i64 (d:Int))) from HB.out.setCell hvb _)
      have HS8:Hid (w.heap.size<=(w8.setCell ⟨vb,j,none⟩ (.int .i64 (d:Int))).heap.size):=by show _<=_; rw [World.size_setCell]; exact HS.out
      obtain ⟨w9,hw9⟩:∃ W,W=w8.setCell ⟨vb,j,none⟩ (.int .i64 (d:Int)):=⟨_,rfl⟩
      rw [<-hw9] at HV8 HSR8 HB8 HS8 ⊢;clear hw9 hrv c0 z0 HV HSR HB HS y0 s0
      refine bkq hK ⟨(HB8.out.cell (p:=⟨rb,0,none⟩) hrb).trans HCB.out,by have:=HSR8.out.cell hjk; rw [<-HZ.out] at this; exact this⟩ (h:=fun hHeld=>?_)
      clear hK K
      refine wpAnyH_done (by kernel_rfl) ?_ _
      clear hHeld
      go_wp2
      go_roundg (gk - 1)
      case measure=>omega
      case rel=>exact ⟨j+1,by go_num,by omega,by omega,HV8,HSR8,HB8,HS8⟩
     ·have hjk':¬ (j:Int)<(k:Int):=by omega
      obtain rfl:j=k:=by omega
      have HV9:Hid (wr.rowIs vb 3 j (fun u=>.int .i64 (rd (t+1) u:Nat))):=HV.out.congr fun u hu=>by rw [if_pos hu]
      clear HV
      go_wp2
      go_roundg (gO - 1)
      case measure=>omega
      case rel=>exact ⟨t+1,by go_num,by omega,by omega,HV9,HB,HS⟩
  ·have hlt':¬ (t:Int)<(m:Int):=by omega
   obtain rfl:t=m:=by omega
   obtain ⟨w2,hw2⟩:∃ X,X=wr:=⟨_,rfl⟩
   rw [<-hw2] at HV HB HS ⊢;clear hw2
   go_wp2_with fail
   refine (zfU (some ⟨vb,0,none⟩) k k (fun j=>(rd t j:Nat)) w2 (rowInts HV.out) (by omega)).mono ?_
   rintro e w3 ⟨r,rfl,kb,hr⟩
   dsimp only at hr
   have HV3:=hid (zaa HV.out kb)
   have HB3:=hid (onS HB.out kb)
   have HS3:=hid (Nat.le_trans HS.out kb.size)
   clear kb HV HB HS
   rcases hr with ⟨rfl,hz⟩ | ⟨f,rfl,hf,hne,hlow⟩
   ·have HZ:Hid (∀ j,j<k->redN (addF P M) (mulF P M m') (negF P M) B p v t j=0):=fun j hj=>by
     have:=hz j hj
     rw [<-HRD.out]; omega
    clear hz
    go_wp2
    go_ret
    exact ⟨HB3.out,by rw [HWI.out] at HW; exact HS3.out,.inl ⟨rfl,HZ.out⟩⟩
   ·have hf0:¬ (f:Int)<0:=by omega
    obtain ⟨x,hx⟩:∃ x,x=rd t f:=⟨_,rfl⟩
    have hxq:x<P ^ M:=by rw [hx]; exact HLT.out t f hf
    have HX:=hid hx
    have HX0:=hid (show x≠0 by rw [<-hx] at hne; omega)
    have HLOW:Hid (∀ j,j<f->redN (addF P M) (mulF P M m') (negF P M) B p v t j=0):=fun j hj=>by
     have:=hlow j hj
     rw [<-HRD.out]; omega
    have HIX:=hid (zaS hxq)
    have c0:w3.cell? ⟨vb,f,none⟩=some (.int .i64 (x:Nat)):=by rw [hx]; exact HV3.out.cell hf
    have y0:w3.cell? ⟨rb,0,none⟩=some (.pointer (some ⟨g,0,none⟩)):=(HB3.out.cell (p:=⟨rb,0,none⟩) hrb).trans HCB.out
    clear hx hne hlow
    go_wp2
    refine wp_region_held_drew (S:=fun w'=>w'.cell? ⟨rb,0,none⟩=some (.pointer (some ⟨g,0,none⟩))/\w'.cell? ⟨vb,f,none⟩=some (.int .i64 (x:Nat))) (by kernel_rfl) ⟨cellS (Below.refl _ _).drew y0,cellS (Below.refl _ _).drew c0⟩ (fun hHeld=>?_)
    obtain ⟨w4,hw⟩:∃ W,W=World.drew w3:=⟨_,rfl⟩
    have kb:Below w3.heap.size w3 w4:=by rw [hw]; exact (Below.refl _ _).drew
    rw [<-hw] at hHeld ⊢;clear hw
    have HV4:=hid (zaa HV3.out kb)
    have HB4:=hid (onS HB3.out kb)
    have HS4:=hid (Nat.le_trans HS3.out kb.size)
    clear kb y0 c0 HV3 HB3 HS3
    refine tkq 0 (h:=tkq 1 (h:=tkq 2 (h:=tkq 3 (h:=tkq 4 (h:=tkq 5 (h:=tkq 6 (h:=tkq 7 (h:=?_))))))))
    refine rdq 8 (h:=fun K hK=>?_)
    go_simp
    go_wp2_with fail
    refine (zeh (x:Int) (HG.out.at HB4.out HB4.out.size)).mono ?_
    rintro e w5 ⟨kb,hinv⟩
    rw [HIX.out] at hinv
    rcases hinv with ⟨h9,_⟩ | ⟨_,i,rfl,hiq,hi0,hmi⟩
    ·exact absurd h9 HX0.out
    have HMI:=hid hmi
    have HV5:=hid (zaa HV4.out kb)
    have HB5:=hid (onS HB4.out kb)
    have HS5:=hid (Nat.le_trans HS4.out kb.size)
    clear kb hmi HV4 HB4 HS4
    refine bkq hK ⟨(HB5.out.cell (p:=⟨rb,0,none⟩) hrb).trans HCB.out,by have:=HV5.out.cell hf; rw [<-HX.out] at this; exact this⟩ (h:=fun hHeld=>?_)
    clear hK K
    refine tkq 9 (h:=tkq 10 (h:=tkq 11 (h:=tkq 12 (h:=tkq 13 (h:=?_)))))
    refine wpAnyH_done (by kernel_rfl) ?_ _
    clear hHeld
    have y0:w5.cell? ⟨rb,0,none⟩=some (.pointer (some ⟨g,0,none⟩)):=(HB5.out.cell (p:=⟨rb,0,none⟩) hrb).trans HCB.out
    go_wp2_with fail
    refine (zcQ i k (some ⟨vb,0,none⟩) k (rd t) (HG.out.at HB5.out HB5.out.size) hiq (rowInts HV5.out) (fun j hj=>HLT.out t j hj) (by omega)).mono ?_
    rintro e w6 ⟨go,rfl,hgo,hgr,kb⟩
    have HGR:=hid hgr
    have HB6:=hid (onS HB5.out kb)
    have HS6:=hid (Nat.le_trans HS5.out kb.size)
    have HGO:=hid (Nat.le_trans HS5.out hgo)
    clear kb hgr hgo y0 HV5 HB5 HS5
    go_wp2
    go_ret
    refine ⟨HB6.out,HS6.out,.inr ⟨f,i,go,rfl,hf,HLOW.out,hiq,?_,HGO.out,?_⟩⟩
    ·rw [<-HRD.out,<-HX.out,HL.out.mulComm _ _ hiq hxq]
     exact HMI.out
    ·rw [<-HRD.out]
     exact HGR.out
theorem zdI {w w1 w2:World} {row:Option Nat} (h:w.grownBy w1 row) (h':w1.grownBy w2 row):w.grownBy w2 row :=
 ⟨h'.os.trans h.os,h'.tape.trans h.tape,h'.output.trans h.output,Nat.le_trans h.size h'.size,fun k hk hne=>(h'.block k (Nat.lt_of_lt_of_le hk h.size) hne).trans (h.block k hk hne)⟩
theorem MTab.keptBy {w w':World} {base n k cb:Nat} {v:Value} {W:Nat->Nat->Nat} (h:MTab w base v n k W) (hg:w.grownBy w' (some cb)) (hb:cb<base):MTab w' base v n k W:=by
 obtain ⟨R,h1,h2⟩:=h
 have key:∀ (u:Value) e m f,Own w base e 1 u m f->Own w' base e 1 u m f:=fun u e m f hu=>hu.kept hg (by
  cases e2:u.ownBlock with
  | none=>exact .inl rfl
  | some q =>
   refine .inr fun e3=>?_
   injection e3 with e3
   have:=(hu.lt q e2).1
   omega)
 exact ⟨R,key _ _ _ _ h1,fun i hi=>key _ _ _ _ (h2 i hi)⟩
theorem MTab.tight {w:World} {base n k c:Nat} {A:Option Addr} {W:Nat->Nat->Nat} (h:MTab w base (.slice A n c) n k W):MTab w base (.slice A n n) n k W:=by
 obtain ⟨R,h1,h2⟩:=h
 refine ⟨R,?_,h2⟩
 rcases h1 with ⟨e,h0⟩ | ⟨g,o,cap,cur,e,hb,hg,hc,hm,hf,hcur⟩
 ·injection e with e1 e2 e3
  subst e1 e2
  exact .inl ⟨rfl,rfl⟩
 ·injection e with e1 e2 e3
  subst e1 e3
  exact .inr ⟨g,o,n,cur,rfl,hb,hg,Nat.le_refl _,by omega,by omega,hcur⟩
theorem zcu {w:World} {base n k:Nat} {W:Nat->Nat->Nat} {ops:Array Oper} {rest:List Oper} {o:Oper} {a:Act} {Q:Exit->Act->World->Prop} (hgd:o.guard=none) (sl x:Operand)
  (ho:o.op=.call { callee:=.builtin .append,args:=#[sl,x],argTypes:=#[25, 25] })
  {A:Option Addr} (h:MTab w base (.slice A n n) n k W) (hv:a.eval sl=.slice A n n) {ad:Addr} {c:Nat} {r:Value} {y:Nat->Nat} (hx:a.eval x=.slice (some ad) 1 c)
  (hcell:w.cell? (ad.add 0)=some r) (h1:r.oneCell'=true) (hrow:Own w base 3 1 r k (fun j _=>.int .i64 (y j:Nat))) (hbase:base<=w.heap.size) (hN:n<=1048576)
  (K:∀ v' w',MTab w' base v' (n+1) k (fun u=>if u=n then y else W u)->Below w.heap.size w w'->wpList Tryz.prog ops Q rest (a.put o.dst v') w'):wpList Tryz.prog ops Q (o :: rest) a w:=by
 obtain ⟨R,hA,hB⟩:=h
 obtain ⟨i0,qi0,qz0,qz1,qz2⟩:=info_parts Tryz.infoInts
 have hown:Own w base 22 1 (.slice A n n) n (fun i _=>if i=n then r else R i):=hA.congr fun i hi _ _=>by rw [if_neg (by omega)]
 refine zcR w hgd sl x _ ho base 22 i0 _ 1 24 Tryz.underlying25 qi0 qz0 qz1 qz2 rfl (by omega) A n _ hv hown ad c hx (fun j hj=>by
   obtain rfl:j=0:=by omega
   rw [if_pos rfl]
   exact hcell) (fun _ _=>by rw [if_pos rfl]; exact h1) (by unfold maxLen; omega) (by omega) hbase ?_
 intro v' w3 hown3 hg3 _
 have kb:Below w.heap.size w w3:=(Below.refl w.heap.size w).grown hg3 (Nat.le_refl _) (fun q e=>by cases e)
 refine K v' w3 ⟨fun i=>if i=n then r else R i,hown3,fun i hi=>?_⟩ kb
 show Own w3 base _ 1 (if i=n then r else R i) k _
 by_cases e:i=n
 ·rw [if_pos e]
  simp only [if_pos e]
  exact hrow.on kb
 ·rw [if_neg e]
  simp only [if_neg e]
  exact (hB i (by omega)).on kb
def recCell (a b c d e f g:Value) (i:Nat):Value:=if i=0 then a else if i=1 then b else if i=2 then c else if i=3 then d else if i=4 then e else if i=5 then f else g
theorem KG.qc0 {w:World} {g:Nat} {T:TypeId} {a b c d e f i:Value} (h:w.rowIs g T 7 (recCell a b c d e f i)) : w.cell? ⟨g,0,none⟩=some a:=h.cell (i:=0) (by decide)
theorem KG.qc1 {w:World} {g:Nat} {T:TypeId} {a b c d e f i:Value} (h:w.rowIs g T 7 (recCell a b c d e f i)) : w.cell? ⟨g,1,none⟩=some b:=h.cell (i:=1) (by decide)
theorem KG.qc2 {w:World} {g:Nat} {T:TypeId} {a b c d e f i:Value} (h:w.rowIs g T 7 (recCell a b c d e f i)) : w.cell? ⟨g,2,none⟩=some c:=h.cell (i:=2) (by decide)
theorem KG.qc3 {w:World} {g:Nat} {T:TypeId} {a b c d e f i:Value} (h:w.rowIs g T 7 (recCell a b c d e f i)) : w.cell? ⟨g,3,none⟩=some d:=h.cell (i:=3) (by decide)
theorem KG.qc4 {w:World} {g:Nat} {T:TypeId} {a b c d e f i:Value} (h:w.rowIs g T 7 (recCell a b c d e f i)) : w.cell? ⟨g,4,none⟩=some e:=h.cell (i:=4) (by decide)
theorem KG.qc5 {w:World} {g:Nat} {T:TypeId} {a b c d e f i:Value} (h:w.rowIs g T 7 (recCell a b c d e f i)) : w.cell? ⟨g,5,none⟩=some f:=h.cell (i:=5) (by decide)
theorem KG.qc6 {w:World} {g:Nat} {T:TypeId} {a b c d e f i:Value} (h:w.rowIs g T 7 (recCell a b c d e f i)) : w.cell? ⟨g,6,none⟩=some i:=h.cell (i:=6) (by decide)
open KG
structure RecMem (w0 w:World) (g P M rb cb:Nat) (A:Option Addr) (k c N:Nat) (T:Option Addr) (n d:Nat) (cs:Nat->Nat):Prop where
 below:Below w0.heap.size w0 w
 box:w.rowIs rb 105 7 (recCell (.pointer (some ⟨g,0,none⟩)) (.int .i64 (P:Nat)) (.int .i64 (M:Nat)) (.slice A k c) (.int .i64 (N:Nat)) (.slice T n d) (.slice (some ⟨cb,0,none⟩) (N+1) (N+1)))
 cnt:w.rowIs cb 3 (N+1) (fun s=>.int .i64 (cs s:Nat))
theorem RecMem.on {w0 w w':World} {g P M rb cb:Nat} {A:Option Addr} {k c N:Nat} {T:Option Addr} {n d:Nat} {cs:Nat->Nat} (h:RecMem w0 w g P M rb cb A k c N T n d cs) (hb:Below w.heap.size w w'):RecMem w0 w' g P M rb cb A k c N T n d cs:=⟨onS h.below hb,zaa h.box hb,zaa h.cnt hb⟩
def FromPost (w:World) (cb N:Nat) (cs:Nat->Nat) (e:Ending) (w':World):Prop:=e=.returned (.tuple #[])/\w.grownBy w' (some cb)/\w'.rowIs cb 3 (N+1) (fun s=>.int .i64 (cs s:Nat))
theorem RecMem.counted {w0 w w':World} {g P M rb cb:Nat} {A:Option Addr} {k c N:Nat} {T:Option Addr} {n d:Nat} {cs cs':Nat->Nat} (h:RecMem w0 w g P M rb cb A k c N T n d cs) (hg:w.grownBy w' (some cb)) (hc:w'.rowIs cb 3 (N+1) (fun s=>.int .i64 (cs' s:Nat))) (hcb:w0.heap.size<=cb) (hrc:rb≠cb):RecMem w0 w' g P M rb cb A k c N T n d cs' :=
 ⟨h.below.grown hg h.below.size (fun q e=>by injection e with e; omega),zav h.box hg hrc,hc⟩
theorem zjL {T:MsgP->Prop} {D:Nat->MsgP} {i e s:Nat} {K:MsgP} (h:T K):cntE T D 0 i e K s=if s=e then 1 else 0:=by
 classical
 show (if T K/\e=s then 1 else 0)=_
 by_cases h2:s=e
 ·rw [if_pos ⟨h,h2.symm⟩,if_pos h2]
 ·rw [if_neg (fun g=>h2 g.2.symm),if_neg h2]
theorem zkB {T:MsgP->Prop} {D:Nat->MsgP} {i e s:Nat} {K:MsgP} (h:¬ T K):cntE T D 0 i e K s=0:=by
 classical
 show (if T K/\e=s then 1 else 0)=_
 rw [if_neg (fun g=>h g.1)]
def ColD (add mul:Nat->Nat->Nat) (n:Nat) (V:Nat->Nat->Nat) (i:Nat):MsgP:=fun c=>dotN add mul c (fun t=>V t i) n=0
section
variable {P M g rb cb k c N n d:Nat} {m':Nat->Nat} {A T:Option Addr} {V:Nat->Nat->Nat} {w0:World}
theorem zir (hok:FieldOk P M m') (e m:Nat) (v:Value) (cs:Nat->Nat) (B:Nat->Nat->Nat) (p:Nat->Nat) (K:MsgP) (w:World) (he:e<=N) (hM:RecMem w0 w g P M rb cb A k c N T n d cs) (hT:MTab w (rb+1) v m n B) (hTri:Tri (P ^ M) n m B p)
  (hK:∀ x,(∀ j,j<n->x j<P ^ M)->(K x↔KerB (addF P M) (mulF P M m') n m B x)) (hcs:∀ s,cs s+1<=1048576) :
  Calls Tryz.prog 65 #[.pointer (some ⟨rb,0,none⟩),.int .i64 (N:Nat),.int .i64 (e:Nat),v] w (FromPost w cb N (fun s=>cs s+cntE (Triv (P ^ M) n) (ColD (addF P M) (mulF P M m') n V) 0 N e K s)):=by
 have hL:=fieldLaws hok
 have hP0:0<P:=by have:=hok.1.1; omega
 have hfull:=hTri.full hL fun x _=>⟨zb6 hP0,zbC hP0⟩
 have hKT:Triv (P ^ M) n K↔m=n:=by
  rw [hfull]
  exact ⟨fun h x hx hk=>h x hx ((hK x hx).2 hk),fun h x hx hk=>h x hx ((hK x hx).1 hk)⟩
 obtain ⟨BA,bc,rfl⟩:=hT.shape
 have hmn:=hTri.le
 have HM:=hid hM
 have q4:=qc4 hM.box
 have q5:=qc5 hM.box
 have q6:=qc6 hM.box
 have HKT:=hid hKT
 clear hL hfull hKT hK hTri hM hT
 by_cases hmn2:m=n
 ·have hbn:((m:Int) == (n:Int))=true:=by simp [hmn2]
  obtain ⟨x,hx⟩:∃ x,x=cs e:=⟨_,rfl⟩
  have hxb:=hcs e
  rw [<-hx] at hxb
  have c0:w.cell? ⟨cb,e,none⟩=some (.int .i64 (x:Nat)):=by rw [hx]; exact HM.out.cnt.cell (by omega)
  have z0:=HM.out.cnt.frozen e
  have hwr:IntKind.i64.wrap ((x:Int)+1)=(x:Int)+1:=IntWalk.i64_in _ (by omega)
  have he0:(0:Int)<=(e:Int):=by omega
  have heN:(e:Int)<(N:Int)+1:=by omega
  have hrow:Hid ((w.setCell ⟨cb,e,none⟩ (.int .i64 ((x:Int)+1))).rowIs cb 3 (N+1) (fun s=>.int .i64 ((cs s+cntE (Triv (P ^ M) n) (ColD (addF P M) (mulF P M m') n V) 0 N e K s:Nat):Int))):=(HM.out.cnt.set e _).congr fun s hs=>by
   rw [zjL (HKT.out.2 hmn2)]
   by_cases h:s=e
   ·subst h
    rw [if_pos rfl,if_pos rfl,hx]
    push_cast
    rfl
   ·rw [if_neg h,if_neg h,Nat.add_zero]
  have hgr:=hid (zcf w cb e (.int .i64 ((x:Int)+1)))
  clear hx hmn2
  go_enter Tryz.func65, Tryz.ntmps65
  go_wp2
  refine endNone rfl rfl ?_
  exact ⟨rfl,hgr.out,hrow.out⟩
 ·have hbn:((m:Int) == (n:Int))=false:=by simp; omega
  have hrow:Hid (w.rowIs cb 3 (N+1) (fun s=>.int .i64 ((cs s+cntE (Triv (P ^ M) n) (ColD (addF P M) (mulF P M m') n V) 0 N e K s:Nat):Int))):=HM.out.cnt.congr fun s hs=>by
   rw [zkB fun h2=>hmn2 (HKT.out.1 h2),Nat.add_zero]
  clear hmn2
  go_enter Tryz.func65, Tryz.ntmps65
  go_wp2
  refine endNone rfl rfl ?_
  exact ⟨rfl,World.grownBy.refl _ _,hrow.out⟩
theorem zis (hok:FieldOk P M m') (hcb:w0.heap.size<=cb) (hrc:cb<rb) (hG:GF w0 w0.heap.size g P M m') (hR:MRows w0 T n N V) (hV:∀ t,t<n->∀ j,j<N->V t j<P ^ M) (hN:N<=64) (hn:n<=N) (r i:Nat) (hir:i+(r+1)=N)
  (ih:∀ (e m:Nat) (v:Value) (cs:Nat->Nat) (B:Nat->Nat->Nat) (p:Nat->Nat) (K:MsgP) (w:World),e<=i+1->RecMem w0 w g P M rb cb A k c N T n d cs->MTab w (rb+1) v m n B->Tri (P ^ M) n m B p->(∀ x,(∀ j,j<n->x j<P ^ M)->(K x↔KerB (addF P M) (mulF P M m') n m B x))->(∀ s,cs s+2 ^ r<=1048576) ->
   Calls Tryz.prog 65 #[.pointer (some ⟨rb,0,none⟩),.int .i64 ((i:Int)+1),.int .i64 (e:Nat),v] w (FromPost w cb N (fun s=>cs s+cntE (Triv (P ^ M) n) (ColD (addF P M) (mulF P M m') n V) r (i+1) e K s)))
  (e m:Nat) (v:Value) (cs:Nat->Nat) (B:Nat->Nat->Nat) (p:Nat->Nat) (K:MsgP) (w:World) (he:e<=i) (hM:RecMem w0 w g P M rb cb A k c N T n d cs) (hT:MTab w (rb+1) v m n B) (hTri:Tri (P ^ M) n m B p)
  (hK:∀ x,(∀ j,j<n->x j<P ^ M)->(K x↔KerB (addF P M) (mulF P M m') n m B x)) (hcs:∀ s,cs s+2 ^ (r+1)<=1048576) :
  Calls Tryz.prog 65 #[.pointer (some ⟨rb,0,none⟩),.int .i64 (i:Nat),.int .i64 (e:Nat),v] w (FromPost w cb N (fun s=>cs s+cntE (Triv (P ^ M) n) (ColD (addF P M) (mulF P M m') n V) (r+1) i e K s)):=by
 have hL:=fieldLaws hok
 have hq256:=hok.1.2.2.2
 have hP0:0<P:=by have:=hok.1.1; omega
 have HNEG:Hid (∀ x,x<P ^ M->negF P M x<P ^ M/\addF P M x (negF P M x)=0):=fun x _=>⟨zb6 hP0,zbC hP0⟩
 have HL:=hid hL
 have HG:=hid hG
 have HR:=hid hR
 have HV:=hid hV
 have HTRI:=hid hTri
 have HK:=hid hK
 have HCS:=hid hcs
 have HM:=hid hM
 have HT:=hid hT
 have IH:=hid ih
 have hmn:=hTri.le
 obtain ⟨BA,bc,rfl⟩:=hT.shape
 have hne:rb≠cb:=by omega
 have hpow:2 ^ (r+1)=2 ^ r+2 ^ r:=by rw [Nat.pow_succ]; omega
 have hpp:0<2 ^ r:=Nat.pow_pos (by omega)
 have HCS1:Hid (∀ s,cs s+2 ^ r<=1048576):=fun s=>by have:=hcs s; omega
 have HCS2:Hid (∀ s,cs s+cntE (Triv (P ^ M) n) (ColD (addF P M) (mulF P M m') n V) r (i+1) (e+1) K s+2 ^ r<=1048576):=fun s=>by
  have h1:=hcs s
  have h2:=zhz (Triv (P ^ M) n) (ColD (addF P M) (mulF P M m') n V) s r (i+1) (e+1) K
  omega
 have ih1:=ih (e+1) m _ cs B p K w (by omega) hM hT hTri hK HCS1.out
 rw [show ((e+1:Nat):Int)=(e:Int)+1 by omega] at ih1
 have IH1:=hid ih1
 have hmk:=fun W=>zau (P:=Tryz.prog) 22 3 _ 8 Tryz.underlying22 Tryz.infoInt rfl (n:Int) (by omega) (by omega) (by omega) W
 simp only [Int.toNat_natCast] at hmk
 have HMK:=hid hmk
 clear ih ih1 hG hR hV hTri hK hcs hM hT hL hmk hpow hpp
 have q4:=qc4 HM.out.box
 have hiN:((i:Int) == (N:Int))=false:=by simp; omega
 have hwi:IntKind.i64.wrap ((i:Int)+1)=(i:Int)+1:=IntWalk.i64_in _ (by omega)
 have hwe:IntKind.i64.wrap ((e:Int)+1)=(e:Int)+1:=IntWalk.i64_in _ (by omega)
 go_enter Tryz.func65, Tryz.ntmps65
 go_wp2_with fail
 refine IH1.out.mono ?_
 rintro e1 w1 ⟨rfl,hg1,hc1⟩
 have HM1:=hid (HM.out.counted hg1 hc1 hcb hne)
 have HT1:=hid (HT.out.keptBy hg1 (by omega))
 have HG1:=hid hg1
 clear hg1 hc1 q4 HM HT IH1
 have q5:=qc5 HM1.out.box
 have hmk:=HMK.out
 go_upto_region 5 with fail
 have kb:=(Below.refl w1.heap.size w1).alloc (Nat.le_refl _) (Obj.cells (madeCells #[Value.int .i64 0] n) 3)
 have ra:=World.rowIs_made w1 (.int .i64 0) n 3
 obtain ⟨w2,hw2⟩:∃ W,W=w1.alloc (Obj.cells (madeCells #[Value.int .i64 0] n) 3):=⟨_,rfl⟩
 obtain ⟨vb,hvb⟩:∃ b,b=w1.heap.size:=⟨_,rfl⟩
 rw [<-hw2] at kb ra ⊢;rw [<-hvb] at ra ⊢
 have HVB:=hid hvb
 have HB2:=hid kb
 replace q5:=cellS kb q5
 have HV2:Hid (w2.rowIs vb 3 n (fun t=>.int .i64 ((if t<0 then V t i else 0:Nat):Int))):=ra.congr fun t _=>by rw [if_neg (by omega)]; rfl
 clear hw2 hvb hmk kb ra
 go_wp2
 clear q5
 go_loopg [56] n (fun gg iv wx=>∃ t:Nat,iv=.int .i64 (t:Nat)/\t<=n/\n<=t+gg/\Hid (wx.rowIs vb 3 n (fun u=>.int .i64 ((if u<t then V u i else 0:Nat):Int)))/\Hid (Below w1.heap.size w1 wx))
 case atStart=>exact ⟨0,rfl,by omega,by omega,HV2,HB2⟩
 case round =>
  clear HV2 HB2
  obtain ⟨t,rfl,ht,htg,HVR,HB⟩:=hrel
  have ht0:(0:Int)<=(t:Int):=by omega
  by_cases hlt:t<n
  ·have hlt':(t:Int)<(n:Int):=by omega
   obtain ⟨tb,to0,RA,rc,hTe,htb,t0,_,_,hrow,_⟩:=HR.out t hlt
   subst hTe
   have hB0:=onS HM1.out.below HB.out
   replace t0:=(hB0.cell (p:=⟨tb,to0+t,none⟩) htb).trans t0
   obtain ⟨xb,xo,hxe,hxb,x0⟩:=IntsR.at hrow (show i<N by omega)
   subst hxe
   replace x0:=(hB0.cell (p:=⟨xb,xo+i,none⟩) hxb).trans x0
   dsimp only at x0
   have c0:=HVR.out.cell hlt
   have z0:=HVR.out.frozen t
   have hrv:(wr.setCell ⟨vb,t,none⟩ (.int .i64 (V t i:Nat))).rowIs vb 3 n (fun u=>.int .i64 ((if u<t+1 then V u i else 0:Nat):Int)):=(HVR.out.set t _).congr fun u hu=>by
    by_cases e:u=t
    ·subst e
     rw [if_pos rfl,if_pos (by omega)]
    ·rw [if_neg e]
     by_cases e2:u<t
     ·rw [if_pos e2,if_pos (by omega)]
     ·rw [if_neg e2,if_neg (by omega)]
   have HVR2:=hid hrv
   have HB2:=hid (show Below w1.heap.size w1 (wr.setCell ⟨vb,t,none⟩ (.int .i64 (V t i:Nat))) from HB.out.setCell (by rw [HVB.out]; exact Nat.le_refl _) _)
   obtain ⟨y,hy⟩:∃ y,y=V t i:=⟨_,rfl⟩
   rw [<-hy] at x0 HVR2 HB2;clear hy hrv hB0 hrow htb hxb
   have hi0:(0:Int)<=(i:Int):=by omega
   have hiN2:(i:Int)<(N:Int):=by omega
   go_wp2
   clear c0 z0 t0 x0
   go_roundg (gk - 1)
   case measure=>omega
   case rel=>exact ⟨t+1,by go_num,by omega,by omega,HVR2,HB2⟩
  ·have hlt':¬ (t:Int)<(n:Int):=by omega
   obtain rfl:t=n:=by omega
   obtain ⟨w3,hw3⟩:∃ X,X=wr:=⟨_,rfl⟩
   rw [<-hw3] at HVR HB ⊢;clear hw3
   have HCOL:=hid (show w3.rowIs vb 3 t (fun u=>.int .i64 (V u i:Nat)) from HVR.out.congr fun u hu=>by rw [if_pos hu])
   clear HVR
   go_wp2_with fail
   refine (zgl P M g rb vb t m m' BA bc B p (fun u=>V u i) w1 w3 HB.out (HG.out.at HM1.out.below HM1.out.below.size) HM1.out.box.lt (HM1.out.box.cell (i:=0) (by omega)) (HT1.out.rd hq256 HTRI.out.lt) HTRI.out (by rw [HVB.out]; exact Nat.le_refl _) HCOL.out (fun j hj=>HV.out j hj i (by omega)) (by omega) (by omega)).mono ?_
   rintro e2 w4 ⟨kb,hs4,hcase⟩
   have hvq:∀ j,j<t->V j i<P ^ M:=fun j hj=>HV.out j hj i (by omega)
   rcases hcase with ⟨rfl,hz⟩ | ⟨f,ii,go,rfl,hf,hlow,hiq,h1,hgo,hgr⟩
   ·have hq:∀ W,(binOp .neq 22 (.slice none 0 0) (.slice none 0 0)).run Tryz.prog W=.ok (.bool false) W:=fun _=>rfl
    have HK2:Hid (∀ x,(∀ j,j<t->x j<P ^ M)->((K x/\ColD (addF P M) (mulF P M m') t V i x)↔KerB (addF P M) (mulF P M m') t m B x)):=fun x hx=>by
     rw [<-HTRI.out.same HL.out HNEG.out (v:=fun u=>V u i) hvq hx hz,HK.out x hx]
     exact Iff.rfl
    have HM4:=hid (HM1.out.on kb)
    have HT4:=hid (HT1.out.on kb)
    have HG4:=hid (zbb HG1.out kb)
    clear kb hz hvq hs4 HM1 HT1 HG1 HCOL HB
    go_wp2_with fail
    refine (IH.out e m _ _ B p _ w4 (by omega) HM4.out HT4.out HTRI.out HK2.out HCS2.out).mono ?_
    rintro e3 w5 ⟨rfl,hg5,hc5⟩
    have HG5:=hid (zdI HG4.out hg5)
    have HC5:Hid (w5.rowIs cb 3 (N+1) (fun s=>.int .i64 ((cs s+cntE (Triv (P ^ M) t) (ColD (addF P M) (mulF P M m') t V) (r+1) i e K s:Nat):Int))):=hc5.congr fun s _=>by
     have:cntE (Triv (P ^ M) t) (ColD (addF P M) (mulF P M m') t V) (r+1) i e K s=cntE (Triv (P ^ M) t) (ColD (addF P M) (mulF P M m') t V) r (i+1) (e+1) K s+cntE (Triv (P ^ M) t) (ColD (addF P M) (mulF P M m') t V) r (i+1) e (fun c=>K c/\ColD (addF P M) (mulF P M m') t V i c) s:=rfl
     rw [this,<-Nat.add_assoc]
    clear hg5 hc5
    go_wp2
    refine endNone rfl rfl ?_
    exact ⟨rfl,HG5.out,HC5.out⟩
   ·have hq:∀ W,(binOp .neq 22 (.slice (some ⟨go,0,none⟩) t t) (.slice none 0 0)).run Tryz.prog W=.ok (.bool true) W:=fun _=>rfl
    obtain ⟨b,hb⟩:∃ b,b=fun j=>mulF P M m' ii (redN (addF P M) (mulF P M m') (negF P M) B p (fun u=>V u i) m j):=⟨_,rfl⟩
    obtain ⟨hTri2,hK2⟩:=HTRI.out.next HL.out HNEG.out (v:=fun u=>V u i) (b:=b) hvq hf hlow hiq h1 (fun j _=>by rw [hb])
    have HTRI2:=hid hTri2
    have HK2:Hid (∀ x,(∀ j,j<t->x j<P ^ M)->((K x/\ColD (addF P M) (mulF P M m') t V i x)↔KerB (addF P M) (mulF P M m') t (m+1) (fun u=>if u=m then b else B u) x)):=fun x hx=>by
     rw [<-hK2 x hx,HK.out x hx]
     exact Iff.rfl
    have hrbl:=HM1.out.box.lt
    have hw13:=HB.out.size
    have hrow:Own w4 (rb+1) 3 1 (.slice (some ⟨go,0,none⟩) t t) t (fun j _=>.int .i64 (b j:Nat)):=zbv (hgr.congr fun j _=>by rw [hb]) (by omega) (by unfold maxLen; omega)
    have kb2:=(Below.refl w4.heap.size w4).alloc (Nat.le_refl _) (Obj.cells #[Value.slice (some ⟨go,0,none⟩) t t] 22)
    have HO8:=hid ((HT1.out.on kb).tight.on kb2)
    have HX8:=hid (hrow.on kb2)
    have HM8:=hid ((HM1.out.on kb).on kb2)
    have HG8:=hid (zbb (zbb HG1.out kb) (kb2.mono (Nat.le_refl _)))
    have HC8:Hid ((w4.alloc (Obj.cells #[Value.slice (some ⟨go,0,none⟩) t t] 22)).cell? ((⟨w4.heap.size,0,none⟩:Addr).add 0)=some (.slice (some ⟨go,0,none⟩) t t)):=tbox2
    have HZ8:Hid (rb+1<=(w4.alloc (Obj.cells #[Value.slice (some ⟨go,0,none⟩) t t] 22)).heap.size):=HM8.out.box.lt
    have HIL:Hid (m<=1048576):=by show _<=_; omega
    have hform:=HT1.out.form
    have hmbc:m<=bc/\bc<=maxLen:=by
     rcases hform with ⟨e,h0⟩ | ⟨_,_,_,e,h2,h3⟩
     ·injection e with _ _ e3
      exact ⟨by omega,by omega⟩
     ·injection e with _ _ e3
      exact ⟨by omega,by omega⟩
    have hmbc1:(m:Int)<=(bc:Int):=by omega
    have hm0:(0:Int)<=(m:Int):=by omega
    clear kb hvq hs4 HM1 HT1 HG1 HCOL HB hTri2 hK2 hb hgr hrow kb2 hgo hrbl hw13 hlow h1 hform
    go_upto_region 13 with (first | (at_builtin; (refine zcu rfl (.tmp 80) (.tmp 82) rfl HO8.out rfl (ad:=⟨w4.heap.size,0,none⟩) (c:=1) rfl HC8.out rfl HX8.out HZ8.out HIL.out ?_); intro v9 w9 o1 o2))
    have HM9:=hid (HM8.out.on o2)
    have HT9:=hid o1
    have HG9:=hid (zbb HG8.out o2)
    clear o1 o2 HO8 HX8 HM8 HC8 HG8
    go_wp2_with fail
    refine (IH.out e (m+1) v9 _ _ _ _ w9 (by omega) HM9.out HT9.out HTRI2.out HK2.out HCS2.out).mono ?_
    rintro e3 w5 ⟨rfl,hg5,hc5⟩
    have HG5:=hid (zdI HG9.out hg5)
    have HC5:Hid (w5.rowIs cb 3 (N+1) (fun s=>.int .i64 ((cs s+cntE (Triv (P ^ M) t) (ColD (addF P M) (mulF P M m') t V) (r+1) i e K s:Nat):Int))):=hc5.congr fun s _=>by
     have:cntE (Triv (P ^ M) t) (ColD (addF P M) (mulF P M m') t V) (r+1) i e K s=cntE (Triv (P ^ M) t) (ColD (addF P M) (mulF P M m') t V) r (i+1) (e+1) K s+cntE (Triv (P ^ M) t) (ColD (addF P M) (mulF P M m') t V) r (i+1) e (fun c=>K c/\ColD (addF P M) (mulF P M m') t V i c) s:=rfl
     rw [this,<-Nat.add_assoc]
    clear hg5 hc5
    go_wp2
    refine endNone rfl rfl ?_
    exact ⟨rfl,HG5.out,HC5.out⟩
theorem zjM (hok:FieldOk P M m') (hcb:w0.heap.size<=cb) (hrc:cb<rb) (hG:GF w0 w0.heap.size g P M m') (hR:MRows w0 T n N V) (hV:∀ t,t<n->∀ j,j<N->V t j<P ^ M) (hN:N<=64) (hn:n<=N):∀ (r i:Nat),i+r=N->∀ (e m:Nat) (v:Value) (cs:Nat->Nat) (B:Nat->Nat->Nat) (p:Nat->Nat) (K:MsgP) (w:World),e<=i->RecMem w0 w g P M rb cb A k c N T n d cs->MTab w (rb+1) v m n B->Tri (P ^ M) n m B p->(∀ x,(∀ j,j<n->x j<P ^ M)->(K x↔KerB (addF P M) (mulF P M m') n m B x))->(∀ s,cs s+2 ^ r<=1048576) ->
  Calls Tryz.prog 65 #[.pointer (some ⟨rb,0,none⟩),.int .i64 (i:Nat),.int .i64 (e:Nat),v] w (FromPost w cb N (fun s=>cs s+cntE (Triv (P ^ M) n) (ColD (addF P M) (mulF P M m') n V) r i e K s)):=by
 intro r
 induction r with
 | zero =>
  intro i hi e m v cs B p K w he hM hT hTri hK hcs
  obtain rfl:i=N:=by omega
  exact zir hok e m v cs B p K w he hM hT hTri hK hcs
 | succ r ih =>
  intro i hi
  refine zis hok hcb hrc hG hR hV hN hn r i hi fun e m v cs B p K w he hM hT hTri hK hcs=>?_
  have:=ih (i+1) (by omega) e m v cs B p K w he hM hT hTri hK hcs
  rwa [show ((i+1:Nat):Int)=(i:Int)+1 by omega] at this
end
open Go.ChangeShapes Go.WideShapes Go.ChangeAt
noncomputable def recC (P M:Nat) (m:Nat->Nat) (n:Nat) (V:Nat->Nat->Nat) (N s:Nat):Nat:=cntE (Triv (P ^ M) n) (ColD (addF P M) (mulF P M m) n V) N 0 0 (fun _=>True) s
theorem zhD {w:World} {a b c d e f g:Value} {T:TypeId}:(w.alloc (.cells #[a,b,c,d,e,f,g] T)).rowIs w.heap.size T 7 (recCell a b c d e f g) :=
 ⟨#[a,b,c,d,e,f,g],zaG rfl,rfl,fun i hi=>by
  rcases (show i=0∨i=1∨i=2∨i=3∨i=4∨i=5∨i=6 by omega) with rfl | rfl | rfl | rfl | rfl | rfl | rfl <;> rfl⟩
def RecoverPost (P M:Int) (k:Nat) (f:Nat->Int) (N:Int) (n:Nat) (ln:Nat->Nat) (V:Nat->Nat->Int) (w:World) (e:Ending) (w':World):Prop :=
 Below w.heap.size w w'/\((∃ v:Int,v≠0/\FirstErr (CodeErrs P M k f N n ln V) v/\e=.returned (.tuple #[.slice none 0 0,.int .i64 v])) ∨
  (FirstErr (CodeErrs P M k f N n ln V) 0/\16<N/\e=.returned (.tuple #[.slice none 0 0,.int .i64 8])) ∨
  (FirstErr (CodeErrs P M k f N n ln V) 0/\N<=16/\∀ P' M' N':Nat,P=P'->M=M'->N=N'->∃ A c,e=.returned (.tuple #[.slice A (wtP 2 N' (recC P' M' (fun i=>(f i).toNat) n (natT V) N') (N'+1)).1 c,.int .i64 0])/\RatList w' w'.heap.size A (wtP 2 N' (recC P' M' (fun i=>(f i).toNat) n (natT V) N') (N'+1)).1 (wtP 2 N' (recC P' M' (fun i=>(f i).toNat) n (natT V) N') (N'+1)).2))
theorem zgm (P M:Int) (A0:Option Addr) (k0 c0:Nat) (f:Nat->Int) (N:Int) (T:Option Addr) (n d0:Nat) (ln:Nat->Nat) (V:Nat->Nat->Int) (w:World) (hr:IntsR w w.heap.size A0 k0 f) (h:IntRows w T n ln V) :
  Calls Tryz.prog 14 #[.agg #[.int .i64 P,.int .i64 M,.slice A0 k0 c0,.int .i64 N,.slice T n d0]] w (RecoverPost P M k0 f N n ln V w):=by
 have HT:=hid h
 have HR:=hid hr
 clear h hr
 have rf:=zbN (w:=w) (a:=.int .i64 P) (b:=.int .i64 M) (c:=.slice A0 k0 c0) (d:=.int .i64 N) (e:=.slice T n d0) (T := 27)
 have hB:Below w.heap.size w (w.alloc (.cells #[.int .i64 P,.int .i64 M,.slice A0 k0 c0,.int .i64 N,.slice T n d0] 27)):=(Below.refl _ _).alloc (Nat.le_refl _) _
 obtain ⟨w1,hw1⟩:∃ W,W=w.alloc (.cells #[.int .i64 P,.int .i64 M,.slice A0 k0 c0,.int .i64 N,.slice T n d0] 27):=⟨_,rfl⟩
 rw [<-hw1] at hB rf
 go_enter Tryz.func14, Tryz.ntmps14
 go_upto_region 1 with fail
 rw [<-hw1];clear hw1
 have q0:=qc0 rf
 have q1:=qc1 rf
 have q2:=qc2 rf
 have q3:=qc3 rf
 have q4:=qc4 rf
 go_wp2_with fail
 refine (zhw P M A0 k0 c0 f N T n d0 ln V w1 (HR.out.on hB) (HT.out.on hB)).mono ?_
 rintro e w2 ⟨v,rfl,hv,kb⟩
 have HV:=hid hv
 replace rf:=zaa rf kb;replace hB:=onS hB kb;clear kb hv q0 q1 q2 q3 q4
 by_cases hv0:v=0
 case neg =>
  have hvn:(v != 0)=true:=by simpa using hv0
  have HV0:=hid hv0
  clear hv0 rf
  go_wp2
  go_ret2
  exact ⟨hB,.inl ⟨v,HV0.out,HV.out,rfl⟩⟩
 subst hv0
 obtain ⟨P',M',N',rfl,rfl,rfl,hC⟩:=zgJ HR.out HT.out HV.out
 have HC:=hid hC
 have hN64:=hC.ln2
 have hN1:=hC.ln1
 have hnN:=hC.n_le
 have hfld:=hid hC.fld
 clear hC
 have q3:=qc3 rf
 have hexp:=zkA 2 N' 65536 w2 (by omega) (by omega) (by omega) (by omega) (by omega)
 rw [show ((2:Nat):Int)=2 from rfl,show ((65536:Nat):Int)=65536 from rfl] at hexp
 have HEXP:=hid hexp
 clear hexp
 go_wp2_with fail
 refine HEXP.out.mono ?_
 rintro e w3 ⟨hcase,kb⟩
 replace rf:=zaa rf kb;replace hB:=onS hB kb;clear kb q3 HEXP
 rcases hcase with ⟨hle,rfl⟩ | ⟨hgt,rfl⟩
 case inr =>
  have hN16:(16:Int)<(N':Int):=by
   by_cases h16:N'<=16
   ·have:2 ^ N'<=2 ^ 16:=Nat.pow_le_pow_right (by omega) h16
    omega
   ·omega
  clear rf
  go_wp2
  go_ret2
  exact ⟨hB,.inr (.inl ⟨HV.out,hN16,rfl⟩)⟩
 have hN16:N'<=16:=by
  by_cases h16:N'<=16
  ·exact h16
  ·have:2 ^ 17<=2 ^ N':=Nat.pow_le_pow_right (by omega) (by omega)
   omega
 obtain ⟨Z,hZ⟩:∃ Z,Z=2 ^ N':=⟨_,rfl⟩
 rw [<-hZ] at hle ⊢
 have HZ:=hid hZ
 clear hZ
 have q0:=qc0 rf
 have q1:=qc1 rf
 have q2:=qc2 rf
 go_wp2_with fail
 refine (zej (P':Int) (M':Int) A0 k0 c0 f w3 (HR.out.on hB)).mono ?_
 rintro e w4 ⟨kb,hcase⟩
 rcases hcase with ⟨hbad,_⟩ | ⟨_,g,P2,M2,hP2,hM2,rfl,_,hG⟩
 ·refine absurd ?_ hbad
  rcases HV.out with ⟨_,h9⟩ | ⟨h1,_⟩
  ·cases h9
  ·exact h1
 obtain rfl:P'=P2:=by omega
 obtain rfl:M'=M2:=by omega
 have HG:=hid hG.gf
 replace rf:=zaa rf kb;replace hB:=onS hB kb;clear kb q0 q1 q2 hP2 hM2 hG
 have q0:=qc0 rf
 have q1:=qc1 rf
 have q2:=qc2 rf
 have q3:=qc3 rf
 have q4:=qc4 rf
 have hwn:IntKind.i64.wrap ((N':Int)+1)=(N':Int)+1:=IntWalk.i64_in _ (by omega)
 have hmk:=fun W=>zau (P:=Tryz.prog) 22 3 _ 8 Tryz.underlying22 Tryz.infoInt rfl ((N':Int)+1) (by omega) (by omega) (by omega) W
 rw [show ((N':Int)+1).toNat=N'+1 by omega] at hmk
 go_wp2
 refine wp_region_held_drew (S:=fun w'=>w'.cell? ⟨w.heap.size,0,none⟩=some (.int .i64 (P':Nat))/\w'.cell? ⟨w.heap.size,1,none⟩=some (.int .i64 (M':Nat))/\w'.cell? ⟨w.heap.size,2,none⟩=some (.slice A0 k0 c0)/\w'.cell? ⟨w.heap.size,3,none⟩=some (.int .i64 (N':Nat))/\w'.cell? ⟨w.heap.size,4,none⟩=some (.slice T n d0)) (by kernel_rfl) ⟨cellS (Below.refl _ _).drew q0,cellS (Below.refl _ _).drew q1,cellS (Below.refl _ _).drew q2,cellS (Below.refl _ _).drew q3,cellS (Below.refl _ _).drew q4⟩ (fun hHeld=>?_)
 obtain ⟨w5,hw⟩:∃ W,W=World.drew w4:=⟨_,rfl⟩
 have kb:Below w4.heap.size w4 w5:=by rw [hw]; exact (Below.refl _ _).drew
 rw [<-hw] at hHeld ⊢;clear hw q0 q1 q2 q3 q4;replace rf:=zaa rf kb;replace hB:=onS hB kb;replace HG:=hid (HG.out.on kb);clear kb
 refine tkq 0 (h:=tkq 1 (h:=tkq 2 (h:=tkq 3 (h:=tkq 4 (h:=?_)))))
 refine rdq 5 (h:=fun K hK=>?_)
 go_simp
 clear hmk
 obtain ⟨cb,hcb⟩:∃ b,b=w5.heap.size:=⟨_,rfl⟩
 have kb:=(Below.refl w5.heap.size w5).alloc (Nat.le_refl _) (Obj.cells (madeCells #[Value.int .i64 0] (N'+1)) 3)
 have ra:=World.rowIs_made w5 (.int .i64 0) (N'+1) 3
 have hs6:(w5.alloc (Obj.cells (madeCells #[Value.int .i64 0] (N'+1)) 3)).heap.size=w5.heap.size+1:=by simp
 obtain ⟨w6,hw6⟩:∃ W,W=w5.alloc (Obj.cells (madeCells #[Value.int .i64 0] (N'+1)) 3):=⟨_,rfl⟩
 rw [<-hw6] at kb ra hs6 ⊢;rw [<-hcb] at ra hs6 ⊢
 have HKB:=hid kb
 have hrc:w.heap.size<cb:=by rw [hcb]; exact rf.lt
 have hBs:=hB.size
 replace rf:=zaa rf kb
 have hB6:=onS hB kb
 have HCBE:=hid hcb
 have HS6:=hid hs6
 have hcbs:w5.heap.size<=cb:=by omega
 clear hw6 kb hcb hs6
 refine bkq hK ⟨qc0 rf,qc1 rf,qc2 rf,qc3 rf,qc4 rf⟩ (h:=fun hHeld=>?_)
 clear hK K
 refine tkq 6 (h:=?_)
 refine rdq 7 (h:=fun K hK=>?_)
 go_simp
 obtain ⟨rb,hrb⟩:∃ b,b=w6.heap.size:=⟨_,rfl⟩
 have rx:=zhD (w:=w6) (a:=.pointer (some ⟨g,0,none⟩)) (b:=.int .i64 (P':Nat)) (c:=.int .i64 (M':Nat)) (d:=.slice A0 k0 c0) (e:=.int .i64 (N':Nat)) (f:=.slice T n d0) (g:=.slice (some ⟨cb,0,none⟩) (N'+1) (N'+1)) (T := 105)
 have kb:=(Below.refl w6.heap.size w6).alloc (Nat.le_refl _) (Obj.cells #[.pointer (some ⟨g,0,none⟩),.int .i64 (P':Nat),.int .i64 (M':Nat),.slice A0 k0 c0,.int .i64 (N':Nat),.slice T n d0,.slice (some ⟨cb,0,none⟩) (N'+1) (N'+1)] 105)
 obtain ⟨w7,hw7⟩:∃ W,W=w6.alloc (Obj.cells #[.pointer (some ⟨g,0,none⟩),.int .i64 (P':Nat),.int .i64 (M':Nat),.slice A0 k0 c0,.int .i64 (N':Nat),.slice T n d0,.slice (some ⟨cb,0,none⟩) (N'+1) (N'+1)] 105):=⟨_,rfl⟩
 rw [<-hw7] at rx kb ⊢;rw [<-hrb] at rx ⊢
 have hcr:cb<rb:=by have:=HS6.out; omega
 have HMEM:Hid (RecMem w5 w7 g P' M' rb cb A0 k0 c0 N' T n d0 (fun _=>0)):=⟨onS HKB.out kb,rx,(zaa ra kb).congr fun _ _=>rfl⟩
 replace rf:=zaa rf kb
 have HB7:=hid (onS hB6 kb)
 have HM5:=hid (HC.out.rows.on hB)
 clear hw7 kb rx ra hrb hB6 HKB HS6
 refine bkq hK ⟨qc0 rf,qc1 rf,qc2 rf,qc3 rf,qc4 rf⟩ (h:=fun hHeld=>?_)
 clear hK K
 refine tkq 8 (h:=?_)
 refine wpAnyH_done (by kernel_rfl) ?_ _
 clear hHeld
 have hq0:0<P' ^ M':=by have:=(fieldLaws hfld.out).two; omega
 have hfrom:=zjM (P:=P') (M:=M') (g:=g) (rb:=rb) (cb:=cb) (k:=k0) (c:=c0) (N:=N') (n:=n) (d:=d0) (m':=fun i=>(f i).toNat) (A:=A0) (T:=T) (V:=natT V) (w0:=w5) hfld.out hcbs hcr HG.out HM5.out HC.out.lt hN64 hnN N' 0 (by omega) 0 0 (.slice none 0 0) (fun _=>0) (fun _ _=>0) (fun _=>0) (fun _=>True) w7 (Nat.le_refl _) HMEM.out (MTab.nil _ _ _ _) Tri.start (fun x _=>⟨fun _=>KerB.none,fun _=>trivial⟩) (fun s=>by rw [<-HZ.out]; omega)
 rw [show ((0:Nat):Int)=0 from rfl] at hfrom
 have HFROM:=hid hfrom
 clear hfrom hq0
 go_wp2_with fail
 refine HFROM.out.mono ?_
 rintro e w8 ⟨rfl,hg8,hc8⟩
 have HG8:=hid hg8
 have HC8:Hid (w8.rowIs cb 3 (N'+1) (fun s=>.int .i64 ((recC P' M' (fun i=>(f i).toNat) n (natT V) N' s:Nat):Int))):=hc8.congr fun s _=>by
  show Value.int .i64 ((0+cntE _ _ N' 0 0 _ s:Nat):Int)=_
  rw [Nat.zero_add]
  rfl
 have HRX:=hid (zav HMEM.out.box hg8 (by omega))
 have HRF:=hid (zav rf hg8 (by omega))
 have HB8:=hid (HB7.out.grown hg8 HB7.out.size (fun q e=>by injection e with e; omega))
 have HXL:Hid (∀ s,recC P' M' (fun i=>(f i).toNat) n (natT V) N' s<=65536):=fun s=>by
  have:=zhz (Triv (P' ^ M') n) (ColD (addF P' M') (mulF P' M' fun i=>(f i).toNat) n (natT V)) s N' 0 0 (fun _=>True)
  rw [<-HZ.out] at this
  show cntE _ _ N' 0 0 _ s<=_
  omega
 clear hg8 hc8 HFROM HMEM rf HB7 HM5 HG8
 have y6:=qc6 HRX.out
 go_wp2_with fail
 refine (zjI (some ⟨cb,0,none⟩) (N'+1) (N'+1) (recC P' M' (fun i=>(f i).toNat) n (natT V) N') w8 (rowInts HC8.out) (fun i _=>by have:=HXL.out i; omega) (by omega)).mono ?_
 rintro e w9 ⟨T2,c2,rfl,hc2,hc3,htb,kb⟩
 have HTB:=hid htb
 have HRF9:=hid (zaa HRF.out kb)
 have HB9:=hid (onS HB8.out kb)
 clear htb kb y6 HC8 HRX HRF HB8
 obtain ⟨xs,hxs⟩:∃ x,x=recC P' M' (fun i=>(f i).toNat) n (natT V) N':=⟨_,rfl⟩
 rw [<-hxs] at HTB HXL
 have HXS:=hid hxs
 clear hxs
 have hdx:Hid (∀ k,k<=N'->dl (xs k)<=8):=fun k _=>by
  have:=zjH (x:=xs k) (by have:=HXL.out k; omega)
  omega
 have hRS:Hid (∀ k,k<=N'+1->∀ i,rsz (cl2 (wtP 2 N' xs k) i) (1+k*501)):=zkr (by omega) (by omega) hN64 hdx.out
 obtain ⟨L9,hL9⟩:∃ L,L=N'+1:=⟨_,rfl⟩
 rw [<-hL9] at HTB ⊢
 have HL9:=hid hL9
 have hM1:L9<=N'+1:=by omega
 have hM2:N'+1<=L9:=by omega
 clear hL9
 obtain ⟨w10,hw10⟩:∃ W,W=w9:=⟨_,rfl⟩
 rw [<-hw10] at HTB HRF9 HB9 ⊢;clear hw10
 have hcp:∀ (k:Nat) (W:World),k<=N'->Calls Tryz.prog 70 #[.int .i64 2,.int .i64 (N':Nat),.int .i64 (k:Nat)] W (PolyPost (N'+1) (patR 2 N' k) W):=fun k W hk=>zeN 2 N' k W (by omega) (by omega) hN64 hk
 have HCP:=hid hcp
 clear hcp
 go_wp2
 go_loopg [10,48] L9 (fun gg ov iv wx=>∃ k:Nat,∃ A d,iv=.int .i64 (k:Nat)/\k<=L9/\L9<=k+gg/\ov=.slice A (wtP 2 N' xs k).1 d/\(wtP 2 N' xs k).1<=d/\d<=maxLen/\RatList wx wx.heap.size A (wtP 2 N' xs k).1 (wtP 2 N' xs k).2/\Below w10.heap.size w10 wx)
 case atStart=>exact ⟨0,none,0,rfl,by omega,by omega,rfl,Nat.le_refl 0,by unfold maxLen; omega,fun i hi=>absurd hi (Nat.not_lt_zero i),Below.refl _ _⟩
 case round =>
  obtain ⟨k,A,d,rfl,hk,hkg,rfl,hd1,hd2,hl,hB⟩:=hrel
  have hk0:(0:Int)<=(k:Int):=by omega
  have hLk:=ziJ 2 N' xs k
  have ht:=hl.tab (zg9 (hRS.out k (by omega)))
  have hrk:=zg9 (hRS.out k (by omega))
  by_cases hlt:k<L9
  ·have hlt':(k:Int)<(L9:Int):=by omega
   obtain ⟨b,off,A1,l1,d1,rfl,hb,t0,hx0,g1,g2,g3⟩:=HTB.out k hlt
   have t1:=cellS hB t0
   have hx:=hx0.on hB
   by_cases hx0':xs k=0
   ·have hnx:Hid (wtP 2 N' xs (k+1)=wtP 2 N' xs k):=by show (if xs k=0 then _ else _)=_; rw [if_pos hx0']
    rw [hx0'] at hx
    have hnl:nlen 0=0:=zar
    obtain ⟨L,hL⟩:∃ L,L=(wtP 2 N' xs k).1:=⟨_,rfl⟩
    rw [<-hL]
    have HL:=hid hL
    clear ht hrk hL hx0' hx0
    go_wp2_with fail
    refine (zaA A1 l1 d1 0 _ hx g1 g2 (by omega)).mono ?_
    rintro e w1 ⟨rfl,rfl⟩
    rw [hnl];clear hnl t1 t0
    go_wp2
    go_roundg (gk - 1)
    case measure=>omega
    case rel=>exact ⟨k+1,A,d,by go_num,by omega,by omega,by rw [hnx.out,HL.out],by rw [hnx.out]; exact hd1,hd2,by rw [hnx.out]; exact hl,hB⟩
   ·have hxp:0<nlen (xs k):=Nat.pos_of_ne_zero fun e=>hx0' (zaB.1 e)
    have hxp':(0:Int)<((nlen (xs k):Nat):Int):=by omega
    have hpo:Hid (∀ (W:World) (e:Ending) (W':World),PolyPost (clen (sumP (wtP 2 N' xs k).2 (wtP 2 N' xs k).1 (tmP 2 N' (xs k) k).2 (tmP 2 N' (xs k) k).1) (max (wtP 2 N' xs k).1 (tmP 2 N' (xs k) k).1)) (sumP (wtP 2 N' xs k).2 (wtP 2 N' xs k).1 (tmP 2 N' (xs k) k).2 (tmP 2 N' (xs k) k).1) W e W'->PolyPost (wtP 2 N' xs (k+1)).1 (wtP 2 N' xs (k+1)).2 W e W'):=fun _ _ _ h=>by
     have e:wtP 2 N' xs (k+1)=adP (wtP 2 N' xs k) (tmP 2 N' (xs k) k):=by show (if xs k=0 then _ else _)=_; rw [if_neg hx0']
     rw [e]; exact h
    have hmu:Hid (∀ (W:World) (e:Ending) (W':World),PolyPost (clen (mulP (fun _=>((xs k:Nat):Rat)) 1 (patR 2 N' k) (N'+1)) (1+(N'+1))) (mulP (fun _=>((xs k:Nat):Rat)) 1 (patR 2 N' k) (N'+1)) W e W'->PolyPost (tmP 2 N' (xs k) k).1 (tmP 2 N' (xs k) k).2 W e W'):=fun _ _ _ h=>h
    have htm:Hid (∀ i,i<(tmP 2 N' (xs k) k).1->rsz ((tmP 2 N' (xs k) k).2 i) 33000):=fun i _=>(zkp (by omega) (by omega) hN64 (by omega) (hdx.out k (by omega)) i).mono (by omega)
    have htl:(tmP 2 N' (xs k) k).1 <=  N'+2:=by have:=zeM (mulP (fun _=>((xs k:Nat):Rat)) 1 (patR 2 N' k) (N'+1)) (1+(N'+1)); show clen _ _<=_; omega
    have hdx1:=hdx.out k (by omega)
    have hpat:Hid (∀ i,i<N'+1->rsz (patR 2 N' k i) 200):=fun i _=>ziI (by omega) (by omega) hN64 (by omega) i
    have hrk':Hid (∀ i,i<(wtP 2 N' xs k).1->rsz ((wtP 2 N' xs k).2 i) 33000):=fun i hi=>(hrk i hi).mono (by omega)
    have ht':=ht.mono (show 1+k*501<=33000 by omega)
    obtain ⟨L,hL⟩:∃ L,L=(wtP 2 N' xs k).1:=⟨_,rfl⟩
    obtain ⟨S,hS⟩:∃ S,S=(wtP 2 N' xs k).2:=⟨_,rfl⟩
    obtain ⟨tl,hTL⟩:∃ L,L=(tmP 2 N' (xs k) k).1:=⟨_,rfl⟩
    obtain ⟨ts,hTS⟩:∃ S,S=(tmP 2 N' (xs k) k).2:=⟨_,rfl⟩
    rw [<-hL] at hLk hd1;rw [<-hL,<-hS] at ht' hrk' hpo;rw [<-hTL,<-hTS] at hpo hmu htm;rw [<-hTL] at htl;rw [<-hL];clear hl ht hrk hL hS hTL hTS hx0'
    obtain ⟨x,hxe⟩:∃ x,x=xs k:=⟨_,rfl⟩
    rw [<-hxe] at hx hmu hdx1 hxp hxp';clear hxe hx0
    obtain ⟨P,hP⟩:∃ P,P=N'+1:=⟨_,rfl⟩
    have hpp:Hid (∀ (W:World) (e:Ending) (W':World),PolyPost (N'+1) (patR 2 N' k) W e W'->PolyPost P (patR 2 N' k) W e W'):=fun _ _ _ h=>by rw [hP]; exact h
    rw [<-hP] at hmu hpat
    have hP65:P<=65:=by omega
    clear hP
    have hc1:Hid (∀ i,i<1->rsz ((fun _=>(x:Rat)) i:Rat) 200):=fun i _=>ziH (by omega) (by omega)
    go_wp2_with fail
    refine (zaA A1 l1 d1 x _ hx g1 g2 (by omega)).mono ?_
    rintro e w1 ⟨rfl,hw1⟩
    rw [<-hw1];clear hw1 t0
    have hrf:=zaa HRF9.out hB
    have hlt0:=hrf.lt
    have hlt1:w.heap.size<wr.heap.size+1:=by omega
    have q3:=qc3 hrf
    clear hrf
    have o1:=zaQ (w:=wr) 110 (x:=1) (by omega) (by omega)
    have kb:=zab wr (.cells #[.int .u32 1] 110)
    replace hx:=hx.on kb;replace ht':=ht'.on kb;replace hB:=onS hB kb
    have hd1':=zb4
    have hraw:RatRaw _ _ (.agg #[.bool false,.slice A1 l1 d1,.slice (some ⟨wr.heap.size,0,none⟩) 1 1]) (x:Rat) 200:=⟨false,A1,l1,d1,some ⟨wr.heap.size,0,none⟩,1,1,x,1,rfl,hx,by have:=o1.raw; rw [hd1'] at this; exact this,g1,g2,by omega,by unfold maxLen; omega,by omega,by omega,by rw [zke]; rfl⟩
    have tb:=zha 49 (rs:=fun _=>(x:Rat)) rfl hraw
    have esz:(wr.alloc (.cells #[.int .u32 1] 110)).heap.size=wr.heap.size+1:=by simp
    rw [esz] at tb;clear esz
    have kb2:=zab (wr.alloc (.cells #[.int .u32 1] 110)) (.cells #[.bool false,.slice A1 l1 d1,.slice (some ⟨wr.heap.size,0,none⟩) 1 1] 49)
    replace ht':=ht'.on kb2;replace hB:=onS hB kb2;clear kb kb2 o1 hraw hx hd1'
    go_wp2_with fail
    obtain ⟨wz,hwz⟩:∃ W,W=(wr.alloc (.cells #[.int .u32 1] 110)).alloc (.cells #[.bool false,.slice A1 l1 d1,.slice (some ⟨wr.heap.size,0,none⟩) 1 1] 49):=⟨_,rfl⟩
    obtain ⟨gz,hgz⟩:∃ g,g=wr.heap.size+1:=⟨_,rfl⟩
    rw [<-hwz] at tb ht' hB ⊢;rw [<-hgz] at tb ⊢;clear hwz hgz;clear q3 hlt0 hlt1
    refine ((HCP.out k _ (by omega)).mono (fun e W'=>hpp.out _ e W')).mono ?_
    rintro e w2 ⟨Ta,ca,rfl,p1,p2,l3,kb⟩
    replace ht':=ht'.on kb;replace tb:=tb.on kb;replace hB:=onS hB kb
    have t2:=l3.tab hpat.out
    clear kb l3 t1
    go_wp2_with fail
    refine ((zg4 _ Ta 1 1 P ca 200 401 (fun _=>(x:Rat)) (patR 2 N' k) _ tb t2 (by omega) (by omega) (by omega) (by omega) hc1 hpat).mono (fun e W'=>hmu.out _ e W')).mono ?_
    rintro e w3 ⟨Tb,cb,rfl,q1,q2,l4,kb⟩
    replace ht':=ht'.on kb;replace hB:=onS hB kb
    have t3:=l4.tab htm.out
    clear kb tb t2 l4
    go_wp2_with fail
    refine ((zg2 A Tb L d tl cb 33000 S ts _ ht' t3 (by omega) (by omega) (by omega) hrk' htm).mono (fun e W'=>hpo.out _ e W')).mono ?_
    rintro e w4 ⟨Tc,cc,rfl,s1,s2,l5,kb⟩
    replace hB:=onS hB kb
    obtain ⟨L',hL'⟩:∃ L,L=(wtP 2 N' xs (k+1)).1:=⟨_,rfl⟩
    rw [<-hL'] at s1 l5 ⊢
    have HL:=hid hL'
    clear kb t3 ht' hL'
    go_wp2
    go_roundg (gk - 1)
    case measure=>omega
    case rel=>exact ⟨k+1,Tc,cc,by go_num,by omega,by omega,by rw [HL.out],by rw [HL.out] at s1; exact s1,s2,by rw [HL.out] at l5; exact l5,hB⟩
  ·obtain rfl:k=L9:=by omega
   have hlt':¬ (k:Int)<(k:Int):=by omega
   obtain ⟨L,hL⟩:∃ L,L=(wtP 2 N' xs k).1:=⟨_,rfl⟩
   obtain ⟨S,hS⟩:∃ S,S=(wtP 2 N' xs k).2:=⟨_,rfl⟩
   rw [<-hL] at hd1;rw [<-hL,<-hS] at hl;rw [<-hL]
   have HL:=hid hL
   have HS:=hid hS
   have HLL:=hid hl
   have HBB:=hid (onS HB9.out hB)
   clear hL hS ht hrk hlt hl hB
   go_wp2
   go_ret2
   refine ⟨HBB.out,.inr (.inr ⟨HV.out,by omega,fun P2 M2 N2 e1 e2 e3=>?_⟩)⟩
   obtain rfl:P'=P2:=by omega
   obtain rfl:M'=M2:=by omega
   obtain rfl:N'=N2:=by omega
   rw [<-HXS.out,<-HL9.out,<-HL.out,<-HS.out]
   exact ⟨_,_,rfl,HLL.out⟩
theorem zhE {add mul:Nat->Nat->Nat} {V:Nat->Nat->Nat} {c:Nat->Nat} {j:Nat}:∀ n,dotN add mul c (fun t=>V t j) n=spE add mul V c n j
 | 0=>rfl
 | n+1=>by
  show add (dotN add mul c (fun t=>V t j) n) (mul (c n) (V n j))=add (spE add mul V c n j) (mul (c n) (V n j))
  rw [zhE n]
theorem zkC {P M n N:Nat} {m:Nat->Nat} {V:Nat->Nat->Nat} (p:Rat):evR (wtP 2 N (recC P M m n V N) (N+1)).2 p (wtP 2 N (recC P M m n V N) (N+1)).1=valE (Triv (P ^ M) n) (ColD (addF P M) (mulF P M m) n V) p N 0 (fun _=>True):=by
 rw [ziK (by omega) p (N+1) (Nat.le_refl _)]
 have h:=zhB (Triv (P ^ M) n) (ColD (addF P M) (mulF P M m) n V) p N N 0 0 (fun _=>True) (by omega) (Nat.le_refl _)
 have e:sumQ (fun w=>(recC P M m n V N w:Rat)*(powR (mkRat 1 (2 - 1)*p) w*powR (1 - p) (N - w))) (N+1)=sumQ (fun s=>(cntE (Triv (P ^ M) n) (ColD (addF P M) (mulF P M m) n V) N 0 0 (fun _=>True) s:Rat)*(powR p s*powR (1 - p) (N - s))) (N+1):=zbU _ fun s _=>by
  have e1:mkRat 1 (2 - 1)*p=p:=by
   have:mkRat 1 (2 - 1)=1:=by decide +kernel
   rw [this,Rat.one_mul]
  rw [e1]
  rfl
 rw [e,h]
 show 1*1*_=_
 grind
theorem zjN {q n N:Nat} {add mul:Nat->Nat->Nat} {V:Nat->Nat->Nat} (hL:FieldLaws q add mul) (hV:RrefN q n N V):Triv q n (fun c=>True/\∀ j,j<N->ColD add mul n V (0+j) c):=by
 obtain ⟨p,hE⟩:=hV
 intro c hc ⟨_,h⟩ j hj
 have h1:=h (p j) (hE.pvlt j hj)
 unfold ColD at h1
 rw [Nat.zero_add,zhE,hE.spE_pv hL hc hj] at h1
 exact h1
theorem zfV {q n:Nat} (hq:2<=q):Triv q n (fun _=>True)↔n=0:=by
 constructor
 ·intro h
  by_cases e:n=0
  ·exact e
  ·have:=h (fun _=>1) (fun _ _=>by omega) trivial 0 (by omega)
   omega
 ·rintro rfl c _ _ j hj
  omega
theorem zhF {P M n N:Nat} {m:Nat->Nat} {V:Nat->Nat->Nat} (hL:FieldLaws (P ^ M) (addF P M) (mulF P M m)) (hV:RrefN (P ^ M) n N V) {p p':Rat} (h0:0<=p) (h1:p<=p') (h2:p'<=1) (ev:Rat->Rat) (hev:∀ x,ev x=evR (wtP 2 N (recC P M m n V N) (N+1)).2 x (wtP 2 N (recC P M m n V N) (N+1)).1) :
  ev p'<=ev p/\0<=ev p/\ev p<=1/\0<=ev p'/\ev 0=1/\ev 1=if n=0 then 1 else 0:=by
 simp only [hev,zkC]
 have hm:=ziq (P ^ M) n
 have r1:=zct (Triv (P ^ M) n) (ColD (addF P M) (mulF P M m) n V) h0 (Rat.le_trans h1 h2) N 0 (fun _=>True)
 have r2:=zct (Triv (P ^ M) n) (ColD (addF P M) (mulF P M m) n V) (Rat.le_trans h0 h1) h2 N 0 (fun _=>True)
 refine ⟨zer hm _ h0 h1 h2 N 0 _,r1.1,r1.2,r2.1,?_,?_⟩
 ·classical
  rw [zfT]
  exact if_pos (zjN hL hV)
 ·classical
  rw [zhC]
  by_cases e:n=0
  ·rw [if_pos e]; exact if_pos ((zfV hL.two).2 e)
  ·rw [if_neg e]; exact if_neg (fun h=>e ((zfV hL.two).1 h))
end Go.Proofs.YtioagplajkoohaaGreat