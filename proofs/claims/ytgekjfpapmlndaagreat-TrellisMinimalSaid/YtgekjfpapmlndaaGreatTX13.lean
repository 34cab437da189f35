/- Merged texts of a claim: SynPl, PathPl, ZeroV, ZeroR, BoundV, MaxV, Proves, SynMem, RefForward, RefPaths, Cmp11, SameN, RefIs, Check47, RefCP, Syn, TChk, CheckP, IRepeat, VPot, Spans, Edge, HasB, HasC, HasD. -/
import Derived.Test.YtgekjfpapmlndaaGreatTX10
import Derived.Test.YtgekjfpapmlndaaGreatTX12
import Derived.Laws.StructEq
namespace Go.Proofs.YtgekjfpapmlndaaGreat
set_option maxRecDepth 100000
set_option maxHeartbeats 32000000
open KA KB KC KD KE KF
section
variable (add mul:Nat->Nat->Nat) (H:Nat->Nat->Nat) (T:Trel)
def Trel.synv (S:Nat->Nat->Nat) (i j k:Nat):Nat:=add (S (T.fr i j).toNat k) (mul (T.lb i j).toNat (H k i))
def Trel.asg (i j v:Nat):Prop:=∃ e,e<j/\(T.to i e).toNat=v
def Trel.synL (S:Nat->Nat->Nat) (i:Nat):Nat->Nat->Nat->Nat
 | 0,_,_=>0
 | j+1,v,k=>if (T.to i j).toNat=v then T.synv add mul H S i j k else Trel.synL S i j v k
def Trel.syn:Nat->Nat->Nat->Nat
 | 0,_,_=>0
 | i+1,v,k=>T.synL add mul H (Trel.syn i) i (T.el i) v k
def Trel.agree (q a i j:Nat):Prop:=(0<=T.lb i j/\T.lb i j<q)/\(T.asg i j (T.to i j).toNat->∀ k,k<a->T.synL add mul H (T.syn add mul H i) i j (T.to i j).toNat k=T.synv add mul H (T.syn add mul H i) i j k)
def Trel.SynOk (q a:Nat):Prop:=∀ i,i<T.n->∀ j,j<T.el i->T.agree add mul H q a i j
end
section
variable {add mul:Nat->Nat->Nat} {H:Nat->Nat->Nat} {T:Trel} {q a:Nat}
theorem Trel.asg_succ {i j v:Nat}:T.asg i (j+1) v↔T.asg i j v∨(T.to i j).toNat=v:=by
 constructor
 ·rintro ⟨e,h1,h2⟩
  by_cases g:e=j
  ·exact .inr (by rw [<-g]; exact h2)
  ·exact .inl ⟨e,by omega,h2⟩
 rintro (⟨e,h1,h2⟩ | h)
 ·exact ⟨e,by omega,h2⟩
 ·exact ⟨j,by omega,h⟩
theorem Trel.asg_zero {i v:Nat}:¬ T.asg i 0 v:=fun ⟨_,h,_⟩=>absurd h (by omega)
theorem Trel.synL_lt (hL:FieldLaws q add mul) {S:Nat->Nat->Nat} {i:Nat}:∀ j v k,T.synL add mul H S i j v k<q
 | 0,_,_=>by have:=hL.two; show 0<q; omega
 | j+1,v,k=>by
  show (if (T.to i j).toNat=v then T.synv add mul H S i j k else T.synL add mul H S i j v k)<q
  split
  ·exact hL.addLt _ _
  ·exact Trel.synL_lt hL j v k
theorem Trel.syn_lt (hL:FieldLaws q add mul):∀ i v k,T.syn add mul H i v k<q
 | 0,_,_=>by have:=hL.two; show 0<q; omega
 | _+1,_,_=>Trel.synL_lt hL _ _ _
end
theorem Trel.ordP {T:Trel} {i:Nat} (h:T.secOk i):∀ q j,j<q->q<T.el i->T.fr i j<T.fr i q∨T.fr i j=T.fr i q/\T.lb i j<T.lb i q:=by
 intro q
 induction q with
 | zero=>intro j hj; omega
 | succ q ih =>
  intro j hj hq
  have h1:=(h.1 (q+1) hq).2.2 (by omega)
  unfold Trel.after at h1
  rw [Nat.add_sub_cancel] at h1
  by_cases e:j=q
  ·rw [e]; exact h1
  ·have h2:=ih j (by omega) (by omega)
   omega
theorem Trel.edge_uniq {T:Trel} {i:Nat} (h:T.secOk i) {j q:Nat} (hj:j<T.el i) (hq:q<T.el i) (e1:T.fr i j=T.fr i q) (e2:T.lb i j=T.lb i q):j=q:=by
 rcases Nat.lt_trichotomy j q with g | g | g
 ·have:=Trel.ordP h q j g hq; omega
 ·exact g
 ·have:=Trel.ordP h j q g hj; omega
section
variable {add mul:Nat->Nat->Nat} {H:Nat->Nat->Nat} {T:Trel} {q a:Nat}
theorem Trel.syn_edge {i:Nat}:∀ m,(∀ e,e<m->T.agree add mul H q a i e)->∀ e,e<m->∀ k,k<a->T.synL add mul H (T.syn add mul H i) i m (T.to i e).toNat k=T.synv add mul H (T.syn add mul H i) i e k
 | 0,_,_,he,_,_=>absurd he (by omega)
 | m + 1, hok, e, he, k, hk => by
  have ih:=Trel.syn_edge m fun e he=>hok e (by omega)
  show (if (T.to i m).toNat=(T.to i e).toNat then T.synv add mul H (T.syn add mul H i) i m k else T.synL add mul H (T.syn add mul H i) i m (T.to i e).toNat k)=_
  by_cases em:e=m
  ·rw [em,if_pos rfl]
  ·by_cases e1:(T.to i m).toNat=(T.to i e).toNat
   ·rw [if_pos e1]
    have:=(hok m (by omega)).2 ⟨e,by omega,e1.symm⟩ k hk
    rw [<-this,e1]
    exact ih e (by omega) k hk
   ·rw [if_neg e1]
    exact ih e (by omega) k hk
def symW (x:List Int) (t:Nat):Nat:=(x.getD t 0).toNat
theorem zgy {x:List Int} {v:Int} {t:Nat} (h:t<x.length):symW (x ++ [v]) t=symW x t:=by
 unfold symW
 rw [List.getD_eq_getElem?_getD,List.getD_eq_getElem?_getD,List.getElem?_append_left h]
theorem zgz {x:List Int} {v:Int} {t:Nat} (h:t=x.length):symW (x ++ [v]) t=v.toNat:=by
 subst h
 unfold symW
 simp
theorem zbA {x x' y:Nat->Nat}:∀ n,(∀ i,i<n->x i=x' i)->dotN add mul x y n=dotN add mul x' y n
 | 0,_=>rfl
 | n+1,h=>by
  show add (dotN add mul x y n) (mul (x n) (y n))=add (dotN add mul x' y n) (mul (x' n) (y n))
  rw [zbA n fun i hi=>h i (by omega),h n (by omega)]
theorem Trel.lev_syn (hp:T.Proper) (hok:T.SynOk add mul H q a):∀ i,i<=T.n->∀ x,x ∈ T.lev i->(∀ v,v ∈ x.1->0<=v/\v<(q:Int))/\∀ k,k<a->T.syn add mul H i x.2.toNat k=dotN add mul (symW x.1) (H k) i:=by
 intro i
 induction i with
 | zero =>
  intro _ x hx
  simp [Trel.lev] at hx
  subst hx
  exact ⟨fun v hv=>by simp at hv,fun _ _=>rfl⟩
 | succ i ih =>
  intro hi x hx
  simp only [Trel.lev,List.mem_flatMap] at hx
  obtain ⟨y,hy,hx⟩:=hx
  unfold Trel.ext at hx
  rw [List.mem_map] at hx
  obtain ⟨j,hj,rfl⟩:=hx
  obtain ⟨hj,hf⟩:=Trel.outs_mem.1 hj
  have h1:=ih (by omega) y hy
  have h2:=Trel.lev_in hp i (by omega) y hy
  refine ⟨fun v hv=>?_,fun k hk=>?_⟩
  ·rcases List.mem_append.1 hv with g | g
   ·exact h1.1 v g
   ·rw [List.mem_singleton.1 g]
    exact (hok i (by omega) j hj).1
  ·show T.synL add mul H (T.syn add mul H i) i (T.el i) (T.to i j).toNat k=add (dotN add mul (symW (y.1 ++ [T.lb i j])) (H k) i) (mul (symW (y.1 ++ [T.lb i j]) i) (H k i))
   rw [Trel.syn_edge (T.el i) (fun e he=>hok i (by omega) e he) j hj k hk,zgz h2.1.symm,zbA (x':=symW y.1) i fun t ht=>zgy (by rw [h2.1]; exact ht),<-h1.2 k hk,<-hf]
   rfl
theorem Trel.lev_uniq (hp:T.Proper):∀ i,i<=T.n->(T.lev i).Nodup/\∀ x,x ∈ T.lev i->∀ y,y ∈ T.lev i->x.1=y.1->x=y:=by
 intro i
 induction i with
 | zero =>
  intro _
  refine ⟨by simp [Trel.lev],fun x hx y hy _=>?_⟩
  simp [Trel.lev] at hx hy
  rw [hx,hy]
 | succ i ih =>
  intro hi
  obtain ⟨h1,h2⟩:=ih (by omega)
  have hs:=hp.sec i (by omega)
  have a:∀ x,x ∈ T.lev i->∀ y,y ∈ T.lev i->∀ j,j ∈ T.outs i x.2 (T.el i)->∀ l,l ∈ T.outs i y.2 (T.el i)->x.1 ++ [T.lb i j]=y.1 ++ [T.lb i l]->x=y/\j=l:=fun x hx y hy j hj l hl e=>by
   obtain ⟨e1,e2⟩:=List.append_inj e (by rw [(Trel.lev_in hp i (by omega) x hx).1,(Trel.lev_in hp i (by omega) y hy).1])
   have exy:=h2 x hx y hy e1
   subst exy
   obtain ⟨j1,j2⟩:=Trel.outs_mem.1 hj
   obtain ⟨l1,l2⟩:=Trel.outs_mem.1 hl
   exact ⟨rfl,Trel.edge_uniq hs j1 l1 (j2.trans l2.symm) (by injection e2)⟩
  refine ⟨?_,fun x hx y hy e=>?_⟩
  ·show ((T.lev i).flatMap (T.ext i (T.el i))).Nodup
   rw [List.Nodup,List.pairwise_flatMap]
   refine ⟨fun x hx=>?_,?_⟩
   ·have hn:(T.outs i x.2 (T.el i)).Nodup:=List.Pairwise.filter _ List.nodup_range
    exact zaS hn fun j hj l hl e=>(a x hx x hx j hj l hl (congrArg Prod.fst e)).2
   ·refine List.Pairwise.imp_of_mem ?_ h1
    intro x y hx hy hne u hu v hv e
    unfold Trel.ext at hu hv
    obtain ⟨j,hj,rfl⟩:=List.mem_map.1 hu
    obtain ⟨l,hl,rfl⟩:=List.mem_map.1 hv
    exact hne (a x hx y hy j hj l hl (congrArg Prod.fst e)).1
  ·simp only [Trel.lev,List.mem_flatMap] at hx hy
   obtain ⟨x1,c,hx⟩:=hx
   obtain ⟨y1,b,hy⟩:=hy
   unfold Trel.ext at hx hy
   obtain ⟨j,hj,rfl⟩:=List.mem_map.1 hx
   obtain ⟨l,hl,rfl⟩:=List.mem_map.1 hy
   obtain ⟨g1,g2⟩:=a x1 c y1 b j hj l hl e
   rw [g1,g2]
end
section
variable {add mul:Nat->Nat->Nat} {neg:Nat->Nat} {H V:Nat->Nat->Nat} {T:Trel} {q a n:Nat}
theorem ziR {N:Nat} {u:Nat->Nat} (hu:InSp q add mul n N V u) {l:List Int} (hl:l.length=N) (hlu:∀ j,j<N->l.getD j 0=(u j:Int)) :
  l ∈ (List.range (q ^ n)).map fun i=>(List.range N).map fun j=>((spE add mul V (msgD q n i) n j:Nat):Int):=by
 obtain ⟨c,hc,hx⟩:=hu
 obtain ⟨i,hi,hd⟩:=zlr hc
 refine List.mem_map.2 ⟨i,List.mem_range.2 hi,?_⟩
 refine List.ext_getElem (by simp [hl]) fun j h1 h2=>?_
 have hj:j<N:=by omega
 have h3:=hlu j hj
 rw [List.getD_eq_getElem?_getD,List.getElem?_eq_getElem h2,Option.getD_some] at h3;rw [h3,hx j hj]
 simp only [List.getElem_map,List.getElem_range]
 congr 1
 exact zbW n fun s hs=>⟨hd s hs,rfl⟩
end
open Go.RowKit Go.ChangeShapes Go.WideShapes Go.ChangeAt
theorem Tryz.infoTabs:(Tryz.prog.info? 25).map (fun i=>(i.zero,i.size,i.bytes))=some (some (.slice none 0 0),1,24):=by kernel_rfl
structure LTab (w:World) (base g m a:Nat) (P:Nat->Prop) (R:Nat->Value) (S:Nat->Nat->Nat):Prop where
 ge:base<=g
 row:w.rowIs g 22 m R
 yes:∀ u,u<m->P u->Own w base 3 1 (R u) a (fun k _=>.int .i64 (S u k:Nat))
 no:∀ u,u<m->¬ P u->R u=.slice none 0 0
section
variable {w w':World} {base g m a:Nat} {P:Nat->Prop} {R:Nat->Value} {S:Nat->Nat->Nat}
theorem LTab.on (h:LTab w base g m a P R S) (hb:Below w.heap.size w w'):LTab w' base g m a P R S:=⟨h.ge,zab h.row hb,fun u hu hp=>(h.yes u hu hp).on hb,h.no⟩
theorem LTab.congr {P':Nat->Prop} {S':Nat->Nat->Nat} (h:LTab w base g m a P R S) (e1:∀ u,u<m->(P u↔P' u)) (e2:∀ u,u<m->P u->∀ k,k<a->S u k=S' u k):LTab w base g m a P' R S' :=
 ⟨h.ge,h.row,fun u hu hp=>(h.yes u hu ((e1 u hu).2 hp)).congr fun k hk _ _=>by rw [e2 u hu ((e1 u hu).2 hp) k hk],fun u hu hp=>h.no u hu fun g=>hp ((e1 u hu).1 g)⟩
theorem LTab.set (h:LTab w base g m a P R S) {u:Nat} {v:Value} {s:Nat->Nat} (hv:Own w base 3 1 v a (fun k _=>.int .i64 (s k:Nat))) :
  LTab (w.setCell ⟨g,u,none⟩ v) base g m a (fun x=>P x∨x=u) (fun x=>if x=u then v else R x) (fun x k=>if x=u then s k else S x k):=by
 have far:∀ {y:Value} {F:Nat->Nat->Value},Own w base 3 1 y a F->Own (w.setCell ⟨g,u,none⟩ v) base 3 1 y a F:=fun hy=>hy.setCell (a:=⟨g,u,none⟩) (fun e=>(za9 h.row hy (by decide)).elim (fun h=>by rw [h] at e; cases e) fun h=>h e) _
 refine ⟨h.ge,(h.row.set u v).congr fun x _=>rfl,fun x hx hp=>?_,fun x hx hp=>?_⟩
 ·by_cases e:x=u
  ·simp only [if_pos e]
   exact far hv
  ·simp only [if_neg e]
   exact far (h.yes x hx (hp.resolve_right e))
 have e:x≠u:=fun e=>hp (.inr e)
 show (if x=u then v else R x)=_
 rw [if_neg e]
 exact h.no x hx fun g=>hp (.inl g)
theorem LTab.kept {b:Nat} (h:LTab w base g m a P R S) (hg:w.grownBy w' (some b)) (h1:b≠g) (h2:∀ u,u<m->P u->(R u).ownBlock≠some b):LTab w' base g m a P R S :=
 ⟨h.ge,h.row.of_block (hg.block _ h.row.lt fun e=>h1 (Option.some.inj e).symm),fun u hu hp=>(h.yes u hu hp).kept hg (.inr (h2 u hu hp)),h.no⟩
theorem LTab.made {m:Nat} (w:World) (a:Nat) (S:Nat->Nat->Nat):LTab (w.alloc (.cells (madeCells #[.slice none 0 0] m) 22)) w.heap.size w.heap.size m a (fun _=>False) (fun _=>.slice none 0 0) S :=
 ⟨Nat.le_refl _,World.rowIs_made w (.slice none 0 0) m 22, fun _ _ h=>h.elim,fun _ _ _=>rfl⟩
end
def EqRow (n m:Nat) (f g:Nat->Int):Prop:=n=m/\∀ i,i<n->f i=g i
theorem zeO (A B:Option Addr) (n m c d:Nat) (f g:Nat->Int) (w:World) (ha:IntsR w w.heap.size A n f) (hb:IntsR w w.heap.size B m g) (hn:n<=140737488351232) (hm:m<=140737488351232) :
  Calls Tryz.prog 20 #[.slice A n c,.slice B m d] w fun e w'=>∃ r:Int,e=.returned (.int .i64 r)/\(r=0↔EqRow n m f g)/\Below w.heap.size w w':=by
 have HA:=hid ha
 have HB:=hid hb
 clear ha hb
 go_enter Tryz.func20, Tryz.ntmps20
 go_wp2
 go_loopg [5] n (fun gg iv wx=>∃ k:Nat,iv=.int .i64 (k:Nat)/\k<=n/\k<=m/\n<=k+gg/\(∀ i,i<k->f i=g i)/\Below w.heap.size w wx)
 case atStart=>exact ⟨0,rfl,by omega,by omega,by omega,fun i hi=>absurd hi (by omega),Below.refl _ _⟩
 obtain ⟨k,rfl,hk,q,s,j,hW⟩:=hrel
 have t:(0:Int)<=(k:Int):=by omega
 have l:=hid j
 clear j
 by_cases hlt:k<n
 rotate_left
 ·have a:¬ (k:Int)<(n:Int):=by omega
  have hd:decide ((k:Int)<(n:Int))=false:=by simp; omega
  by_cases h3:(n:Int)<(m:Int)
  ·go_wp2
   go_ret
   exact ⟨-1,rfl,⟨fun h=>absurd h (by omega),fun h=>absurd h.1 (by omega)⟩,hW⟩
  have h4:¬ (n:Int) > (m:Int):=by omega
  go_wp2
  go_ret
  exact ⟨0,rfl,⟨fun _=>⟨by omega,fun i hi=>l.out i (by omega)⟩,fun _=>rfl⟩,hW⟩
 have a:(k:Int)<(n:Int):=by omega
 by_cases hlm:k<m
 rotate_left
 ·have b:¬ (k:Int)<(m:Int):=by omega
  have hd:decide ((k:Int)<(n:Int))=true:=by simp; omega
  have o:decide ((k:Int)<(m:Int))=false:=by simp; omega
  have h3:¬ (n:Int)<(m:Int):=by omega
  have h4:(n:Int) > (m:Int):=by omega
  go_wp2
  go_ret
  exact ⟨1,rfl,⟨fun h=>absurd h (by omega),fun h=>absurd h.1 (by omega)⟩,hW⟩
 have b:(k:Int)<(m:Int):=by omega
 have hd:decide ((k:Int)<(n:Int))=true:=by simp; omega
 have o:decide ((k:Int)<(m:Int))=true:=by simp; omega
 obtain ⟨ab,ao,rfl,v,x0⟩:=(HA.out.on hW).at hlt
 obtain ⟨bb,bo,rfl,u,y0⟩:=(HB.out.on hW).at hlm
 obtain ⟨x,hx⟩:=exx (f k)
 obtain ⟨y,hy⟩:=exx (g k)
 rw [<-hx] at x0;rw [<-hy] at y0
 have HX:=hid hx
 have HY:=hid hy
 clear hx hy
 by_cases h1:x<y
 ·go_wp2
  go_quiet (fail)
  go_wp2
  go_ret
  exact ⟨-1,rfl,⟨fun h=>absurd h (by omega),fun h=>absurd (h.2 k hlt) (by rw [<-HX.out,<-HY.out]; omega)⟩,zac hW _⟩
 by_cases h2:y<x
 ·have p:x > y:=h2
  go_wp2
  go_quiet (fail)
  go_wp2
  go_quiet (fail)
  go_wp2
  go_ret
  exact ⟨1,rfl,⟨fun h=>absurd h (by omega),fun h=>absurd (h.2 k hlt) (by rw [<-HX.out,<-HY.out]; omega)⟩,zac (zac hW _) _⟩
 have p:¬ x > y:=h2
 go_wp2
 go_quiet (fail)
 go_wp2
 go_quiet (fail)
 go_wp2
 go_roundg (gk - 1)
 case measure=>omega
 refine ⟨k+1,by go_num,by omega,by omega,by omega,fun i hi=>?_,zac hW _⟩
 by_cases e:i=k
 ·subst e; rw [<-HX.out,<-HY.out]; omega
 ·exact l.out i (by omega)
def IsTr (q a:Nat) (add mul:Nat->Nat->Nat) (H:Nat->Nat->Nat) (T:Trel) (n:Nat):Prop :=
 T.SynOk add mul H q a/\(∀ k,k<a->T.syn add mul H T.n 0 k=0)/\T.fwd (fun _ _=>1) T.n 0=q ^ n
def TChk (P M:Int) (k:Nat) (f:Nat->Int) (N:Int) (n:Nat) (ln:Nat->Nat) (V:Nat->Nat->Int) (T:Trel) (v:Int):Prop :=
 (v≠0/\FirstErr (CodeErrs P M k f N n ln V) v) ∨
 (FirstErr (CodeErrs P M k f N n ln V) 0/\((T.properE≠0/\v=T.properE)∨(T.properE=0/\∃ P' M' N':Nat,P=P'/\M=M'/\N=N'/\((T.n≠N'/\v=13) ∨
  (T.n=N'/\∃ a H,NullRel (P' ^ M') (addF P' M') (mulF P' M' fun i=>(f i).toNat) (negF P' M') n N' (natT V) a H/\(v=0∨v=13)/\(v=0↔IsTr (P' ^ M') a (addF P' M') (mulF P' M' fun i=>(f i).toNat) H T n))))))
theorem rowIs_setCells_other' {b b':Nat} {t:TypeId} {n:Nat} {f:Nat->Value} {w:World} (hne:b'≠b) (v:Value) (o:Nat) (h:w.rowIs b' t n f):(w.setCell ⟨b,o,none⟩ v).rowIs b' t n f:=h.of_block ((zbd w b o v).block _ h.lt fun e=>hne (Option.some.inj e))
def TSynP (P M:Nat) (m:Nat->Nat) (T:Trel) (H:Nat->Nat->Nat) (q a:Nat) (w:World) (e:Ending) (w':World):Prop :=
 Below w.heap.size w w'/\((T.SynOk (addF P M) (mulF P M m) H q a/\∃ (go g:Nat) (R:Nat->Value),e=.returned (.tuple #[.slice (some ⟨go,0,none⟩) T.nw T.nw,.bool true])/\w'.cell? ⟨go,T.n,none⟩=some (.slice (some ⟨g,0,none⟩) (T.W T.n).toNat (T.W T.n).toNat)/\LTab w' w.heap.size g (T.W T.n).toNat a (fun _=>True) R (T.syn (addF P M) (mulF P M m) H T.n)) ∨
  (¬ T.SynOk (addF P M) (mulF P M m) H q a/\e=.returned (.tuple #[.slice none 0 0,.bool false])))
theorem zeP {P M gp:Nat} {m:Nat->Nat} (T:Trel) (A B HA:Option Addr) (c d hc a q:Nat) (H:Nat->Nat->Nat) (w:World) (HQ:Hid (q=P ^ M)) (hG:GF w w.heap.size gp P M m) (hT:T.Reads w A B) (hp:T.Proper) (hH:MRows w HA a T.n H) (hHq:∀ k,k<a->∀ i,i<T.n->H k i<q) (ha:a<=64) :
  Calls Tryz.prog 80 #[.pointer (some ⟨gp,0,none⟩),.slice HA a hc,.agg #[.slice A T.nw c,.slice B T.n d]] w (TSynP P M m T H q a w):=by
 have HG:=hid hG
 have HR:=hid hT
 have HP:=hid hp
 have du:=hid hp.shape
 have HH:=hid hH
 have fe:=hid hHq
 have ea:=hp.shape.n64
 have I:=hid hp.shape.nw
 have d8:T.nw<=65:=by have:=I.out; omega
 have bx:0<T.nw:=by have:=I.out; omega
 have HL:Hid (FieldLaws q (addF P M) (mulF P M m)):=by rw [HQ.out]; exact hid (fieldLaws hG.ok)
 have HW:Hid (∀ i,i<=T.n->1<=T.W i/\T.W i<=65536):=hid fun i hi=>hp.shape.wid hi
 clear hG hT hp hH hHq
 have bm:∀ (z:Nat),z<=65536->∀ W,_:=fun z hz W=>zag (P:=Tryz.prog) 22 3 _ 8 Tryz.underlying22 Tryz.infoInt rfl (z:Int) (by omega) (by omega) (by omega) W
 have bl:∀ (z:Nat),z<=65536->∀ W,_:=fun z hz W=>zag (P:=Tryz.prog) 25 22 _ 24 Tryz.underlying25 Tryz.infoInts rfl (z:Int) (by omega) (by omega) (by omega) W
 have bk:∀ (z:Nat),z<=65536->∀ W,_:=fun z hz W=>zag (P:=Tryz.prog) 119 25 _ 24 Tryz.underlying119 Tryz.infoTabs rfl (z:Int) (by omega) (by omega) (by omega) W
 simp only [Int.toNat_natCast] at bm bl bk
 have bm:=hid bm
 have bl:=hid bl
 have bk:=hid bk
 have rb:=zai (w:=w) (a:=.slice A T.nw c) (b:=.slice B T.n d) (T := 53)
 have hB:=aly w (.cells #[.slice A T.nw c,.slice B T.n d] 53)
 obtain ⟨w1,bs⟩:=exx (w.alloc (.cells #[.slice A T.nw c,.slice B T.n d] 53))
 rw [<-bs] at hB rb
 go_enter Tryz.func80, Tryz.ntmps80
 go_upto_region 1 with fail
 rw [<-bs];clear bs
 obtain ⟨b5,bc⟩:=exx w.heap.size
 have es:w.heap.size<=b5:=Nat.le_of_eq bc.symm
 rw [<-bc] at rb;rw [<-bc];clear bc
 have p0:=qc0 rb
 have an:=bk.out T.nw (by omega)
 go_upto_region 2 with fail
 have rz:World.rowIs (World.alloc w1 (Obj.cells (madeCells #[Value.slice none 0 0] T.nw) 25)) w1.heap.size 25 T.nw (fun _=>.slice none 0 0):=World.rowIs_made _ (.slice none 0 0) T.nw 25
 have kb:=aly w1 (Obj.cells (madeCells #[Value.slice none 0 0] T.nw) 25)
 obtain ⟨w2,bp⟩:=exx (World.alloc w1 (Obj.cells (madeCells #[Value.slice none 0 0] T.nw) 25))
 rw [<-bp] at rz kb ⊢
 obtain ⟨go,a9⟩:=exx w1.heap.size
 have aq:w1.heap.size<=go:=Nat.le_of_eq a9.symm
 have cd:go<w2.heap.size:=by rw [bp,a9]; simp
 rw [<-a9] at rz ⊢;clear bp a9 an p0
 have an:=bm.out a (by omega)
 have o0:w2.cell? ⟨go,0,none⟩=some (.slice none 0 0):=rz.cell bx
 have o1:=rz.frozen 0
 have d9:(0:Int)<(T.nw:Int):=by omega
 go_upto_region 3 with fail
 have O:(w2.setCell ⟨go,0,none⟩ (.slice (some ⟨w2.heap.size+1,0,none⟩) 1 1)).rowIs go 25 T.nw (fun u=>if u=0 then .slice (some ⟨w2.heap.size+1,0,none⟩) 1 1 else .slice none 0 0):=rz.set 0 _
 have b7:=kb.setCell (p:=⟨go,0,none⟩) aq (.slice (some ⟨w2.heap.size+1,0,none⟩) 1 1)
 have aj:(w2.setCell ⟨go,0,none⟩ (.slice (some ⟨w2.heap.size+1,0,none⟩) 1 1)).heap.size=w2.heap.size:=by simp
 obtain ⟨w3,d4⟩:=exx (w2.setCell ⟨go,0,none⟩ (.slice (some ⟨w2.heap.size+1,0,none⟩) 1 1))
 rw [<-d4] at O b7 aj ⊢
 obtain ⟨gz,dg⟩:=exx w2.heap.size
 rw [<-dg] at O aj ⊢;clear d4 rz kb o0 o1 an
 have rz4:World.rowIs (World.alloc w3 (Obj.cells (madeCells #[Value.int .i64 0] a) 3)) w3.heap.size 3 a (fun _=>.int .i64 ((0:Nat):Int)):=World.rowIs_made _ (.int .i64 0) a 3
 have b6:=aly w3 (Obj.cells (madeCells #[Value.int .i64 0] a) 3)
 have bv:(World.alloc w3 (Obj.cells (madeCells #[Value.int .i64 0] a) 3)).heap.size=w3.heap.size+1:=by simp
 obtain ⟨w4,d3⟩:=exx (World.alloc w3 (Obj.cells (madeCells #[Value.int .i64 0] a) 3))
 rw [<-d3] at rz4 b6 bv ⊢
 have rb5:(w4.alloc (.cells #[.slice (some ⟨gz,0,none⟩) a a] 22)).rowIs w4.heap.size 22 1 (fun _=>.slice (some ⟨gz,0,none⟩) a a):=⟨_,zaw rfl,rfl,fun i hi=>by
  obtain rfl:i=0:=by omega
  rfl⟩
 have ah:=aly w4 (.cells #[.slice (some ⟨gz,0,none⟩) a a] 22)
 obtain ⟨w5,d2⟩:=exx (w4.alloc (.cells #[.slice (some ⟨gz,0,none⟩) a a] 22))
 rw [<-d2] at rb5 ah ⊢;rw [bv,aj] at rb5;rw [aj] at rz4
 have cy:w.heap.size<=gz:=by have:=hB.size; have:=b7.size; omega
 have dq:LTab w5 w.heap.size (gz+1) 1 a (fun _=>True) (fun _=>.slice (some ⟨gz,0,none⟩) a a) (T.syn (addF P M) (mulF P M m) H 0) :=
  ⟨by omega,rb5,fun u _ _=>(zaR (zab rz4 ah) cy (by unfold maxLen; omega)).congr fun k _ _ _=>rfl,fun u _ h=>absurd trivial h⟩
 have Z:=zab (zab O b6) ah
 have HB:=hid hB
 have ar:∀ X,Below w1.heap.size w1 X->X.rowIs b5 53 2 (matCell (.slice A T.nw c) (.slice B T.n d)):=fun X hb=>zab rb hb
 have e6:=hid ar
 have dz:=hid (onS (onS b7 b6) ah)
 clear aj bv d3 d2 rb5 rz4 b7 b6 ah O rb ar cy dg cd
 have p1:w5.cell? ⟨b5,1,none⟩=some (.slice B T.n d):=(e6.out _ dz.out).cell (i:=1) (by omega)
 go_upto_region 4 with fail
 go_loopg [30] T.n (fun gg iv wx=>∃ (i g:Nat) (R F:Nat->Value),iv=.int .i64 (i:Nat)/\i<=T.n/\T.n<=i+gg/\Hid (∀ i',i'<i->∀ j,j<T.el i'->T.agree (addF P M) (mulF P M m) H q a i' j)/\wx.rowIs go 25 T.nw F/\F i=.slice (some ⟨g,0,none⟩) (T.W i).toNat (T.W i).toNat/\LTab wx w.heap.size g (T.W i).toNat a (fun _=>True) R (T.syn (addF P M) (mulF P M m) H i)/\Below w1.heap.size w1 wx)
 case atStart =>
  have d5:(T.W 0).toNat=1:=by rw [HP.out.w0]; rfl
  refine ⟨0,gz+1,fun _=>.slice (some ⟨gz,0,none⟩) a a,fun u=>if u=0 then .slice (some ⟨gz+1,0,none⟩) 1 1 else .slice none 0 0,rfl,by omega,by omega,hid fun i' h=>absurd h (by omega),Z,?_,?_,dz.out⟩
  ·show (if 0=0 then Value.slice (some ⟨gz+1,0,none⟩) 1 1 else .slice none 0 0)=_
   rw [if_pos rfl,d5]
  ·rw [d5]; exact dq
 clear Z dq p1
 obtain ⟨i,g,R,F,rfl,hi,fp,dx,Z,hF,b0,hB⟩:=hrel
 have fq:(0:Int)<=(i:Int):=by omega
 have r:=hid Z
 have HF:=hid hF
 have C:=hid b0
 have o:=hid hB
 obtain ⟨w6,e8⟩:=exx wr
 subst e8
 clear Z hF b0 hB
 by_cases hin:i<T.n
 rotate_left
 ·have ca:¬ (i:Int)<(T.n:Int):=by omega
  have eh:i=T.n:=by omega
  have ez:=onS HB.out o.out
  have e9:T.SynOk (addF P M) (mulF P M m) H q a:=fun i' h'=>dx.out i' (by omega)
  have a2:=r.out.cell (i:=i) (by have:=I.out; omega)
  rw [HF.out] at a2
  have HC:=hid a2
  clear a2
  go_wp2
  go_ret2
  rw [eh] at HC C
  exact ⟨ez,.inl ⟨e9,go,g,R,rfl,HC.out,C.out⟩⟩
 have ca:(i:Int)<(T.n:Int):=by omega
 obtain ⟨eb,eo,E,ec,ey,fs,e0w,er,ch,ds,ck⟩:=HR.out.sec hin
 have e5:=hid ds
 have e0:=cellS (onS HB.out o.out) e0w
 subst ey
 obtain ⟨el,ba⟩:=exx (T.el i)
 have eq:el<=262144:=by rw [ba]; exact du.out.elb hin
 rw [<-ba] at e0 e0w e5
 have af:=hid ba
 clear ba ds ck er ch e0w
 have p0:w6.cell? ⟨b5,0,none⟩=some (.slice A T.nw c):=(e6.out _ o.out).cell (i:=0) (by omega)
 have et:=HW.out (i+1) (by omega)
 obtain ⟨mm,da⟩:∃ x:Nat,x=(T.W (i+1)).toNat:=⟨_,rfl⟩
 have ci:T.W (i+1)=(mm:Int):=by omega
 have bz:mm<=65536:=by omega
 obtain ⟨ab,ao,f2,_,a0,_⟩:=(HR.out.on (onS HB.out o.out)).width (i:=i+1) (by have:=I.out; omega)
 subst f2
 rw [ci] at a0
 have cq:=hid da
 have f3:=hid ci
 clear da ci et
 have ei:IntKind.i64.wrap ((i:Int)+1)=((i+1:Nat):Int):=by rw [IntWalk.i64_in _ (by omega)]; rfl
 have an:=bl.out mm bz
 have c8:((i+1:Nat):Int)<(T.nw:Int):=by have:=I.out; omega
 have ap:i+1<T.nw:=by have:=I.out; omega
 have dd:(i:Int)+1<(T.nw:Int):=by omega
 have ek:(0:Int)<=((i+1:Nat):Int):=by omega
 have c0:=r.out.cell ap
 have c1:=r.out.frozen (i+1)
 have cc:=r.out.lt
 go_upto_region 8 with fail
 have am:go≠g:=fun e=>(za9 r.out (zaR C.out.row (Nat.zero_le _) (by have:=HW.out i (by omega); unfold maxLen; omega)) (by decide)).elim (fun h=>by cases h) (fun h=>h (by rw [e]; rfl))
 have N:LTab (w6.setCell ⟨go,i+1,none⟩ (.slice (some ⟨w6.heap.size,0,none⟩) mm mm)) w.heap.size g (T.W i).toNat a (fun _=>True) R (T.syn (addF P M) (mulF P M m) H i):=C.out.kept (zbd w6 go (i+1) _) am fun u hu hp e=>(za9 r.out (C.out.yes u hu hp) (by decide)).elim (fun h=>by rw [h] at e; cases e) (fun h=>h e)
 have a4:(w6.setCell ⟨go,i+1,none⟩ (.slice (some ⟨w6.heap.size,0,none⟩) mm mm)).rowIs go 25 T.nw (fun u=>if u=i+1 then .slice (some ⟨w6.heap.size,0,none⟩) mm mm else F u):=r.out.set (i+1) _
 have c3:=o.out.setCell (p:=⟨go,i+1,none⟩) aq (.slice (some ⟨w6.heap.size,0,none⟩) mm mm)
 have b9:(w6.setCell ⟨go,i+1,none⟩ (.slice (some ⟨w6.heap.size,0,none⟩) mm mm)).heap.size=w6.heap.size:=by simp
 obtain ⟨w7,d1⟩:=exx (w6.setCell ⟨go,i+1,none⟩ (.slice (some ⟨w6.heap.size,0,none⟩) mm mm))
 rw [<-d1] at N a4 c3 b9 ⊢
 obtain ⟨g2,dh⟩:=exx w6.heap.size
 have cf:w.heap.size<=g2:=by have:=HB.out.size; have:=o.out.size; omega
 rw [<-dh] at a4 b9 ⊢
 have Q:=LTab.made (m:=mm) w7 a (T.synL (addF P M) (mulF P M m) H (T.syn (addF P M) (mulF P M m) H i) i 0)
 have ag:=aly w7 (.cells (madeCells #[.slice none 0 0] mm) 22)
 obtain ⟨w8,d0⟩:=exx (w7.alloc (.cells (madeCells #[.slice none 0 0] mm) 22))
 rw [<-d0] at Q ag ⊢;rw [b9] at Q
 have ay:LTab w8 w.heap.size g2 mm a (T.asg i 0) (fun _=>.slice none 0 0) (T.synL (addF P M) (mulF P M m) H (T.syn (addF P M) (mulF P M m) H i) i 0):=⟨cf,Q.row,fun u _ h=>absurd h Trel.asg_zero,fun _ _ _=>rfl⟩
 have aa:=N.on ag
 have a8:=zab a4 ag
 have db:=onS c3 ag
 obtain ⟨F2,bi⟩:∃ F2:Nat->Value,F2=fun u=>if u=i+1 then .slice (some ⟨g2,0,none⟩) mm mm else F u:=⟨_,rfl⟩
 have dr:Hid (F2 i=.slice (some ⟨g,0,none⟩) (T.W i).toNat (T.W i).toNat):=hid (by rw [bi]; show (if i=i+1 then _ else F i)=_; rw [if_neg (by omega)]; exact HF.out)
 have bh:Hid (F2 (i+1)=.slice (some ⟨g2,0,none⟩) mm mm):=hid (by rw [bi]; exact if_pos rfl)
 rw [<-bi] at a8
 have em:Hid (g2≠g):=hid (by have:=C.out.row.lt; omega)
 have cv:Hid (w1.heap.size<=g2):=hid (by have:=o.out.size; omega)
 clear Q N a4 c3 b9 d1 d0 ag bi dh r HF C c0 c1 cc am an a0 e0 p0
 obtain ⟨wi,cz⟩:∃ x:Nat,x=(T.W i).toNat:=⟨_,rfl⟩
 have dk:T.W i=(wi:Int):=by have:=HW.out i (by omega); omega
 rw [<-cz] at aa dr
 have f4:=hid dk
 clear cz dk
 obtain ⟨gO,ep⟩:=exx gk
 subst ep
 go_loopg [48] el (fun gg jv wx=>∃ (j:Nat) (R2:Nat->Value),jv=.int .i64 (j:Nat)/\j<=el/\el<=j+gg/\Hid (∀ e,e<j->T.agree (addF P M) (mulF P M m) H q a i e)/\wx.rowIs go 25 T.nw F2/\LTab wx w.heap.size g wi a (fun _=>True) R (T.syn (addF P M) (mulF P M m) H i)/\LTab wx w.heap.size g2 mm a (T.asg i j) R2 (T.synL (addF P M) (mulF P M m) H (T.syn (addF P M) (mulF P M m) H i) i j)/\Below w1.heap.size w1 wx)
 case atStart=>exact ⟨0,_,rfl,by omega,by omega,hid fun e h=>absurd h (by omega),a8,aa,ay,db⟩
 clear a8 aa ay db
 obtain ⟨j,R2,rfl,hj,fn,dy,a9,b0,dp,hB⟩:=hrel
 have fo:(0:Int)<=(j:Int):=by omega
 have r:=hid a9
 have C:=hid b0
 have D:=hid dp
 have o:=hid hB
 obtain ⟨w9,e7⟩:=exx wr
 subst e7
 clear a9 b0 dp hB
 by_cases hjl:j<el
 rotate_left
 ·obtain rfl:el=j:=by omega
  have c5:¬ (el:Int)<(el:Int):=by omega
  have az:LTab w9 w.heap.size g2 (T.W (i+1)).toNat a (fun _=>True) R2 (T.syn (addF P M) (mulF P M m) H (i+1)):=by
   rw [<-cq.out]
   refine D.out.congr (fun u hu=>⟨fun _=>trivial,fun _=>?_⟩) fun u _ _ k _=>by
    show _=T.synL (addF P M) (mulF P M m) H (T.syn (addF P M) (mulF P M m) H i) i (T.el i) u k
    rw [<-af.out]
   obtain ⟨e,he,h1⟩:=za2.1 ((HP.out.sec i hin).2.2 u (by rw [<-cq.out]; exact hu))
   exact ⟨e,by rw [af.out]; exact he,by rw [h1]; exact Int.toNat_natCast _⟩
  have cs:=hid az
  have ff:Hid (F2 (i+1)=.slice (some ⟨g2,0,none⟩) (T.W (i+1)).toNat (T.W (i+1)).toNat):=hid (by rw [bh.out,cq.out])
  have co:Hid (∀ i',i'<i+1->∀ j,j<T.el i'->T.agree (addF P M) (mulF P M m) H q a i' j):=hid fun i' h' j hj=>by
   by_cases e:i'=i
   ·subst e
    exact dy.out j (by rw [af.out]; exact hj)
   ·exact dx.out i' (by omega) j hj
  clear az
  go_wp2
  go_roundg (gO - 1)
  case measure=>omega
  case rel=>exact ⟨i+1,g2,R2,F2,by go_num,by omega,by omega,co,r.out,ff.out,cs.out,o.out⟩
 have c5:(j:Int)<(el:Int):=by omega
 obtain ⟨xb,xo,ew,fi,x0,x1,x2⟩:=zcO e5.out hjl
 subst ew
 have bf:=onS HB.out o.out
 replace x0:=cellS bf x0;replace x1:=cellS bf x1;replace x2:=cellS bf x2
 have c9:=du.out.ins i hin j (by rw [<-af.out]; exact hjl)
 obtain ⟨f0,f1,t0,t1⟩:=c9
 obtain ⟨fu,di⟩:∃ x:Nat,x=(T.fr i j).toNat:=⟨_,rfl⟩
 obtain ⟨tu,d6⟩:∃ x:Nat,x=(T.to i j).toNat:=⟨_,rfl⟩
 have hf:T.fr i j=(fu:Int):=by omega
 have ht:T.to i j=(tu:Int):=by omega
 rw [hf] at x0 f0 f1;rw [ht] at x2 t0 t1;rw [f4.out] at f1;rw [f3.out] at t1
 have fg:=hid di
 have bj:=hid d6
 obtain ⟨lb,ad⟩:∃ x:Int,x=T.lb i j:=⟨_,rfl⟩
 rw [<-ad] at x1
 have cu:=hid ad
 clear hf ht di d6 ad
 go_upto_region 10 with fail
 obtain ⟨w10,ai,kb,rx⟩:=zaq w9 (.int .i64 (fu:Nat)) (.int .i64 lb) (.int .i64 (tu:Nat)) 90
 rw [<-ai] at ⊢;clear ai
 obtain ⟨b12,av⟩:=exx w9.heap.size
 rw [<-av] at rx ⊢;clear av x0 x1 x2;replace r:=hid (zab r.out kb);replace C:=hid (C.out.on kb);replace D:=hid (D.out.on kb);replace o:=hid (onS o.out kb);clear kb bf
 have y1:=qc1 rx
 go_wp2_with fail
 refine (zfn lb (HG.out.on (onS HB.out o.out))).mono ?_
 rintro e w11 ⟨rfl,kb⟩
 rw [<-HQ.out]
 have G:=hid (zab rx kb)
 replace r:=hid (zab r.out kb);replace C:=hid (C.out.on kb);replace D:=hid (D.out.on kb);replace o:=hid (onS o.out kb);clear kb rx y1
 have bg:isB q lb=true↔0<=lb/\lb<(q:Int):=by unfold isB; simp
 obtain hb | hb:=Bool.eq_false_or_eq_true (isB q lb)
 rotate_left
 ·rw [hb]
  have a7:¬ T.SynOk (addF P M) (mulF P M m) H q a:=fun h=>by
   have h1:=(h i hin j (by rw [<-af.out]; exact hjl)).1
   rw [<-cu.out] at h1;rw [bg.2 h1] at hb
   cases hb
  have cm:=onS HB.out o.out
  clear hb bg
  go_wp2
  go_ret2
  exact ⟨cm,.inr ⟨a7,rfl⟩⟩
 have ad:=bg.1 hb
 rw [hb]
 obtain ⟨lu,rfl⟩:∃ x:Nat,lb=x:=⟨lb.toNat,by omega⟩
 have ed:lu<q:=by omega
 have f9:Hid ((T.lb i j).toNat=lu):=hid (by rw [<-cu.out]; exact Int.toNat_natCast _)
 have fa:Hid (0<=T.lb i j/\T.lb i j<(q:Int)):=hid (by rw [<-cu.out]; exact ad)
 clear hb bg ad
 have ej:(0:Int)<=(i:Int)+1:=by omega
 have cg:fu<wi:=by omega
 have b8:tu<mm:=by omega
 have de:(i:Int)<(T.nw:Int):=by omega
 obtain ⟨SF,fc,cj⟩:=(C.out.yes fu cg trivial).shape
 have f6:=hid cj
 have U:=r.out.cell (i:=i) (by omega)
 rw [dr.out] at U
 have ae:=C.out.row.cell cg
 rw [cj] at ae
 have aw:=qc0 G.out
 clear cj
 go_upto_region 12 with fail
 refine wp_region_held_drew (S:=fun w'=>w'.cell? ⟨go,i,none⟩=some (.slice (some ⟨g,0,none⟩) wi wi)/\w'.cell? ⟨g,fu,none⟩=some (.slice SF a fc)/\w'.cell? ⟨b12,0,none⟩=some (.int .i64 (fu:Nat))) (by kernel_rfl) ⟨cellS (Below.refl _ _).drew U,cellS (Below.refl _ _).drew ae,cellS (Below.refl _ _).drew aw⟩ (fun l=>?_)
 obtain ⟨w12,hw,kb⟩:=dwx w11
 rw [<-hw] at l ⊢;clear hw;replace G:=hid (zab G.out kb);replace r:=hid (zab r.out kb);replace C:=hid (C.out.on kb);replace D:=hid (D.out.on kb);replace o:=hid (onS o.out kb);replace U:=cellS kb U;replace ae:=cellS kb ae;replace aw:=cellS kb aw;clear kb
 have f5:Hid (w.heap.size<=w12.heap.size):=hid (onS HB.out o.out).size
 refine tkq 0 (h:=tkq 1 (h:=tkq 2 (h:=tkq 3 (h:=tkq 4 (h:=tkq 5 (h:=tkq 6 (h:=tkq 7 (h:=?_))))))))
 clear l
 refine rdq 8 (h:=fun K hK=>?_)
 go_simp
 go_wp2_with fail
 have bd:=C.out.yes fu cg trivial
 rw [f6.out] at bd
 have dv:=hid (show IntsR w12 w12.heap.size SF a (fun k=>((T.syn (addF P M) (mulF P M m) H i fu k:Nat):Int)) from bd.rd rfl)
 have dj:=bd.capL
 clear bd
 refine (zay SF a fc (fun k=>((T.syn (addF P M) (mulF P M m) H i fu k:Nat):Int)) w12 dv.out dj.1 (by omega)).mono ?_
 rintro e w13 ⟨SA,sc,rfl,hO,kb⟩
 have b3:=hid hO
 have b1:=hid kb
 refine bkq hK ⟨cellS kb U,cellS kb ae,cellS kb aw⟩ (h:=fun l=>?_)
 clear hK K hO kb U ae aw dv dj
 refine tkq 9 (h:=?_)
 refine wpAnyH_done (by kernel_rfl) ?_ _
 clear l
 go_upto_region 14 with fail
 obtain ⟨gP,en⟩:=exx gk
 subst en
 go_loopg [68] a (fun gg kv wx=>∃ k:Nat,kv=.int .i64 (k:Nat)/\k<=a/\a<=k+gg/\Own wx w12.heap.size 3 1 (.slice SA a sc) a (fun t _=>.int .i64 ((if t<k then T.synv (addF P M) (mulF P M m) H (T.syn (addF P M) (mulF P M m) H i) i j t else T.syn (addF P M) (mulF P M m) H i fu t:Nat):Int))/\Below w12.heap.size w12 wx)
 case atStart=>exact ⟨0,rfl,by omega,by omega,b3.out.congr fun t _ _ _=>by rw [if_neg (by omega)],b1.out⟩
 obtain ⟨k,rfl,hk,fl,hO,hB⟩:=hrel
 have fm:(0:Int)<=(k:Int):=by omega
 have HO:=hid hO
 have KB:=hid hB
 obtain ⟨w14,br⟩:=exx wr
 subst br
 clear hO hB b3 b1
 by_cases hka:k<a
 ·have c2:(k:Int)<(a:Int):=by omega
  have ee:IntKind.i64.wrap ((k:Int)+1)=((k+1:Nat):Int):=by rw [IntWalk.i64_in _ (by omega)]; rfl
  obtain ⟨hb,ho,RA,rc,ev,_,dt,_,_,ak,_⟩:=HH.out k hka
  subst ev
  obtain ⟨rb,ro,eu,_,r0w⟩:=ak.at hin
  subst eu
  have h0:=cellS (onS (onS HB.out o.out) KB.out) dt
  have eg:(i:Int)<(T.n:Int):=by omega
  obtain ⟨gs,os,sc2,d7,_,_,_,_,_⟩:=HO.out.form (by omega)
  obtain ⟨bu,bt⟩:SA=some ⟨gs,os,none⟩/\sc=sc2:=by injection d7 with x _ y; exact ⟨x,y⟩
  subst bu bt
  clear d7
  have bo:∀ X:World,Own X w12.heap.size 3 1 (.slice (some ⟨gs,os,none⟩) a sc) a (fun t _=>.int .i64 ((if t<k then T.synv (addF P M) (mulF P M m) H (T.syn (addF P M) (mulF P M m) H i) i j t else T.syn (addF P M) (mulF P M m) H i fu t:Nat):Int))->X.cell? ⟨gs,os+k,none⟩=some (.int .i64 (T.syn (addF P M) (mulF P M m) H i fu k:Nat)):=fun X hX=>by
   obtain ⟨g',o',c',e1,_,_,_,_,hc⟩:=hX.form (by omega)
   injection e1 with e1 _ _
   injection e1 with e1
   injection e1 with e1 e2
   subst e1 e2
   have h1:=hc k hka 0 (by omega)
   rw [Nat.mul_one,Nat.add_zero,if_neg (Nat.lt_irrefl k)] at h1
   exact h1
  have cb:∀ X,Below w12.heap.size w12 X->X.cell? ⟨rb,ro+i,none⟩=some (.int .i64 ((H k i:Nat):Int)):=fun X hb=>cellS (onS (onS HB.out o.out) hb) r0w
  have c7:inV (P ^ M) (T.syn (addF P M) (mulF P M m) H i fu k:Nat)=T.syn (addF P M) (mulF P M m) H i fu k:=zao (by rw [<-HQ.out]; exact Trel.syn_lt HL.out _ _ _)
  have c6:inV (P ^ M) (H k i:Nat)=H k i:=zao (by rw [<-HQ.out]; exact fe.out k hka i hin)
  have df:inV (P ^ M) (lu:Nat)=lu:=zao (by rw [<-HQ.out]; exact ed)
  obtain ⟨x,hx⟩:=exx (T.syn (addF P M) (mulF P M m) H i fu k)
  obtain ⟨y,hy⟩:=exx (H k i)
  rw [<-hx] at bo c7;rw [<-hy] at cb c6
  have HX:=hid hx
  have HY:=hid hy
  have fd:=hid c7
  have e3:=hid c6
  have e4:=hid df
  have cn:=hid bo
  have a6:=hid cb
  clear hx hy c7 c6 df bo cb r0w dt ak
  go_upto_region 16 with fail
  refine wp_region_held_drew (S:=fun w'=>w'.cell? ⟨b12,1,none⟩=some (.int .i64 (lu:Nat))/\w'.cell? ⟨rb,ro+i,none⟩=some (.int .i64 (y:Nat))) (by kernel_rfl) ⟨cellS (Below.refl _ _).drew ((zab G.out KB.out).cell (i:=1) (by omega)),cellS (Below.refl _ _).drew (a6.out _ KB.out)⟩ (fun l=>?_)
  obtain ⟨w15,hw,kb⟩:=dwx w14
  rw [<-hw] at l ⊢;clear hw h0;replace HO:=hid (HO.out.on kb);replace KB:=hid (onS KB.out kb);clear kb
  refine tkq 0 (h:=tkq 1 (h:=tkq 2 (h:=tkq 3 (h:=tkq 4 (h:=tkq 5 (h:=tkq 7 (h:=tkq 8 (h:=tkq 9 (h:=tkq 10 (h:=tkq 11 (h:=tkq 12 (h:=?_))))))))))))
  refine tkq 13 (h:=?_)
  clear l
  refine rdq2 6 14 (h:=fun K hK=>?_) (h2:=fun K hK=>?_)
  focus
   have u0:w15.cell? ⟨gs,os+k,none⟩=some (.int .i64 (x:Nat)):=cn.out _ HO.out
   go_simp
   clear u0
   refine bkq hK ⟨(zab G.out KB.out).cell (i:=1) (by omega),a6.out _ KB.out⟩ (h:=fun l=>?_)
   clear hK K l
   refine rdq 14 (h:=fun K hK=>?_)
   go_simp
   go_wp2_with fail
   refine (zaX (lu:Int) (y:Int) (HG.out.on (onS (onS HB.out o.out) KB.out))).mono ?_
   rintro e w16 ⟨rfl,kb⟩
   rw [e4.out,e3.out];replace HO:=hid (HO.out.on kb);replace KB:=hid (onS KB.out kb);clear kb
   obtain ⟨z,hz⟩:=exx (mulF P M m lu y)
   rw [<-hz]
   have HZ:=hid hz
   have dc:Hid (inV (P ^ M) (z:Nat)=z):=hid (zao (by rw [hz,<-HQ.out]; exact HL.out.mulLt _ _))
   clear hz
   refine bkq hK ⟨(zab G.out KB.out).cell (i:=1) (by omega),a6.out _ KB.out⟩ (h:=fun l=>?_)
   clear hK K l
  rotate_left
  focus
   go_simp
   go_wp2_with fail
   refine (zaX (lu:Int) (y:Int) (HG.out.on (onS (onS HB.out o.out) KB.out))).mono ?_
   rintro e w16 ⟨rfl,kb⟩
   rw [e4.out,e3.out];replace HO:=hid (HO.out.on kb);replace KB:=hid (onS KB.out kb);clear kb
   obtain ⟨z,hz⟩:=exx (mulF P M m lu y)
   rw [<-hz]
   have HZ:=hid hz
   have dc:Hid (inV (P ^ M) (z:Nat)=z):=hid (zao (by rw [hz,<-HQ.out]; exact HL.out.mulLt _ _))
   clear hz
   refine bkq hK ⟨(zab G.out KB.out).cell (i:=1) (by omega),a6.out _ KB.out⟩ (h:=fun l=>?_)
   clear hK K l
   refine rdq 6 (h:=fun K hK=>?_)
   have u0:w16.cell? ⟨gs,os+k,none⟩=some (.int .i64 (x:Nat)):=cn.out _ HO.out
   go_simp
   clear u0
   refine bkq hK ⟨(zab G.out KB.out).cell (i:=1) (by omega),a6.out _ KB.out⟩ (h:=fun l=>?_)
   clear hK K l
  rotate_left
  all_goals
   refine rdq 15 (h:=fun K hK=>?_)
   go_simp
   go_wp2_with fail
   refine (zbX (x:Int) (z:Int) (HG.out.on (onS (onS HB.out o.out) KB.out))).mono ?_
   rintro e w17 ⟨rfl,kb⟩
   rw [fd.out,dc.out];replace HO:=hid (HO.out.on kb);replace KB:=hid (onS KB.out kb);clear kb
   obtain ⟨s,hs⟩:=exx (addF P M x z)
   rw [<-hs]
   have HS:=hid hs
   clear hs
   refine bkq hK ⟨(zab G.out KB.out).cell (i:=1) (by omega),a6.out _ KB.out⟩ (h:=fun l=>?_)
   clear hK K l
   have l:w17.cell? ⟨b12,1,none⟩=some (.int .i64 (lu:Nat))/\w17.cell? ⟨rb,ro+i,none⟩=some (.int .i64 (y:Nat)):=⟨(zab G.out KB.out).cell (i:=1) (by omega),a6.out _ KB.out⟩
   refine tkq 16 (h:=?_)
   clear l
   have u0:w17.cell? ⟨gs,os+k,none⟩=some (.int .i64 (x:Nat)):=cn.out _ HO.out
   have u1:=HO.out.frozen (os+k)
   refine rdq 17 (h:=fun K hK=>?_)
   go_simp
   have be:=HO.out.set (a:=k) (b:=0) hka (by omega) (.int .i64 (s:Nat))
   rw [Nat.mul_one,Nat.add_zero] at be
   have bn:=KB.out.setCell (p:=⟨gs,os+k,none⟩) (HO.out.lt gs rfl).1 (.int .i64 (s:Nat))
   obtain ⟨w18,hw⟩:=exx (World.setCell w17 ⟨gs,os+k,none⟩ (.int .i64 (s:Nat)))
   rw [<-hw] at be bn ⊢;clear hw u0 u1
   have f7:Hid (Own w18 w12.heap.size 3 1 (.slice (some ⟨gs,os,none⟩) a sc) a (fun t _=>.int .i64 ((if t<k+1 then T.synv (addF P M) (mulF P M m) H (T.syn (addF P M) (mulF P M m) H i) i j t else T.syn (addF P M) (mulF P M m) H i fu t:Nat):Int))):=hid (be.congr fun t _ u hu=>by
    obtain rfl:u=0:=by omega
    show (if t=k/\0=0 then Value.int .i64 (s:Nat) else .int .i64 ((if t<k then T.synv (addF P M) (mulF P M m) H (T.syn (addF P M) (mulF P M m) H i) i j t else T.syn (addF P M) (mulF P M m) H i fu t:Nat):Int))=.int .i64 ((if t<k+1 then T.synv (addF P M) (mulF P M m) H (T.syn (addF P M) (mulF P M m) H i) i j t else T.syn (addF P M) (mulF P M m) H i fu t:Nat):Int)
    by_cases e:t=k
    ·rw [if_pos ⟨e,rfl⟩,if_pos (by omega),e,HS.out,HZ.out,HX.out,HY.out,<-f9.out]
     unfold Trel.synv
     rw [<-fg.out]
    rw [if_neg fun g=>e g.1]
    by_cases e2:t<k
    ·rw [if_pos e2,if_pos (by omega)]
    ·rw [if_neg e2,if_neg (by omega)])
   replace KB:=hid bn;clear be bn HO
   refine bkq hK ⟨(zab G.out KB.out).cell (i:=1) (by omega),a6.out _ KB.out⟩ (h:=fun l=>?_)
   clear hK K l
   refine wpAnyH_done (by kernel_rfl) ?_ _
   go_wp2
   go_roundg (gk - 1)
   case measure=>omega
   case rel=>exact ⟨k+1,by go_num,by omega,by omega,f7.out,KB.out⟩
 obtain rfl:a=k:=by omega
 have c2:¬ (a:Int)<(a:Int):=by omega
 have dw:Hid (Own w14 w12.heap.size 3 1 (.slice SA a sc) a (fun t _=>.int .i64 (T.synv (addF P M) (mulF P M m) H (T.syn (addF P M) (mulF P M m) H i) i j t:Nat))):=hid (HO.out.congr fun t ht _ _=>by rw [if_pos ht])
 replace G:=hid (zab G.out KB.out);replace r:=hid (zab r.out KB.out);replace C:=hid (C.out.on KB.out);replace D:=hid (D.out.on KB.out);replace o:=hid (onS o.out KB.out)
 have J:=hid (dw.out.mono (show w.heap.size<=w12.heap.size from f5.out))
 clear HO KB dw
 have L:=r.out.cell (i:=i+1) (by have:=I.out; omega)
 rw [bh.out] at L
 have au:=qc2 G.out
 have ce:=D.out.row.cell b8
 have c8:((i+1:Nat):Int)<(T.nw:Int):=by have:=I.out; omega
 have fj:(tu:Int)<(mm:Int):=by omega
 have bw:∃ OA oc on,R2 tu=.slice OA on oc/\((T.asg i j tu/\on=a/\IntsR w14 w14.heap.size OA a (fun k=>((T.synL (addF P M) (mulF P M m) H (T.syn (addF P M) (mulF P M m) H i) i j tu k:Nat):Int)))∨(¬ T.asg i j tu/\OA=none/\on=0)):=by
  by_cases V:T.asg i j tu
  ·have dn:=D.out.yes tu b8 V
   obtain ⟨OA,oc,e⟩:=dn.shape
   exact ⟨OA,oc,a,e,.inl ⟨V,rfl,dn.rd e⟩⟩
  ·exact ⟨none,0,0,D.out.no tu b8 V,.inr ⟨V,rfl,rfl⟩⟩
 obtain ⟨OA,oc,on,dm,a5⟩:=bw
 rw [dm] at ce;clear dm
 go_upto_region 18 with fail
 refine wp_region_held_drew (S:=fun w'=>w'.cell? ⟨go,i+1,none⟩=some (.slice (some ⟨g2,0,none⟩) mm mm)/\w'.cell? ⟨g2,tu,none⟩=some (.slice OA on oc)/\w'.cell? ⟨b12,2,none⟩=some (.int .i64 (tu:Nat))) (by kernel_rfl) ⟨cellS (Below.refl _ _).drew L,cellS (Below.refl _ _).drew ce,cellS (Below.refl _ _).drew au⟩ (fun l=>?_)
 obtain ⟨w15,hw,kb⟩:=dwx w14
 rw [<-hw] at l ⊢;clear hw
 refine tkq 0 (h:=tkq 1 (h:=tkq 2 (h:=tkq 3 (h:=tkq 4 (h:=tkq 5 (h:=tkq 6 (h:=tkq 7 (h:=?_))))))))
 refine tkq 8 (h:=tkq 9 (h:=?_))
 refine wpAnyH_done (by kernel_rfl) ?_ _
 clear l;replace G:=hid (zab G.out kb);replace r:=hid (zab r.out kb);replace C:=hid (C.out.on kb);replace D:=hid (D.out.on kb);replace o:=hid (onS o.out kb);replace J:=hid (J.out.on kb)
 have a3:=a5.imp (fun h=>(⟨h.1,h.2.1,h.2.2.on kb⟩:T.asg i j tu/\on=a/\IntsR w15 w15.heap.size OA a (fun k=>((T.synL (addF P M) (mulF P M m) H (T.syn (addF P M) (mulF P M m) H i) i j tu k:Nat):Int)))) id
 clear kb a5 ce au L
 go_upto_region 19 with fail
 go_cut [107] (fun v107 wx=>∃ bb:Bool,v107=.bool bb/\Below w15.heap.size w15 wx/\Hid (bb=true->¬ T.SynOk (addF P M) (mulF P M m) H q a)/\Hid (bb=false->T.asg i j tu->∀ k,k<a->T.synL (addF P M) (mulF P M m) H (T.syn (addF P M) (mulF P M m) H i) i j tu k=T.synv (addF P M) (mulF P M m) H (T.syn (addF P M) (mulF P M m) H i) i j k))
 case first =>
  rcases a3 with ⟨V,rfl,hI⟩ | ⟨a7,rfl,rfl⟩
  rotate_left
  ·go_wp2
   go_meet
   exact ⟨false,rfl,Below.refl _ _,hid (fun h=>nomatch h),hid fun _ h=>absurd h a7⟩
  cases OA with
  | none =>
   have HI:=hid hI
   clear hI
   go_wp2
   go_meet
   exact ⟨false,rfl,Below.refl _ _,hid (fun h=>nomatch h),hid fun _ _ k hk=>by
    obtain ⟨_,_,e,_⟩:=HI.out.at hk
    cases e⟩
  | some oad =>
   obtain ⟨ob,oo,op⟩:=oad
   have HI:=hid hI
   have cp:=hid (show IntsR w15 w15.heap.size SA on (fun k=>((T.synv (addF P M) (mulF P M m) H (T.syn (addF P M) (mulF P M m) H i) i j k:Nat):Int)) from J.out.rd rfl)
   clear hI
   have fk:∀ W,(binOp .neq 22 (.slice (some ⟨ob,oo,op⟩) on oc) (.slice none 0 0)).run Tryz.prog W=.ok (.bool true) W:=fun _=>rfl
   go_wp2_with fail
   refine (zcl (some ⟨ob,oo,op⟩) SA on on oc sc _ _ w15 HI.out cp.out (by omega) (by omega)).mono ?_
   rintro e w16 ⟨v,rfl,hv,kb⟩
   cases v with
   | true =>
    have ex:=(hv.1 rfl).2
    clear hv
    go_wp2
    go_meet
    exact ⟨false,rfl,kb,hid (fun h=>nomatch h),hid fun _ _ k hk=>by
     have:=ex k hk
     exact Int.ofNat.inj this⟩
   | false =>
    have a7:¬ T.SynOk (addF P M) (mulF P M m) H q on:=fun h=>by
     have h1:=(h i hin j (by rw [<-af.out]; exact hjl)).2
     rw [<-bj.out] at h1
     have h2:=hv.2 ⟨rfl,fun k hk=>congrArg (fun x:Nat=>(x:Int)) (h1 V k hk)⟩
     cases h2
    clear hv
    go_wp2
    go_meet
    exact ⟨true,rfl,kb,hid fun _=>a7,hid (fun h=>nomatch h)⟩
 obtain ⟨bb,rfl,kb,f8,cw⟩:=hcut
 obtain ⟨w16,bq⟩:=exx wc
 subst bq
 obtain hbb | hbb:=Bool.eq_false_or_eq_true bb
 ·subst hbb
  have a7:=f8.out rfl
  have cl:=onS (onS HB.out o.out) kb
  go_wp2
  go_ret2
  exact ⟨cl,.inr ⟨a7,rfl⟩⟩
 subst hbb
 have fh:=hid (cw.out rfl)
 replace G:=hid (zab G.out kb);replace r:=hid (zab r.out kb);replace C:=hid (C.out.on kb);replace D:=hid (D.out.on kb);replace o:=hid (onS o.out kb);replace J:=hid (J.out.on kb);clear kb a3
 have L:=r.out.cell (i:=i+1) (by have:=I.out; omega)
 rw [bh.out] at L
 have au:=qc2 G.out
 go_upto_region 21 with fail
 refine wp_region_held_drew (S:=fun w'=>w'.cell? ⟨go,i+1,none⟩=some (.slice (some ⟨g2,0,none⟩) mm mm)/\w'.cell? ⟨b12,2,none⟩=some (.int .i64 (tu:Nat))) (by kernel_rfl) ⟨cellS (Below.refl _ _).drew L,cellS (Below.refl _ _).drew au⟩ (fun l=>?_)
 obtain ⟨w17,hw,kb⟩:=dwx w16
 rw [<-hw] at l ⊢;clear hw L au;replace G:=hid (zab G.out kb);replace r:=hid (zab r.out kb);replace C:=hid (C.out.on kb);replace D:=hid (D.out.on kb);replace o:=hid (onS o.out kb);replace J:=hid (J.out.on kb);clear kb
 refine tkq 0 (h:=tkq 1 (h:=tkq 2 (h:=tkq 3 (h:=tkq 4 (h:=tkq 5 (h:=tkq 6 (h:=tkq 7 (h:=?_))))))))
 refine tkq 8 (h:=?_)
 clear l
 have u0:=D.out.row.cell b8
 have u1:=D.out.row.frozen tu
 refine rdq 9 (h:=fun K hK=>?_)
 go_simp
 have ac:=D.out.set (u:=tu) J.out
 have N:=C.out.kept (zbd w17 g2 tu (.slice SA a sc)) em.out fun u hu hp e=>(za9 D.out.row (C.out.yes u hu hp) (by decide)).elim (fun h=>by rw [h] at e; cases e) (fun h=>h e)
 have am:go≠g2:=fun e=>(za9 r.out (zaR D.out.row (Nat.zero_le _) (by unfold maxLen; omega)) (by decide)).elim (fun h=>by cases h) (fun h=>h (by rw [e]; rfl))
 have a1:=rowIs_setCells_other' am (.slice SA a sc) tu r.out
 have c4:=o.out.setCell (p:=⟨g2,tu,none⟩) cv.out (.slice SA a sc)
 have al:b12≠g2:=fun e=>(za9 G.out (zaR D.out.row (Nat.zero_le _) (by unfold maxLen; omega)) (by decide)).elim (fun h=>by cases h) (fun h=>h (by rw [e]; rfl))
 have Y:=rowIs_setCells_other' al (.slice SA a sc) tu G.out
 obtain ⟨w18,hw⟩:=exx (World.setCell w17 ⟨g2,tu,none⟩ (.slice SA a sc))
 rw [<-hw] at ac N a1 c4 Y ⊢
 have b2:=hid Y
 clear hw u0 u1 am al Y
 have b4:=hid a1
 have cr:=hid N
 have fb:=hid c4
 have ct:=hid (ac.congr (P':=T.asg i (j+1)) (S':=T.synL (addF P M) (mulF P M m) H (T.syn (addF P M) (mulF P M m) H i) i (j+1)) (fun u _=>by rw [Trel.asg_succ,<-bj.out]; exact or_congr Iff.rfl eq_comm) fun u _ _ k _=>by
  show (if u=tu then T.synv (addF P M) (mulF P M m) H (T.syn (addF P M) (mulF P M m) H i) i j k else T.synL (addF P M) (mulF P M m) H (T.syn (addF P M) (mulF P M m) H i) i j u k)=if (T.to i j).toNat=u then T.synv (addF P M) (mulF P M m) H (T.syn (addF P M) (mulF P M m) H i) i j k else T.synL (addF P M) (mulF P M m) H (T.syn (addF P M) (mulF P M m) H i) i j u k
  rw [<-bj.out]
  by_cases e:u=tu
  ·rw [if_pos e,if_pos e.symm]
  ·rw [if_neg e,if_neg (fun g=>e g.symm)])
 have ax:T.agree (addF P M) (mulF P M m) H q a i j:=⟨fa.out,by rw [<-bj.out]; exact fh.out⟩
 have cx:=hid ax
 clear ac N a1 c4 ax
 have dl:w18.cell? ⟨go,i+1,none⟩=some (.slice (some ⟨g2,0,none⟩) mm mm)/\w18.cell? ⟨b12,2,none⟩=some (.int .i64 (tu:Nat)):=by
  refine ⟨?_,?_⟩
  ·rw [<-bh.out]; exact b4.out.cell (by have:=I.out; omega)
  ·exact b2.out.cell (i:=2) (by omega)
 refine bkq hK dl (h:=fun l=>?_)
 clear hK K l dl
 refine wpAnyH_done (by kernel_rfl) ?_ _
 have ef:IntKind.i64.wrap ((j:Int)+1)=((j+1:Nat):Int):=by rw [IntWalk.i64_in _ (by omega)]; rfl
 go_wp2
 go_roundg (gP - 1)
 case measure=>omega
 case rel=>exact ⟨j+1,_,by go_num,by omega,by omega,hid fun e he=>by
  by_cases h:e=j
  ·rw [h]; exact cx.out
  ·exact dy.out e (by omega),b4.out,cr.out,ct.out,fb.out⟩
theorem zhL (P M:Int) (A:Option Addr) (k c:Nat) (f:Nat->Int) (N:Int) (TC:Option Addr) (n d:Nat) (ln:Nat->Nat) (V:Nat->Nat->Int) (T:Trel) (TA TB:Option Addr) (ca cb:Nat) (w:World) (hr:IntsR w w.heap.size A k f) (h:IntRows w TC n ln V) (hkc:k<=c) (hT:T.Reads w TA TB) :
  Calls Tryz.prog 47 #[.agg #[.int .i64 P,.int .i64 M,.slice A k c,.int .i64 N,.slice TC n d],.agg #[.slice TA T.nw ca,.slice TB T.n cb]] w fun e w'=>∃ v:Int,e=.returned (.int .i64 v)/\TChk P M k f N n ln V T v/\Below w.heap.size w w':=by
 have HI:=hid hr
 have HT:=hid h
 have HR:=hid hT
 clear hr h hT
 obtain ⟨w1,r,hB,rf⟩:=zaE w (.int .i64 P) (.int .i64 M) (.slice A k c) (.int .i64 N) (.slice TC n d) 27
 have rt:=zai (w:=w1) (a:=.slice TA T.nw ca) (b:=.slice TB T.n cb) (T := 53)
 have kb:=aly w1 (.cells #[.slice TA T.nw ca,.slice TB T.n cb] 53)
 obtain ⟨w2,F⟩:=exx (w1.alloc (.cells #[.slice TA T.nw ca,.slice TB T.n cb] 53))
 rw [<-F] at kb rt;replace rf:=zab rf kb;replace hB:=onS hB kb
 have y:w1.heap.size=w.heap.size+1:=by rw [r]; simp
 rw [y] at rt
 go_enter Tryz.func47, Tryz.ntmps47
 go_upto_region 1 with fail
 rw [<-r,<-F];clear r F kb y
 obtain ⟨b0,Y⟩:=exx w.heap.size
 obtain ⟨b1,U⟩:=exx (w.heap.size+1)
 rw [<-Y] at rf;rw [<-U] at rt;rw [<-U,<-Y];clear Y U
 have l:Hid (∀ X,Below w2.heap.size w2 X->X.rowIs b0 27 5 (codCell (.int .i64 P) (.int .i64 M) (.slice A k c) (.int .i64 N) (.slice TC n d))/\X.rowIs b1 53 2 (matCell (.slice TA T.nw ca) (.slice TB T.n cb))):=hid fun X hx=>⟨zab rf hx,zab rt hx⟩
 have HB:=hid hB
 clear hB rt
 have q0:=qc0 rf
 have q1:=qc1 rf
 have q2:=qc2 rf
 have q3:=qc3 rf
 have q4:=qc4 rf
 clear rf
 go_wp2_with fail
 refine (ziK P M A k c f N TC n d ln V w2 (HI.out.on HB.out) (HT.out.on HB.out) hkc).mono ?_
 rintro e w3 ⟨kb,v,hv,j⟩
 have HV:=hid hv
 have KB:=hid kb
 clear kb hv q0 q1 q2 q3 q4
 rcases j with ⟨I,rfl⟩ | ⟨rfl,P',M',N',rfl,rfl,rfl,hD⟩
 ·have bl:(v != 0)=true:=by simpa using I
  have b3:=hid I
  clear I
  have aj:=(onS HB.out KB.out).alloc (onS HB.out KB.out).size (.cells #[.int .i64 0,.int .i64 0,.slice none 0 0,.int .i64 0,.slice none 0 0] 27)
  have bk:=hid aj
  clear aj
  go_wp2
  go_ret
  exact ⟨v,rfl,.inl ⟨b3.out,HV.out⟩,bk.out⟩
 obtain ⟨dv,lv,a,H,rfl,af,hM,_,hrel⟩:=hD
 obtain ⟨P2,M2,N2,Z,a0,b2,hC⟩:=zbM HI.out HT.out HV.out
 obtain rfl:P'=P2:=by omega
 obtain rfl:M'=M2:=by omega
 obtain rfl:N'=N2:=by omega
 clear Z a0 b2
 have HC:=hid hC
 have hN:=hC.ln2
 have bp:=hC.ln1
 have HL:=hid (fieldLaws hC.fld)
 have E:=hid hC.fld.1
 have bo:=hC.n_le
 have az:=hrel.count HL.out (fun x _=>⟨zby (by have:=E.out.1; omega),zbq (by have:=E.out.1; omega)⟩) hC.rref
 have m:=hid hrel
 have al:=hid hrel.rref.choose_spec.lt
 obtain ⟨DA,dc,ay⟩:=af.shape
 subst ay
 obtain ⟨LA,lc,ax⟩:=hM.shape
 subst ax
 clear hC hrel af
 obtain ⟨b6,O⟩:=exx w3.heap.size
 obtain ⟨w4,a6,kb,rd⟩:=zaE w3 (.int .i64 (P':Nat)) (.int .i64 (M':Nat)) (.slice DA k dc) (.int .i64 (N':Nat)) (.slice LA a lc) 27
 have r4:=(l.out _ (onS KB.out kb)).2
 have p0:=qc0 r4
 have p1:=qc1 r4
 have ai:MRows w4 LA a N' H:=MTab.rd (hM.on kb) E.out.2.2.2 al.out
 go_upto_region 4 with fail
 rw [<-a6,<-O];rw [<-O] at rd;clear a6 O
 have HM:=hid ai
 replace KB:=hid (onS KB.out kb)
 have b5:Hid (∀ X,Below w4.heap.size w4 X->X.rowIs b6 27 5 (codCell (.int .i64 (P':Nat)) (.int .i64 (M':Nat)) (.slice DA k dc) (.int .i64 (N':Nat)) (.slice LA a lc))):=hid fun X hx=>zab rd hx
 clear kb hM ai rd r4
 go_wp2_with fail
 refine (zdo T TA TB ca cb w4 (HR.out.on (onS HB.out KB.out))).mono ?_
 rintro e w5 ⟨rfl,kb⟩
 have K4:=hid kb
 clear kb p0 p1
 obtain ⟨u,hu⟩:=exx T.properE
 rw [<-hu]
 by_cases hu0:u=0
 rotate_left
 ·have bm:(u != 0)=true:=by simpa using hu0
  have HU:Hid (T.properE≠0/\u=T.properE):=hid ⟨by rw [<-hu]; exact hu0,hu⟩
  clear hu hu0
  go_wp2
  go_ret
  exact ⟨u,rfl,.inr ⟨HV.out,.inl HU.out⟩,onS (onS HB.out KB.out) K4.out⟩
 subst hu0
 have q:Hid (T.properE=0):=hid hu.symm
 have HP:=hid (Trel.proper_of q.out)
 clear hu
 have r5:=l.out _ (onS KB.out K4.out)
 have p1:=qc1 r5.2
 have q3:=qc3 r5.1
 by_cases hTN:T.n=N'
 rotate_left
 ·have L:((T.n:Int) != (N':Int))=true:=by simp; omega
  have b4:=hid hTN
  clear r5 hTN
  go_wp2
  go_ret
  exact ⟨13,rfl,.inr ⟨HV.out,.inr ⟨q.out,P',M',N',rfl,rfl,rfl,.inl ⟨b4.out,rfl⟩⟩⟩,onS (onS HB.out KB.out) K4.out⟩
 have L:((T.n:Int) != (N':Int))=false:=by simp; omega
 have L:((T.n:Int) != (T.n:Int))=false:=by simp
 subst hTN
 go_upto_region 9 with fail
 have q0:=qc0 r5.1
 have q1:=qc1 r5.1
 have q2:=qc2 r5.1
 clear r5 L p1
 go_wp2_with fail
 refine (zck (P':Int) (M':Int) A k c f w5 (HI.out.on (onS (onS HB.out KB.out) K4.out))).mono ?_
 rintro e w6 ⟨kb,j⟩
 rcases j with ⟨p,_⟩ | ⟨_,g,P2,M2,Z,a0,rfl,_,hG⟩
 ·refine absurd ?_ p
  rcases HV.out with ⟨_,h9⟩ | ⟨h1,_⟩
  ·cases h9
  ·exact h1
 obtain rfl:P'=P2:=by omega
 obtain rfl:M'=M2:=by omega
 have HG:=hid hG.gf
 replace K4:=hid (onS K4.out kb);clear kb q0 q1 q2 q3 Z a0 hG
 have r6:=b5.out _ K4.out
 have y2:=qc4 r6
 have s6:=l.out _ (onS KB.out K4.out)
 have p0:=qc0 s6.2
 have p1:=qc1 s6.2
 clear r6 s6
 go_wp2_with fail
 refine (zeP T TA TB LA ca cb lc a (P' ^ M') H w6 (hid rfl) HG.out (HR.out.on (onS (onS HB.out KB.out) K4.out)) HP.out (HM.out.on K4.out) al.out (by omega)).mono ?_
 rintro e w7 ⟨kb,j⟩
 replace K4:=hid (onS K4.out kb);replace HG:=hid (HG.out.on kb);clear kb y2 p0 p1
 rcases j with ⟨a9,go,gg,R,rfl,o,D⟩ | ⟨aa,rfl⟩
 rotate_left
 ·have s:=hid aa
  clear aa
  go_wp2
  go_ret
  exact ⟨13,rfl,.inr ⟨HV.out,.inr ⟨q.out,P',M',T.n,rfl,rfl,rfl,.inr ⟨rfl,a,H,m.out,.inr rfl,⟨fun h=>absurd h (by omega),fun h=>absurd h.1 s.out⟩⟩⟩⟩,onS (onS HB.out KB.out) K4.out⟩
 have b9:=hid a9
 have r:(T.W T.n).toNat=1:=by rw [HP.out.wn]; rfl
 rw [r] at o D
 obtain ⟨SA,sc,ag⟩:=(D.yes 0 (by omega) trivial).shape
 have hO:=D.yes 0 (by omega) trivial
 have ac:=D.row.cell (i:=0) (by omega)
 rw [ag] at hO ac
 have am:=hid (show IntsR w7 w7.heap.size SA a (fun k=>((T.syn (addF P' M') (mulF P' M' fun i=>(f i).toNat) H T.n 0 k:Nat):Int)) from hO.rd rfl)
 have ba:=hid HP.out.shape.nw
 have J:(T.n:Int)<(T.nw:Int):=by have:=ba.out; omega
 have aw:(0:Int)<=(T.n:Int):=by omega
 have r7:=l.out _ (onS KB.out K4.out)
 have q3:=qc3 r7.1
 clear r D ag hO a9 r7
 go_wp2_with fail
 refine (zd4 SA a sc _ w7 am.out (by omega)).mono ?_
 rintro e w8 ⟨b,rfl,hb,rfl⟩
 have a4:=hid hb
 clear hb o ac q3
 cases b with
 | true =>
  have s:Hid (¬ ∀ k,k<a->T.syn (addF P' M') (mulF P' M' fun i=>(f i).toNat) H T.n 0 k=0):=hid fun h=>by
   obtain ⟨i,hi,h1⟩:=a4.out.1 rfl
   exact h1 (by rw [h i hi]; rfl)
  go_wp2
  go_ret
  exact ⟨13,rfl,.inr ⟨HV.out,.inr ⟨q.out,P',M',T.n,rfl,rfl,rfl,.inr ⟨rfl,a,H,m.out,.inr rfl,⟨fun h=>absurd h (by omega),fun h=>absurd h.2.1 s.out⟩⟩⟩⟩,onS (onS HB.out KB.out) K4.out⟩
 | false =>
  have HZ:Hid (∀ k,k<a->T.syn (addF P' M') (mulF P' M' fun i=>(f i).toNat) H T.n 0 k=0):=hid fun k hk=>by
   by_cases hz:T.syn (addF P' M') (mulF P' M' fun i=>(f i).toNat) H T.n 0 k=0
   ·exact hz
   ·exact nomatch a4.out.2 ⟨k,hk,by show ((T.syn (addF P' M') (mulF P' M' fun i=>(f i).toNat) H T.n 0 k:Nat):Int)≠0; omega⟩
  have s6:=l.out _ (onS KB.out K4.out)
  have p0:=qc0 s6.2
  have p1:=qc1 s6.2
  clear s6 am a4 J aw
  go_wp2_with fail
  refine (zf0 T TA TB ca cb w7 (HR.out.on (onS (onS HB.out KB.out) K4.out))).mono ?_
  rintro e w8 au
  rcases au with ⟨p,_⟩ | ⟨_,A4,c4,rfl,g1,g2,g3,kb⟩
  ·exact absurd q.out p
  have bd:=hid g3
  have bg:=hid g1
  have bf:=hid g2
  replace K4:=hid (onS K4.out kb);replace HG:=hid (HG.out.on kb);clear kb g1 g2 g3 p0 p1
  have q4:w8.cell? ⟨b0,4,none⟩=some (.slice TC n d):=((l.out _ (onS KB.out K4.out)).1).cell (i:=4) (by omega)
  have ao:Hid (∃ Q,Q=P' ^ M'):=hid ⟨_,rfl⟩
  obtain ⟨Q,hQ⟩:=ao.out
  have B:Q<=256:=by rw [hQ]; exact E.out.2.2.2
  have bn:2<=Q:=by rw [hQ]; exact HL.out.two
  have ab:n<=64:=by omega
  have ad:dl Q<=1:=zje (by omega)
  have av:nlen Q<=9:=zgR (by omega)
  have C:nlen Q<=1∨(nlen Q - 1)*n<131072:=.inr (Nat.lt_of_le_of_lt (Nat.mul_le_mul (by omega:nlen Q - 1<=8) ab) (by decide))
  have ae:dl (Q ^ n)<=64:=zje (Nat.lt_of_le_of_lt (Nat.le_trans (Nat.pow_le_pow_left B n) (Nat.pow_le_pow_right (by omega) ab)) (by decide))
  have a2:Hid (∀ W,GF W W.heap.size g P' M' (fun i=>(f i).toNat)->Calls Tryz.prog 76 #[.pointer (some ⟨g,0,none⟩)] W fun e w'=>e=.returned (.int .i64 (Q:Nat))/\Below W.heap.size W w'):=hid fun W hW=>by rw [hQ]; exact zd7 hW
  have HQ:=hid hQ
  have bh:=hid ad
  have bb:=hid C
  have an:=hid ae
  clear hQ ad ae av C ao
  go_upto_region 14 with fail
  go_cut [14] (fun v14 wx=>∃ (PA:Option Addr) (pc:Nat),v14=.slice PA (dl (Q ^ n)) pc/\dl (Q ^ n)<=pc/\pc<=maxLen/\NatOk wx wx.heap.size PA (Q ^ n)/\Below w8.heap.size w8 wx)
  case first =>
   have kb:Below w8.heap.size w8 w8.drew:=(Below.refl _ _).drew
   refine wp_region_held_drew (S:=fun w'=>w'.cell? ⟨b0,4,none⟩=some (.slice TC n d)) (by kernel_rfl) (cellS kb q4) (fun hHeld=>?_)
   obtain ⟨w10,hw⟩:=exx (World.drew w8)
   rw [<-hw] at kb hHeld ⊢;clear hw;replace q4:=cellS kb q4
   have K8:=hid kb
   have be:=hid (HG.out.on kb)
   clear kb
   refine tkq 0 (h:=tkq 4 (h:=tkq 5 (h:=tkq 6 (h:=?_))))
   clear hHeld
   refine rdq 1 (h:=fun K hK=>?_)
   go_simp
   go_wp2_with fail
   refine (a2.out w10 be.out).mono ?_
   rintro e w11 ⟨rfl,kb⟩
   replace q4:=cellS kb q4;replace K8:=hid (onS K8.out kb);clear kb
   refine bkq hK q4 (h:=fun hHeld=>?_)
   clear hK K
   refine tkq 2 (h:=?_)
   clear hHeld
   refine rdq 3 (h:=fun K hK=>?_)
   go_simp
   go_wp2_with fail
   rw [show IntKind.u64.wrap (Q:Int)=(Q:Int) from by rw [IntWalk.u64_in _ (by omega)]]
   refine (zcW Q w11 (by omega)).mono ?_
   rintro e w12 ⟨A2,c2,rfl,h1,h2,h3,kb⟩
   have s:=hid h3
   have aq:=hid h1
   have ap:=hid h2
   replace q4:=cellS kb q4;replace K8:=hid (onS K8.out kb);clear kb h1 h2 h3
   refine bkq hK q4 (h:=fun hHeld=>?_)
   clear hK K hHeld
   refine rdq 7 (h:=fun K hK=>?_)
   go_simp
   go_wp2_with fail
   refine (zgV A2 c2 Q n w12 s.out aq.out ap.out (by have:=bh.out; omega) (by omega) bb.out (by have:=an.out; omega)).mono ?_
   rintro e w13 ⟨A3,c3,rfl,h1,h2,h3,kb⟩
   have a3:=hid h3
   have bj:=hid h1
   have bi:=hid h2
   replace q4:=cellS kb q4;replace K8:=hid (onS K8.out kb);clear kb h1 h2 h3 aq ap s
   refine bkq hK q4 (h:=fun hHeld=>?_)
   clear hK K
   refine tkq 8 (h:=tkq 9 (h:=tkq 10 (h:=tkq 11 (h:=tkq 12 (h:=?_)))))
   refine wpAnyH_done (by kernel_rfl) ?_ _
   clear hHeld
   go_wp2
   go_meet
   exact ⟨A3,c3,rfl,bj.out,bi.out,a3.out,K8.out⟩
  case rest =>
   obtain ⟨PA,pc,rfl,a8,a7,ah,hB⟩:=hcut
   obtain ⟨w10,G⟩:=exx wc
   subst G
   have a3:=hid ah
   have b8:=hid a8
   have b7:=hid a7
   have bc:=hid (show NatOk w10 w10.heap.size A4 (T.fwd (fun _ _=>1) T.n 0) from bd.out.on hB)
   replace K4:=hid (onS K4.out hB);clear q4 ah a8 a7 hB
   go_wp2_with fail
   refine (zgX A4 PA c4 pc (T.fwd (fun _ _=>1) T.n 0) (Q ^ n) w10 bc.out a3.out bg.out bf.out b8.out b7.out (by have:=an.out; omega)).mono ?_
   rintro e w11 ⟨rfl,kb⟩
   replace K4:=hid (onS K4.out kb);clear kb
   obtain ⟨z,hz⟩:=exx (cmpN (T.fwd (fun _ _=>1) T.n 0) (Q ^ n))
   rw [<-hz]
   have a5:z=0↔IsTr (P' ^ M') a (addF P' M') (mulF P' M' fun i=>(f i).toNat) H T n:=by
    have h0:z=0↔T.fwd (fun _ _=>1) T.n 0=Q ^ n:=by
     rw [hz]
     unfold cmpN
     split
     ·exact ⟨fun h=>absurd h (by omega),fun h=>absurd h (by omega)⟩
     ·split
      ·exact ⟨fun h=>absurd h (by omega),fun h=>absurd h (by omega)⟩
      ·exact ⟨fun _=>by omega,fun _=>rfl⟩
    rw [h0,HQ.out]
    exact ⟨fun h=>⟨b9.out,HZ.out,h⟩,fun h=>h.2.2⟩
   have ak:=hid a5
   clear hz a5
   by_cases hz0:z=0
   ·have ar:(z != 0)=false:=by simp [hz0]
    have a1:=hid (ak.out.1 hz0)
    clear hz0
    go_wp2
    go_ret
    exact ⟨0,rfl,.inr ⟨HV.out,.inr ⟨q.out,P',M',T.n,rfl,rfl,rfl,.inr ⟨rfl,a,H,m.out,.inl rfl,⟨fun _=>a1.out,fun _=>rfl⟩⟩⟩⟩,onS (onS HB.out KB.out) K4.out⟩
   ·have ar:(z != 0)=true:=by simpa using hz0
    have a1:Hid (¬ IsTr (P' ^ M') a (addF P' M') (mulF P' M' fun i=>(f i).toNat) H T n):=hid fun h=>hz0 (ak.out.2 h)
    clear hz0
    go_wp2
    go_ret
    exact ⟨13,rfl,.inr ⟨HV.out,.inr ⟨q.out,P',M',T.n,rfl,rfl,rfl,.inr ⟨rfl,a,H,m.out,.inr rfl,⟨fun h=>absurd h (by omega),fun h=>absurd h a1.out⟩⟩⟩⟩,onS (onS HB.out KB.out) K4.out⟩
theorem IntTab.fresh {w w':World} {g base m:Nat} {F:Nat->Value} {n:Nat->Nat} {x:Nat->Nat->Int} (h:IntTab w g base m F n x) (hgb:g<base) (hbw:base<=w.heap.size) (kb:Below w.heap.size w w') {v:Nat} (hv:v<m) {v':Value} {k':Nat} {y:Nat->Int} (hown:Own w' w.heap.size 3 1 v' k' (fun i _=>.int .i64 (y i))) :
  IntTab (w'.setCell ⟨g,v,none⟩ v') g base m (fun u=>if u=v then v' else F u) (fun u=>if u=v then k' else n u) (fun u=>if u=v then y else x u):=by
 have h1:=h.on kb
 refine ⟨(h1.row.set v v').congr fun u _=>by split <;> rfl,fun u hu=>?_,fun a b ha hb hab=>?_⟩
 ·by_cases e:u=v
  ·subst e
   simp only [if_true]
   exact (hown.mono hbw).setCell (fun e=>by have h5:w.heap.size<=g:=(hown.lt _ e).1; omega) _
  ·simp only [if_neg e]
   exact (h1.own u hu).setCell (fun e=>by have h5:base<=g:=((h1.own u hu).lt _ e).1; omega) _
 by_cases ea:a=v
 ·have eb:¬ b=v:=fun e=>hab (by rw [ea,e])
  simp only [if_pos ea,if_neg eb]
  cases hfa:v'.ownBlock with
  | none=>exact .inl rfl
  | some k =>
   right
   intro e2
   have h5:=(hown.lt k hfa).1
   have h6:=((h.own b hb).lt k e2.symm).2
   omega
 simp only [if_neg ea]
 by_cases eb:b=v
 rotate_left
 ·simp only [if_neg eb]; exact h.apart a b ha hb hab
 simp only [if_pos eb]
 cases hfa:(F a).ownBlock with
 | none=>exact .inl rfl
 | some k =>
  right
  intro e2
  have h5:=(hown.lt k e2.symm).1
  have h6:=((h.own a ha).lt k hfa).2
  omega
theorem ziS {w:World} {g P M:Nat} {m:Nat->Nat} (x y:Nat) (h:GF w w.heap.size g P M m) (hx:x<P ^ M) (hy:y<P ^ M) (hy0:y≠0) :
  Calls Tryz.prog 142 #[.pointer (some ⟨g,0,none⟩),.int .i64 (x:Nat),.int .i64 (y:Nat)] w fun e w'=>Below w.heap.size w w'/\∃ a:Nat,e=.returned (.tuple #[.int .i64 (a:Nat),.int .i64 0])/\a<P ^ M/\mulF P M m a y=x:=by
 have HG:=hid h
 have hL:=fieldLaws h.ok
 have HL:=hid hL
 have d:=zao hx
 have c:=zao hy
 have k:=hid d
 have j:=hid c
 clear h hL d c
 go_enter Tryz.func142, Tryz.ntmps142
 go_wp2_with fail
 refine (zd8 (y:Int) HG.out).mono ?_
 rintro e w1 ⟨kb,hc⟩
 have HB:=hid kb
 clear kb;rw [j.out] at hc
 rcases hc with ⟨h0,_⟩ | ⟨_,v,rfl,hv,_,b⟩
 ·exact absurd h0 hy0
 have i:=zao hv
 go_wp2_with fail
 refine (zaX (x:Int) (v:Int) (HG.out.on HB.out)).mono ?_
 rintro e w2 ⟨rfl,kb⟩
 rw [k.out,i];replace HB:=hid (onS HB.out kb)
 obtain ⟨a,ha⟩:=exx (mulF P M m x v)
 rw [<-ha]
 have HA:Hid (a<P ^ M/\mulF P M m a y=x):=hid (by
  have hL:=HL.out
  rw [ha]
  refine ⟨hL.mulLt _ _,?_⟩
  rw [hL.mulAssoc x v y hx hv hy,hL.mulComm v y hv hy,b,hL.mulOne hx])
 clear ha b hv i kb
 go_wp2
 go_ret2
 exact ⟨HB.out,a,rfl,HA.out⟩
theorem zea (A:Option Addr) (n c:Nat) (u:Nat->Nat) (w:World) (h:IntsR w w.heap.size A n (fun j=>((u j:Nat):Int))) (hn:n<=1048576) :
  Calls Tryz.prog 141 #[.slice A n c] w fun e w'=>e=.returned (.tuple #[.int .i64 (fE u n),.int .i64 (lE u n)])/\Below w.heap.size w w':=by
 have HA:=hid h
 clear h
 go_enter Tryz.func141, Tryz.ntmps141
 go_upto_region 3 with fail
 go_loopg [4,5,10] n (fun gg fv lv iv wx=>∃ k:Nat,iv=.int .i64 (k:Nat)/\fv=.int .i64 (fE u k)/\lv=.int .i64 (lE u k)/\k<=n/\n<=k+gg/\Below w.heap.size w wx)
 case atStart=>exact ⟨0,rfl,rfl,rfl,by omega,by omega,Below.refl _ _⟩
 obtain ⟨k,rfl,rfl,rfl,hk,p,i⟩:=hrel
 have q:(0:Int)<=(k:Int):=by omega
 have HB:=hid i
 obtain ⟨w3,l⟩:=exx wr
 subst l
 clear i
 obtain ⟨F,hF⟩:=exx (fE u k)
 obtain ⟨L,hL⟩:=exx (lE u k)
 rw [<-hF,<-hL]
 by_cases hlt:k<n
 rotate_left
 ·have g:¬ (k:Int)<(n:Int):=by omega
  obtain rfl:k=n:=by omega
  have H1:=hid hF
  have H2:=hid hL
  clear hF hL
  go_wp2
  go_ret2
  exact ⟨by rw [H1.out,H2.out]; rfl,HB.out⟩
 have g:(k:Int)<(n:Int):=by omega
 obtain ⟨b,o,m,hb,e0⟩:=(HA.out.on HB.out).at hlt
 subst m
 obtain ⟨x,hx⟩:=exx (u k)
 rw [<-hx] at e0
 have a:fE u (k+1)=if x=0 then F else if F<0 then (k:Int) else F:=by rw [hx,hF]; rfl
 have d:lE u (k+1)=if x=0 then L else (k:Int):=by rw [hx,hL]; rfl
 clear hx hF hL
 by_cases hx0:x=0
 focus
  have hz:((x:Int) == 0)=true:=by simp [hx0]
  rw [if_pos hx0] at a d
 rotate_left
 focus
  have hz:((x:Int) == 0)=false:=by simp [hx0]
  rw [if_neg hx0] at a d
  by_cases hneg:F<0
  focus
   rw [if_pos hneg] at a
  rotate_left
  focus
   rw [if_neg hneg] at a
  rotate_left
 rotate_left 2
 all_goals
  have H1:=hid a
  have H2:=hid d
  clear a d hx0
  go_wp2
  go_roundg (gk - 1)
  case measure=>omega
  case rel=>exact ⟨k+1,by go_num,by rw [H1.out],by rw [H2.out],by omega,by omega,HB.out⟩
def SpansPost (P M : Int) (k : Nat) (f : Nat → Int) (N : Int) (n : Nat) (ln : Nat → Nat) (V : Nat → Nat → Int) (w : World) (e : Ending) (w' : World) : Prop :=
  Below w.heap.size w w'/\∃ u,FirstErr (CodeErrs P M k f N n ln V) u /\
    ((u≠0/\e=.returned (.tuple #[.slice none 0 0,.int .i64 u])) ∨
     (u=0/\∃ P' M' N':Nat,P=P'/\M=M'/\N=N'/\∃ g F pv R,e=.returned (.tuple #[.slice (some ⟨g,0,none⟩) n n,.int .i64 0])/\w.heap.size<=g/\IntTab w' g (g+1) n F (fun _=>N') (fun i j=>((R i j:Nat):Int)) /\
       SpanF (P' ^ M') n N' pv R/\SameSp (P' ^ M') (addF P' M') (mulF P' M' fun i=>(f i).toNat) N' n n (natT V) R/\∀ i j,i<j->j<n->lE (R i) N'≠lE (R j) N'))
theorem ziT (P M:Int) (A:Option Addr) (k c:Nat) (f:Nat->Int) (N:Int) (TC:Option Addr) (n d:Nat) (ln:Nat->Nat) (V:Nat->Nat->Int) (w:World) (hr:IntsR w w.heap.size A k f) (h:IntRows w TC n ln V) :
  Calls Tryz.prog 73 #[.agg #[.int .i64 P,.int .i64 M,.slice A k c,.int .i64 N,.slice TC n d]] w (SpansPost P M k f N n ln V w):=by
 have HI:=hid hr
 have HT:=hid h
 clear hr h
 obtain ⟨w1,bi,hB,rf⟩:=zaE w (.int .i64 P) (.int .i64 M) (.slice A k c) (.int .i64 N) (.slice TC n d) 27
 go_enter Tryz.func73, Tryz.ntmps73
 go_upto_region 1 with fail
 rw [<-bi];clear bi
 obtain ⟨b0,b8⟩:=exx w.heap.size
 rw [<-b8] at rf;rw [<-b8];clear b8
 have O:Hid (∀ X,Below w1.heap.size w1 X->(X.cell? ⟨b0,0,none⟩=some (.int .i64 P)/\X.cell? ⟨b0,1,none⟩=some (.int .i64 M)/\X.cell? ⟨b0,2,none⟩=some (.slice A k c)/\X.cell? ⟨b0,3,none⟩=some (.int .i64 N)/\X.cell? ⟨b0,4,none⟩=some (.slice TC n d))):=hid fun X hx =>
  ⟨(zab rf hx).cell (i:=0) (by omega),(zab rf hx).cell (i:=1) (by omega),(zab rf hx).cell (i:=2) (by omega),(zab rf hx).cell (i:=3) (by omega),(zab rf hx).cell (i:=4) (by omega)⟩
 have HB:=hid hB
 clear hB rf
 obtain ⟨q0,q1,q2,q3,q4⟩:=O.out _ (Below.refl _ _)
 go_wp2_with fail
 refine (zeK P M A k c f N TC n d ln V w1 (HI.out.on HB.out) (HT.out.on HB.out)).mono ?_
 rintro e w2 ⟨u,rfl,hu,kb⟩
 have HU:=hid hu
 have KB:=hid kb
 clear kb hu q0 q1 q2 q3 q4
 by_cases hu0:u=0
 rotate_left
 ·have bj:(u != 0)=true:=by simpa using hu0
  have cn:=hid hu0
  clear hu0
  go_wp2
  go_ret2
  exact ⟨onS HB.out KB.out,u,HU.out,.inl ⟨cn.out,rfl⟩⟩
 subst hu0
 have bj:((0:Int) != 0)=false:=by simp
 obtain ⟨P',M',N',rfl,rfl,rfl,hC⟩:=zbM HI.out HT.out HU.out
 have HC:=hid hC
 have cg:=hC.ln2
 have cw:=hC.n_le
 clear hC
 obtain ⟨q0,q1,q2,q3,q4⟩:=O.out _ KB.out
 go_wp2_with fail
 refine (zck (P':Int) (M':Int) A k c f w2 (HI.out.on (onS HB.out KB.out))).mono ?_
 rintro e w3 ⟨kb,ag⟩
 rcases ag with ⟨b7,_⟩ | ⟨_,gf,P2,M2,cf,ci,rfl,_,hG⟩
 ·refine absurd ?_ b7
  rcases HU.out with ⟨_,h9⟩ | ⟨h1,_⟩
  ·cases h9
  ·exact h1
 obtain rfl:P'=P2:=by omega
 obtain rfl:M'=M2:=by omega
 have HG:=hid hG.gf
 have ar:=hid (onS HB.out (onS KB.out kb))
 replace KB:=hid (onS KB.out kb);clear kb q0 q1 q2 q3 q4 cf ci hG bj
 obtain ⟨q0,q1,q2,q3,q4⟩:=O.out _ KB.out
 have bm:=fun W=>zag (P:=Tryz.prog) 25 22 _ 24 Tryz.underlying25 Tryz.infoInts rfl (n:Int) (by omega) (by omega) (by omega) W
 simp only [Int.toNat_natCast] at bm
 go_upto_region 6 with fail
 clear q0 q1 q2 q3 q4
 have rz:World.rowIs (World.alloc w3 (Obj.cells (madeCells #[Value.slice none 0 0] n) 22)) w3.heap.size 22 n (fun _=>.slice none 0 0):=World.rowIs_made _ (.slice none 0 0) n 22
 have kb:=aly w3 (Obj.cells (madeCells #[Value.slice none 0 0] n) 22)
 have az:(World.alloc w3 (Obj.cells (madeCells #[Value.slice none 0 0] n) 22)).heap.size=w3.heap.size+1:=by simp
 obtain ⟨w4,bh⟩:=exx (World.alloc w3 (Obj.cells (madeCells #[Value.slice none 0 0] n) 22))
 rw [<-bh] at rz kb az ⊢
 have K7:=hid kb
 have ah:w.heap.size<=w3.heap.size:=ar.out.size
 obtain ⟨lt,b2⟩:=exx w3.heap.size
 rw [<-b2] at rz az ah ⊢
 have am:Hid (lt=w3.heap.size):=hid b2
 have b:Hid (IntTab w4 lt (lt+1) n (fun _=>.slice none 0 0) (fun v=>if v<0 then N' else 0) (fun i j=>((natT V i j:Nat):Int))):=hid ((zfs (x:=fun i j=>((natT V i j:Nat):Int)) rz).congr (fun v _=>by rw [if_neg (by omega)]) fun v _ k _=>rfl)
 have E:lt+1<=w4.heap.size:=by omega
 clear rz kb az bh bm b2
 obtain ⟨q0,q1,q2,q3,q4⟩:=O.out _ (onS KB.out K7.out)
 go_upto_region 7 with fail
 clear q0 q1 q2 q3 q4
 go_loopg [38] n (fun gg iv wx=>∃ (i:Nat) (F:Nat->Value),iv=.int .i64 (i:Nat)/\i<=n/\n<=i+gg/\Hid (IntTab wx lt (lt+1) n F (fun v=>if v<i then N' else 0) (fun i j=>((natT V i j:Nat):Int)))/\lt+1<=wx.heap.size/\Below w3.heap.size w3 wx)
 case atStart=>exact ⟨0,_,rfl,by omega,by omega,b,E,K7.out⟩
 clear b K7 E
 obtain ⟨i,F,rfl,hi,bn,b,a,z⟩:=hrel
 have bp:(0:Int)<=(i:Int):=by omega
 have K7:=hid z
 obtain ⟨w8,c6⟩:=exx wr
 subst c6
 clear z
 by_cases s:i<n
 ·have a0:(i:Int)<(n:Int):=by omega
  obtain ⟨pb,po,RA,rc,ce,_,x0,cd,d1,ab,b1⟩:=HC.out.rows i s
  subst ce
  replace x0:=cellS (onS ar.out K7.out) x0
  have be:=hid ab
  clear ab b1
  go_wp2_with fail
  clear x0
  refine (zay RA N' rc (fun j=>((natT V i j:Nat):Int)) w8 (be.out.on (onS ar.out K7.out)) cd (by omega)).mono ?_
  rintro e w9 ⟨SA,sc,rfl,hO,kb⟩
  have hn:=b.out.fresh (by omega) a kb s (y:=fun j=>((natT V i j:Nat):Int)) hO
  have r0:=(b.out.on kb).row.cell s
  have z0:=(b.out.on kb).row.frozen i
  have au:=(onS K7.out kb).setCell (p:=⟨lt,i,none⟩) (by have:=am.out; show _<=lt; omega) (.slice SA N' sc)
  have bk:lt+1<=(w9.setCell ⟨lt,i,none⟩ (.slice SA N' sc)).heap.size:=by rw [World.size_setCell]; exact Nat.le_trans a kb.size
  obtain ⟨w10,D⟩:=exx (w9.setCell ⟨lt,i,none⟩ (.slice SA N' sc))
  rw [<-D] at hn au bk
  have HN:=hid (hn.congr (n':=fun v=>if v<i+1 then N' else 0) (x':=fun i j=>((natT V i j:Nat):Int)) (fun v hv=>by
   by_cases e:v=i
   ·rw [if_pos e,if_pos (by omega)]
   ·have h1:(v<i)↔(v<i+1):=by omega
    simp only [if_neg e,h1]) fun v hv k hk=>by
   by_cases e:v=i
   ·rw [if_pos e,e]
   ·rw [if_neg e])
  have K9:=hid au
  have aj:=hid D
  clear hn kb au hO D
  go_upto_region 10 with fail
  rw [<-aj.out];clear r0 z0 aj
  go_wp2
  go_roundg (gk - 1)
  case measure=>omega
  case rel=>exact ⟨i+1,_,by go_num,by omega,by omega,HN,bk,K9.out⟩
 have a0:¬ (i:Int)<(n:Int):=by omega
 obtain rfl:i=n:=by omega
 have bw:Hid (IntTab w8 lt (lt+1) i F (fun _=>N') (fun u j=>((natT V u j:Nat):Int))):=hid (b.out.congr (fun v hv=>if_pos hv) fun v _ k _=>rfl)
 clear b s hi bn bp
 obtain ⟨n,hn⟩:=exx i
 subst hn
 obtain ⟨pv,hE⟩:=HC.out.rref
 have l:=hid hE.spanF
 have hL:=fieldLaws HC.out.fld
 have ac:∀ x,x<P' ^ M'->negF P' M' x<P' ^ M'/\addF P' M' x (negF P' M' x)=0:=fun x _=>⟨zby (by have:=HC.out.fld.1.1; omega),zbq (by have:=HC.out.fld.1.1; omega)⟩
 have HL:=hid hL
 have cp:=hid ac
 have B:Hid (SameSp (P' ^ M') (addF P' M') (mulF P' M' fun i=>(f i).toNat) N' n n (natT V) (natT V)):=hid fun _=>Iff.rfl
 clear hE hL ac
 go_upto_region 12 with fail
 clear a0
 go_loopg [10] (n*N'+1) (fun gg cv wx=>∃ (ch:Bool) (R:Nat->Nat->Nat),cv=.bool ch/\Hid ((ch=true/\mesL R N' n<gg)∨(ch=false/\∀ i j,i<j->j<n->lE (R i) N'≠lE (R j) N'))/\Hid (SpanF (P' ^ M') n N' pv R)/\Hid (SameSp (P' ^ M') (addF P' M') (mulF P' M' fun i=>(f i).toNat) N' n n (natT V) R)/\Hid (IntTab wx lt (lt+1) n F (fun _=>N') (fun u j=>((R u j:Nat):Int)))/\lt+1<=wx.heap.size/\Below w3.heap.size w3 wx)
 case atStart=>exact ⟨true,natT V,rfl,.inl ⟨rfl,by have:=zjw (R:=natT V) (N:=N') n; omega⟩,l,B,bw,a,K7.out⟩
 clear l B bw K7 a
 obtain ⟨ch,R,rfl,C,l,B,b,a,z⟩:=hrel
 have K7:=hid z
 obtain ⟨w9,c5⟩:=exx wr
 subst c5
 clear z
 cases ch with
 | false =>
  have HD:Hid (∀ i j,i<j->j<n->lE (R i) N'≠lE (R j) N'):=hid (C.out.elim (fun h=>(nomatch h.1)) fun h=>h.2)
  go_wp2
  go_ret2
  exact ⟨onS ar.out K7.out,0,HU.out,.inr ⟨rfl,P',M',N',rfl,rfl,rfl,lt,F,pv,R,rfl,ah,b.out,l.out,B.out,HD.out⟩⟩
 | true =>
  have c9:mesL R N' n<gk:=C.out.elim (fun h=>h.2) fun h=>(nomatch h.1)
  obtain ⟨m0,ae⟩:=exx (mesL R N' n)
  rw [<-ae] at c9
  have c1:Hid (mesL R N' n<=m0):=hid (by omega)
  clear C ae
  obtain ⟨gO,cc⟩:=exx gk
  subst cc
  go_upto_region 15 with fail
  go_loopg [10,52] n (fun gg cv jv wx=>∃ (ch:Bool) (j:Nat) (R:Nat->Nat->Nat),cv=.bool ch/\jv=.int .i64 (j:Nat)/\j<=n/\n<=j+gg/\Hid ((ch=true/\mesL R N' n<m0)∨(ch=false/\mesL R N' n<=m0/\∀ i j',i<j'->j'<j->lE (R i) N'≠lE (R j') N'))/\Hid (SpanF (P' ^ M') n N' pv R)/\Hid (SameSp (P' ^ M') (addF P' M') (mulF P' M' fun i=>(f i).toNat) N' n n (natT V) R)/\Hid (IntTab wx lt (lt+1) n F (fun _=>N') (fun u j=>((R u j:Nat):Int)))/\lt+1<=wx.heap.size/\Below w3.heap.size w3 wx)
  case atStart=>exact ⟨false,0,R,rfl,rfl,by omega,by omega,.inr ⟨rfl,c1.out,fun _ _ _ h=>absurd h (by omega)⟩,l,B,b,a,K7.out⟩
  case round =>
   clear l B b K7 a c1
   obtain ⟨ch,j,R,rfl,rfl,hj,cz,C,l,B,b,a,z⟩:=hrel
   have d0:(0:Int)<=(j:Int):=by omega
   have K7:=hid z
   obtain ⟨w10,D⟩:=exx wr
   subst D
   clear z
   by_cases hjn:j<n
   ·have b4:(j:Int)<(n:Int):=by omega
    have Y:=l.out.pos hjn
    obtain ⟨rb,ro,rd,hF,_,_,_,_⟩:=b.out.at (v:=j) hjn (k:=pv j) (l.out.pvlt j hjn)
    have c0:=b.out.row.cell hjn
    rw [hF] at c0
    have r:=b.out.own j hjn
    rw [hF] at r
    have ak:Hid (IntsR w10 w10.heap.size (some ⟨rb,ro,none⟩) N' (fun k=>((R j k:Nat):Int))):=hid (r.rd rfl)
    clear r
    go_wp2_with fail
    clear c0
    refine (zea (some ⟨rb,ro,none⟩) N' rd (R j) w10 ak.out (by omega)).mono ?_
    rintro e w11 ⟨rfl,kb⟩
    obtain ⟨t,ht⟩:∃ t:Nat,lE (R j) N'=(t:Nat):=⟨(lE (R j) N').toNat,by omega⟩
    have ao:t<N':=(zkx N' t ht).1
    have bq:=l.out.first hjn
    rw [ht,bq]
    have T:=hid ht
    have m:=hid (b.out.on kb)
    replace K7:=hid (onS K7.out kb)
    have g:lt+1<=w11.heap.size:=Nat.le_trans a kb.size
    have an:=hid hF
    clear kb b ak ht bq hF Y a
    obtain ⟨gP,cb⟩:=exx gk
    subst cb
    go_upto_region 19 with fail
    have q:Hid ((ch=true/\mesL R N' n<m0)∨(ch=false/\mesL R N' n<=m0/\(∀ i j',i<j'->j'<j->lE (R i) N'≠lE (R j') N')/\∀ i,i<0->lE (R i) N'≠(t:Int))):=hid (by
     rcases C.out with h | ⟨h1,h2,h3⟩
     ·exact .inl h
     ·exact .inr ⟨h1,h2,h3,fun _ h=>absurd h (by omega)⟩)
    clear C
    go_loopg [10,64] j (fun gg cv iv wx=>∃ (ch:Bool) (i:Nat) (R:Nat->Nat->Nat),cv=.bool ch/\iv=.int .i64 (i:Nat)/\i<=j/\j<=i+gg/\Hid ((ch=true/\mesL R N' n<m0)∨(ch=false/\mesL R N' n<=m0/\(∀ i j',i<j'->j'<j->lE (R i) N'≠lE (R j') N')/\∀ i',i'<i->lE (R i') N'≠(t:Int)))/\Hid (lE (R j) N'=(t:Int))/\Hid (SpanF (P' ^ M') n N' pv R)/\Hid (SameSp (P' ^ M') (addF P' M') (mulF P' M' fun i=>(f i).toNat) N' n n (natT V) R)/\Hid (IntTab wx lt (lt+1) n F (fun _=>N') (fun u j=>((R u j:Nat):Int)))/\lt+1<=wx.heap.size/\Below w3.heap.size w3 wx)
    case atStart=>exact ⟨ch,0,R,rfl,rfl,by omega,by omega,q,T,l,B,m,g,K7.out⟩
    case round =>
     clear l B m K7 g q T
     obtain ⟨ch,i,R,rfl,rfl,hi,bn,C,T,l,B,b,a,z⟩:=hrel
     have bp:(0:Int)<=(i:Int):=by omega
     have K7:=hid z
     obtain ⟨w12,ax⟩:=exx wr
     subst ax
     clear z
     by_cases hij:i<j
     ·have b5:(i:Int)<(j:Int):=by omega
      have s:i<n:=by omega
      have a0:(i:Int)<(n:Int):=by omega
      obtain ⟨ib,io,id,aq,bo,_,_,_⟩:=b.out.at (v:=i) s (k:=pv i) (l.out.pvlt i s)
      have c0:=b.out.row.cell s
      rw [aq] at c0
      have r:=b.out.own i s
      rw [aq] at r
      have ak:Hid (IntsR w12 w12.heap.size (some ⟨ib,io,none⟩) N' (fun k=>((R i k:Nat):Int))):=hid (r.rd rfl)
      clear r
      go_wp2_with fail
      clear c0
      refine (zea (some ⟨ib,io,none⟩) N' id (R i) w12 ak.out (by omega)).mono ?_
      rintro e w13 ⟨rfl,kb⟩
      have br:=l.out.first s
      rw [br]
      have Y:=l.out.pos s
      obtain ⟨li,af⟩:=exx (lE (R i) N')
      rw [<-af]
      have m:=hid (b.out.on kb)
      replace K7:=hid (onS K7.out kb)
      have g:lt+1<=w13.heap.size:=Nat.le_trans a kb.size
      have a6:=hid aq
      clear kb b ak br aq Y a
      by_cases hlt':li=(t:Int)
      rotate_left
      ·have ad:(li != (t:Int))=true:=by simpa using hlt'
       have q:Hid ((ch=true/\mesL R N' n<m0)∨(ch=false/\mesL R N' n<=m0/\(∀ i j',i<j'->j'<j->lE (R i) N'≠lE (R j') N')/\∀ i',i'<i+1->lE (R i') N'≠(t:Int))):=hid (by
        rcases C.out with h | ⟨h1,h2,h3,h4⟩
        ·exact .inl h
        ·exact .inr ⟨h1,h2,h3,fun i' h=>by
          by_cases e:i'=i
          ·rw [e,<-af]; exact hlt'
          ·exact h4 i' (by omega)⟩)
       clear af hlt' C
       go_wp2
       go_roundg (gk - 1)
       case measure=>omega
       case rel=>exact ⟨ch,i+1,R,rfl,by go_num,by omega,by omega,q,T,l,B,m,g,K7.out⟩
      ·have ad:(li != (t:Int))=false:=by simpa using hlt'
       have c2:Hid (lE (R i) N'=(t:Int)):=hid (af.symm.trans hlt')
       subst hlt'
       have c8:Hid (mesL R N' n<=m0):=hid (by
        rcases C.out with ⟨_,h⟩ | ⟨_,h,_⟩
        ·omega
        ·exact h)
       clear af C
       have x0:=(m.out.row).cell s
       rw [a6.out] at x0
       have y0:=(m.out.row).cell hjn
       rw [an.out] at y0
       have H:=m.out.own i s
       rw [a6.out] at H
       have Z:=m.out.own j hjn
       rw [an.out] at Z
       have x1:=(show IntsR w13 w13.heap.size (some ⟨ib,io,none⟩) N' (fun k=>((R i k:Nat):Int)) from H.rd rfl).here ao
       have y1:=(show IntsR w13 w13.heap.size (some ⟨rb,ro,none⟩) N' (fun k=>((R j k:Nat):Int)) from Z.rd rfl).here ao
       clear H Z
       obtain ⟨xv,Q⟩:=exx (R i t)
       obtain ⟨yv,G⟩:=exx (R j t)
       have aa:xv<P' ^ M':=by rw [Q]; exact l.out.lt i s t ao
       have a9:yv<P' ^ M':=by rw [G]; exact l.out.lt j hjn t ao
       have bg:yv≠0:=by rw [G]; exact (zkx N' t T.out).2
       rw [<-Q] at x1;rw [<-G] at y1
       have bv:=hid Q
       have bu:=hid G
       clear Q G
       have c7:(0:Int)<=(t:Int):=by omega
       have ay:(t:Int)<(N':Int):=by omega
       go_upto_region 23 with fail
       refine wp_region_held_drew (S:=fun X=>X.cell? ⟨lt,i,none⟩=some (.slice (some ⟨ib,io,none⟩) N' id)/\X.cell? ⟨lt,j,none⟩=some (.slice (some ⟨rb,ro,none⟩) N' rd)/\X.cell? ⟨ib,io+t,none⟩=some (.int .i64 (xv:Nat))/\X.cell? ⟨rb,ro+t,none⟩=some (.int .i64 (yv:Nat))) (by kernel_rfl) ⟨cellS (Below.refl _ _).drew x0,cellS (Below.refl _ _).drew y0,cellS (Below.refl _ _).drew x1,cellS (Below.refl _ _).drew y1⟩ (fun hHeld=>?_)
       obtain ⟨w14,hw,kb⟩:=dwx w13
       rw [<-hw] at hHeld ⊢;clear hw
       have HX:Hid (∀ X,Below w14.heap.size w14 X->X.cell? ⟨lt,i,none⟩=some (.slice (some ⟨ib,io,none⟩) N' id)/\X.cell? ⟨lt,j,none⟩=some (.slice (some ⟨rb,ro,none⟩) N' rd)/\X.cell? ⟨ib,io+t,none⟩=some (.int .i64 (xv:Nat))/\X.cell? ⟨rb,ro+t,none⟩=some (.int .i64 (yv:Nat))):=hid fun X hx=>⟨cellS hx (cellS kb x0),cellS hx (cellS kb y0),cellS hx (cellS kb x1),cellS hx (cellS kb y1)⟩
       have J:=hid (m.out.on kb)
       replace K7:=hid (onS K7.out kb)
       have o:lt+1<=w14.heap.size:=Nat.le_trans g kb.size
       clear kb x0 y0 x1 y1 m g
       refine tkq 0 (h:=tkq 1 (h:=tkq 2 (h:=tkq 3 (h:=tkq 4 (h:=tkq 5 (h:=tkq 6 (h:=tkq 7 (h:=tkq 8 (h:=tkq 9 (h:=tkq 10 (h:=tkq 11 (h:=tkq 12 (h:=tkq 13 (h:=tkq 14 (h:=?_)))))))))))))))
       clear hHeld
       refine rdq 15 (h:=fun K hK=>?_)
       go_simp
       go_wp2_with fail
       refine (ziS xv yv (HG.out.at K7.out K7.out.size) aa a9 bg).mono ?_
       rintro e w15 ⟨kb,av,rfl,bt,bs⟩
       refine bkq hK (HX.out _ kb) (h:=fun hHeld=>?_)
       clear hK K
       refine tkq 16 (h:=tkq 17 (h:=tkq 18 (h:=tkq 19 (h:=tkq 20 (h:=?_)))))
       refine wpAnyH_done (by kernel_rfl) ?_ _
       clear hHeld;replace J:=hid (J.out.on kb)
       have x0:=(HX.out _ kb).1
       replace K7:=hid (onS K7.out kb);replace o:=Nat.le_trans o kb.size
       have cu:Hid (mulF P' M' (fun i=>(f i).toNat) av (R j t)=R i t):=hid (by rw [<-bv.out,<-bu.out]; exact bs)
       clear HX kb bs bv bu aa a9 bg c7 ay ad
       obtain ⟨gQ,ca⟩:=exx gk
       subst ca
       have a8:Hid (i<n):=hid s
       have ai:Hid (j<n):=hid hjn
       obtain ⟨R1,b9⟩:∃ R1:Nat->Nat->Nat,R1=fun u kk=>if u=i then addF P' M' (R i kk) (negF P' M' (mulF P' M' (fun i=>(f i).toNat) av (R j kk))) else R u kk:=⟨_,rfl⟩
       have al:Hid (∀ kk,R1 i kk=addF P' M' (R i kk) (negF P' M' (mulF P' M' (fun i=>(f i).toNat) av (R j kk)))):=hid fun kk=>by rw [b9]; exact if_pos rfl
       have L:Hid (∀ u,u≠i->R1 u=R u):=hid fun u hu=>by rw [b9]; funext kk; exact if_neg hu
       clear b9
       have bx:Hid (IntTab w15 lt (lt+1) n F (fun _=>N') (fun u kk=>(((if u=i/\kk<0 then R1 i kk else R u kk):Nat):Int))):=hid (J.out.congr (fun _ _=>rfl) fun v _ kk _=>by rw [if_neg (fun h=>absurd h.2 (by omega))])
       go_upto_region 25 with fail
       clear x0 J
       go_loopg [102] N' (fun gg kv wx=>∃ kk:Nat,kv=.int .i64 (kk:Nat)/\kk<=N'/\N'<=kk+gg/\Hid (IntTab wx lt (lt+1) n F (fun _=>N') (fun u x=>(((if u=i/\x<kk then R1 i x else R u x):Nat):Int)))/\lt+1<=wx.heap.size/\Below w3.heap.size w3 wx)
       case atStart=>exact ⟨0,rfl,by omega,by omega,bx,o,K7.out⟩
       case round =>
        clear bx K7 o
        obtain ⟨kk,rfl,hk,cx,b,a,z⟩:=hrel
        have cy:(0:Int)<=(kk:Int):=by omega
        have K7:=hid z
        obtain ⟨w16,aw⟩:=exx wr
        subst aw
        clear z
        by_cases hkN:kk<N'
        ·have b3:(kk:Int)<(N':Int):=by omega
         have x0:=b.out.row.cell a8.out
         rw [a6.out] at x0
         have y0:=b.out.row.cell ai.out
         rw [an.out] at y0
         have H:=b.out.own i a8.out
         rw [a6.out] at H
         have Z:=b.out.own j ai.out
         rw [an.out] at Z
         have x1:=(show IntsR w16 w16.heap.size (some ⟨ib,io,none⟩) N' (fun x=>(((if i=i/\x<kk then R1 i x else R i x):Nat):Int)) from H.rd rfl).here hkN
         have y1:=(show IntsR w16 w16.heap.size (some ⟨rb,ro,none⟩) N' (fun x=>(((if j=i/\x<kk then R1 i x else R j x):Nat):Int)) from Z.rd rfl).here hkN
         rw [if_neg (fun h=>absurd h.2 (by omega))] at x1
         rw [if_neg (fun h=>absurd h.1 (by omega))] at y1
         have b6:lt+1<=ib:=(H.lt ib rfl).1
         have cl:Hid (∀ X,Below w16.heap.size w16 X->X.frozen? ⟨ib,io+kk,none⟩=false):=hid fun X hx=>(H.on hx).frozen _
         have ad:ib≠rb:=fun e=>by
          rcases b.out.apart i j a8.out ai.out (by omega) with h1 | h1
          ·rw [a6.out] at h1; cases h1
          ·rw [a6.out,an.out,e] at h1; exact h1 rfl
         have cq:Hid (lt≠ib/\rb≠ib):=hid ⟨by omega,fun e=>ad e.symm⟩
         have bf:Hid (w3.heap.size<=ib):=hid (by have:=am.out; omega)
         clear H Z ad b6
         obtain ⟨xv,Q⟩:=exx (R i kk)
         obtain ⟨yv,G⟩:=exx (R j kk)
         have aa:xv<P' ^ M':=by rw [Q]; exact l.out.lt i a8.out kk hkN
         have a9:yv<P' ^ M':=by rw [G]; exact l.out.lt j ai.out kk hkN
         have a7:=al.out kk
         rw [<-Q] at x1 a7;rw [<-G] at y1 a7
         obtain ⟨mv,ap⟩:=exx (mulF P' M' (fun i=>(f i).toNat) av yv)
         have bl:mv<P' ^ M':=by rw [ap]; exact HL.out.mulLt _ _
         rw [<-ap] at a7
         obtain ⟨zv,U⟩:=exx (addF P' M' xv (negF P' M' mv))
         rw [<-U] at a7
         have cs:=hid (zao aa)
         have c3:=hid (zao a9)
         have c4:=hid (zao bt)
         have ct:=hid (zao bl)
         have bz:=hid ap
         have ck:=hid U
         have cm:=hid a7
         clear Q G ap U a7 aa a9 bl
         have a5:Hid (∀ X,Below w16.heap.size w16 X->(X.cell? ⟨lt,i,none⟩=some (.slice (some ⟨ib,io,none⟩) N' id)/\X.cell? ⟨lt,j,none⟩=some (.slice (some ⟨rb,ro,none⟩) N' rd)/\X.cell? ⟨rb,ro+kk,none⟩=some (.int .i64 (yv:Nat)))):=hid fun X hx=>⟨cellS hx x0,cellS hx y0,cellS hx y1⟩
         have ba:Hid (∀ X,Below w16.heap.size w16 X->X.cell? ⟨ib,io+kk,none⟩=some (.int .i64 (xv:Nat))):=hid fun X hx=>cellS hx x1
         clear x0 y0 x1 y1
         go_upto_region 27 with fail
         refine wp_region_held_drew (S:=fun X=>X.cell? ⟨lt,i,none⟩=some (.slice (some ⟨ib,io,none⟩) N' id)/\X.cell? ⟨lt,j,none⟩=some (.slice (some ⟨rb,ro,none⟩) N' rd)/\X.cell? ⟨rb,ro+kk,none⟩=some (.int .i64 (yv:Nat))) (by kernel_rfl) (a5.out _ (Below.refl _ _).drew) (fun hHeld=>?_)
         obtain ⟨w17,hw,kb⟩:=dwx w16
         rw [<-hw] at hHeld ⊢;clear hw
         have K8:=hid kb
         clear kb
         refine tkq 0 (h:=tkq 1 (h:=tkq 2 (h:=tkq 3 (h:=tkq 4 (h:=tkq 5 (h:=tkq 6 (h:=tkq 7 (h:=tkq 8 (h:=tkq 9 (h:=tkq 10 (h:=tkq 11 (h:=tkq 13 (h:=tkq 14 (h:=tkq 15 (h:=tkq 16 (h:=tkq 17 (h:=tkq 18 (h:=tkq 19 (h:=tkq 20 (h:=tkq 21 (h:=?_)))))))))))))))))))))
         clear hHeld
         refine rdq2 12 22 (h:=fun K hK=>?_) (h2:=fun K hK=>?_)
         focus
          have u0:=ba.out _ K8.out
          go_simp
          clear u0
          refine bkq hK (a5.out _ K8.out) (h:=fun hHeld=>?_)
          clear hK K hHeld
          refine rdq 22 (h:=fun K hK=>?_)
          go_simp
          go_wp2_with fail
          refine (zaX (av:Int) (yv:Int) (HG.out.at (onS K7.out K8.out) (onS K7.out K8.out).size)).mono ?_
          rintro e w18 ⟨rfl,kb⟩
          rw [c4.out,c3.out,<-bz.out]
          have K9:=hid (onS K8.out kb)
          clear kb
          refine bkq hK (a5.out _ K9.out) (h:=fun hHeld=>?_)
          clear hK K hHeld K8
         rotate_left
         focus
          go_simp
          go_wp2_with fail
          refine (zaX (av:Int) (yv:Int) (HG.out.at (onS K7.out K8.out) (onS K7.out K8.out).size)).mono ?_
          rintro e w18 ⟨rfl,kb⟩
          rw [c4.out,c3.out,<-bz.out]
          have K9:=hid (onS K8.out kb)
          clear kb
          refine bkq hK (a5.out _ K9.out) (h:=fun hHeld=>?_)
          clear hK K hHeld
          refine rdq 12 (h:=fun K hK=>?_)
          have u0:=ba.out _ K9.out
          go_simp
          clear u0
          refine bkq hK (a5.out _ K9.out) (h:=fun hHeld=>?_)
          clear hK K hHeld K8
         all_goals
          refine rdq 23 (h:=fun K hK=>?_)
          go_simp
          go_wp2_with fail
          refine (ziB (xv:Int) (mv:Int) (HG.out.at (onS K7.out K9.out) (onS K7.out K9.out).size)).mono ?_
          rintro e w19 ⟨rfl,kb⟩
          rw [cs.out,ct.out,<-ck.out]
          have a4:=hid (onS K9.out kb)
          clear kb K9
          refine bkq hK (a5.out _ a4.out) (h:=fun hHeld=>?_)
          clear hK K
          refine tkq 24 (h:=?_)
          clear hHeld
          refine rdq 25 (h:=fun K hK=>?_)
          have u0:=ba.out _ a4.out
          have zf:=cl.out _ a4.out
          go_simp
          clear u0 zf
          have hn:=((b.out.on a4.out).set (v:=i) (k:=kk) (by omega) a8.out hkN a6.out (y:=((zv:Nat):Int))).congr (x':=fun u x=>(((if u=i/\x<kk+1 then R1 i x else R u x):Nat):Int)) (fun _ _=>rfl) fun v _ x _=>by
           by_cases e1:v=i/\x=kk
           ·rw [e1.1,e1.2,zk4,if_pos ⟨rfl,by omega⟩,cm.out]
           ·rw [zhH e1]
            have h1:(v=i/\x<kk)↔(v=i/\x<kk+1):=by omega
            simp only [h1]
          have kb:=(onS K7.out a4.out).setCell (p:=⟨ib,io+kk,none⟩) bf.out (.int .i64 (zv:Nat))
          obtain ⟨a1,a2,a3⟩:=a5.out _ a4.out
          obtain ⟨n1,n2⟩:=cq.out
          replace a1:=zaa (p:=⟨ib,io+kk,none⟩) (u:=.int .i64 (zv:Nat)) a1 n1;replace a2:=zaa (p:=⟨ib,io+kk,none⟩) (u:=.int .i64 (zv:Nat)) a2 n1;replace a3:=zaa (p:=⟨ib,io+kk,none⟩) (u:=.int .i64 (zv:Nat)) a3 n2
          obtain ⟨w20,hw⟩:=exx (w19.setCell ⟨ib,io+kk,none⟩ (.int .i64 (zv:Nat)))
          rw [<-hw] at hn kb a1 a2 a3 ⊢
          have I:lt+1<=w20.heap.size:=by rw [hw]; exact Nat.le_trans a (by rw [World.size_setCell]; exact a4.out.size)
          have HN:=hid hn
          have cj:=hid kb
          clear hn kb hw n1 n2
          refine bkq hK ⟨a1,a2,a3⟩ (h:=fun hHeld=>?_)
          clear hK K a1 a2 a3
          refine wpAnyH_done (by kernel_rfl) ?_ _
          clear hHeld
          go_wp2
          go_roundg (gk - 1)
          case measure=>omega
          case rel=>exact ⟨kk+1,by go_num,by omega,by omega,HN,I,cj.out⟩
        ·have b3:¬ (kk:Int)<(N':Int):=by omega
         obtain rfl:kk=N':=by omega
         obtain ⟨s1,s2,s3⟩:=l.out.step HL.out cp.out hij ai.out c2.out T.out bt cu.out (fun kk _=>al.out kk) L.out
         have bd:=hid s1
         have bc:Hid (SameSp (P' ^ M') (addF P' M') (mulF P' M' fun i=>(f i).toNat) kk n n (natT V) R1):=hid fun x=>(B.out x).trans (s2 x)
         have cr:Hid (mesL R1 kk n<m0):=hid (Nat.lt_of_lt_of_le (zjx L.out (by rw [c2.out]; exact s3) n a8.out) c8.out)
         have bb:Hid (lE (R1 j) kk=(t:Int)):=hid (by rw [L.out j (by omega)]; exact T.out)
         have co:Hid (IntTab w16 lt (lt+1) n F (fun _=>kk) (fun u x=>((R1 u x:Nat):Int))):=hid (b.out.congr (fun _ _=>rfl) fun v _ x hx=>by
          by_cases e:v=i
          ·rw [e,if_pos ⟨rfl,hx⟩]
          ·rw [if_neg (fun h=>e h.1),L.out v e])
         clear s1 s2 s3
         go_wp2
         go_roundg (gQ - 1)
         case measure=>omega
         case rel=>exact ⟨true,i+1,R1,rfl,by go_num,by omega,by omega,.inl ⟨rfl,cr.out⟩,bb,bd,bc,co,a,K7.out⟩
     ·have b5:¬ (i:Int)<(j:Int):=by omega
      obtain rfl:i=j:=by omega
      have q:Hid ((ch=true/\mesL R N' n<m0)∨(ch=false/\mesL R N' n<=m0/\∀ i1 j',i1<j'->j'<i+1->lE (R i1) N'≠lE (R j') N')):=hid (by
       rcases C.out with h | ⟨h1,h2,h3,h4⟩
       ·exact .inl h
       ·exact .inr ⟨h1,h2,fun i1 j' h5 h6=>by
         by_cases e:j'=i
         ·rw [e,T.out]; exact h4 i1 (by omega)
         ·exact h3 i1 j' h5 (by omega)⟩)
      go_wp2
      go_roundg (gP - 1)
      case measure=>omega
      case rel=>exact ⟨ch,i+1,R,rfl,by go_num,by omega,by omega,q,l,B,b,a,K7.out⟩
   ·have b4:¬ (j:Int)<(n:Int):=by omega
    obtain rfl:j=n:=by omega
    have q:Hid ((ch=true/\mesL R N' j<gO - 1)∨(ch=false/\∀ i j',i<j'->j'<j->lE (R i) N'≠lE (R j') N')):=hid (by
     rcases C.out with ⟨h,h2⟩ | ⟨h1,h2,h3⟩
     ·exact .inl ⟨h,by omega⟩
     ·exact .inr ⟨h1,h3⟩)
    go_wp2
    go_roundg (gO - 1)
    case measure=>omega
    case rel=>exact ⟨ch,R,rfl,q,l,B,b,a,K7.out⟩
def ltE (x y:Int × Int × Int):Prop:=x.1<y.1∨x.1=y.1/\x.2.1<y.2.1
def edgeCell (x:Nat->Int × Int × Int) (i j:Nat):Value:=if j=0 then .int .i64 (x i).1 else if j=1 then .int .i64 (x i).2.1 else .int .i64 (x i).2.2
theorem zdp (x:Nat->Int × Int × Int) (i j:Nat):(edgeCell x i j).oneCell'=true:=by
 unfold edgeCell
 split
 ·rfl
 ·split <;> rfl
theorem Tryz.infoEdge:(Tryz.prog.info? 90).map (fun i=>(i.zero,i.size,i.bytes))=some (some (.agg #[.int .i64 0,.int .i64 0,.int .i64 0]),3,24):=by kernel_rfl
theorem Tryz.infoEdges:(Tryz.prog.info? 86).map (fun i=>(i.zero,i.size,i.bytes))=some (some (.slice none 0 0),1,24):=by kernel_rfl
theorem zf1 {w:World} {base b e s:Nat} {f:Nat->Nat->Value} (hb:base<=b) (h:w.heap[b]?=some (.cells #[] e (0,0))):Own w base e s (.slice (some ⟨b,0,none⟩) 0 0) 0 f :=
 .inr ⟨b,0,0,#[],rfl,hb,h,Nat.le_refl _,by unfold maxLen; omega,by simp,fun i hi=>absurd hi (by omega)⟩
theorem zad {w:World} {base b n n' s:Nat} {t e:TypeId} {F:Nat->Value} {v:Value} {f:Nat->Nat->Value} (h:w.rowIs b t n F) (h':Own w base e s v n' f) (hne:t≠e):v.ownBlock≠some b:=by
 rcases h' with ⟨rfl,_⟩ | ⟨g',o',cap',cur',rfl,_,a,_⟩
 ·simp [Value.ownBlock]
 intro e1
 simp [Value.ownBlock] at e1
 subst e1
 obtain ⟨cs,h1,_⟩:=h
 rw [a] at h1
 injection h1 with h1
 injection h1 with _ h1
 exact hne h1.symm
theorem za3 {w:World} {ops:Array Oper} {rest:List Oper} {o:Oper} {a:Act} {Q:Exit->Act->World->Prop} (hgd:o.guard=none) (sl x:Operand)
  (ho:o.op=.call { callee:=.builtin .append,args:=#[sl,x],argTypes:=#[22, 22] })
  {base:Nat} {v:Value} {k:Nat} {f:Nat->Int} (h:Own w base 3 1 v k (fun i _=>.int .i64 (f i))) (hv:a.eval sl=v) {ad:Addr} {c:Nat} (hx:a.eval x=.slice (some ad) 1 c)
  (hcell:w.cell? (ad.add 0)=some (.int .i64 (f k))) (hbase:base<=w.heap.size) (hN:k<=1048576)
  (K:∀ v' w',Own w' base 3 1 v' (k+1) (fun i _=>.int .i64 (f i))->w.grownBy w' v.ownBlock->(v'.ownBlock=v.ownBlock∨v'.ownBlock=some w.heap.size)->wpList Tryz.prog ops Q rest (a.put o.dst v') w'):wpList Tryz.prog ops Q (o :: rest) a w:=by
 obtain ⟨i0,qi0,qz0,qz1,qz2⟩:=info_parts Tryz.infoInt
 refine zah w hgd sl x _ ho base 3 i0 _ 1 8 Tryz.underlying22 qi0 qz0 qz1 qz2 rfl (by omega) v k _ hv h ad c hx (fun j hj=>by
   obtain rfl:j=0:=by omega
   exact hcell) (fun _ _=>rfl) (by unfold maxLen; omega) (by omega) hbase ?_
 intro v' w3 hown3 hg3 hat3
 exact K v' w3 hown3 hg3 hat3
theorem zcH {w:World} {ops:Array Oper} {rest:List Oper} {o:Oper} {a:Act} {Q:Exit->Act->World->Prop} (hgd:o.guard=none) (sl x:Operand)
  (ho:o.op=.call { callee:=.builtin .append,args:=#[sl,x],argTypes:=#[86, 86] })
  {base:Nat} {v:Value} {k:Nat} {f:Nat->Int × Int × Int} (h:Own w base 90 3 v k (edgeCell f)) (hv:a.eval sl=v) {ad:Addr} {c:Nat} (hx:a.eval x=.slice (some ad) 1 c)
  (hcell:∀ j,j<3->w.cell? (ad.add j)=some (edgeCell f k j)) (hbase:base<=w.heap.size) (hN:k<=1048576)
  (K:∀ v' w',Own w' base 90 3 v' (k+1) (edgeCell f)->w.grownBy w' v.ownBlock->(v'.ownBlock=v.ownBlock∨v'.ownBlock=some w.heap.size)->wpList Tryz.prog ops Q rest (a.put o.dst v') w'):wpList Tryz.prog ops Q (o :: rest) a w:=by
 obtain ⟨i0,qi0,qz0,qz1,qz2⟩:=info_parts Tryz.infoEdge
 exact zah w hgd sl x _ ho base 90 i0 _ 3 24 Tryz.underlying86 qi0 qz0 qz1 qz2 rfl (by omega) v k _ hv h ad c hx hcell (fun _ _=>zdp _ _ _) (by unfold maxLen; omega) (by omega) hbase K
theorem zaZ {w:World} {ops:Array Oper} {o:Oper} {a:Act} {K:Act->World->Prop} {Q:Exit->Act->World->Prop} {E:Prop} (hgd:o.guard=none) (sl x:Operand)
  (ho:o.op=.call { callee:=.builtin .append,args:=#[sl,x],argTypes:=#[86, 86] })
  {base:Nat} {v:Value} {k:Nat} {f:Nat->Int × Int × Int} (h:Own w base 90 3 v k (edgeCell f)) (hv:a.eval sl=v) {ad:Addr} {c:Nat} (hx:a.eval x=.slice (some ad) 1 c)
  (hcell:∀ j,j<3->w.cell? (ad.add j)=some (edgeCell f k j)) (hbase:base<=w.heap.size) (hN:k<=1048576)
  (K':∀ v' w',Own w' base 90 3 v' (k+1) (edgeCell f)->w.grownBy w' v.ownBlock->(v'.ownBlock=v.ownBlock∨v'.ownBlock=some w.heap.size)->K (a.put o.dst v') w') :
  if Region.wanted o (yielded ops a.tmps)=true then Oper.wp Tryz.prog o a w K Q else E:=by
 obtain ⟨i0,qi0,qz0,qz1,qz2⟩:=info_parts Tryz.infoEdge
 exact zb0 w hgd sl x _ ho base 90 i0 _ 3 24 Tryz.underlying86 qi0 qz0 qz1 qz2 rfl (by omega) v k _ hv h ad c hx hcell (fun _ _=>zdp _ _ _) (by unfold maxLen; omega) (by omega) hbase K'
def ETab (w:World) (base:Nat) (v:Value) (n:Nat) (el:Nat->Nat) (y:Nat->Nat->Int × Int × Int):Prop :=
 ∃ R:Nat->Value,Own w base 86 1 v n (fun i _=>R i)/\∀ i,i<n->Own w base 90 3 (R i) (el i) (edgeCell (y i))
section
variable {w w':World} {base n:Nat} {v:Value} {el:Nat->Nat} {y:Nat->Nat->Int × Int × Int}
theorem ETab.nil (w:World) (base:Nat) (el:Nat->Nat) (y:Nat->Nat->Int × Int × Int):ETab w base (.slice none 0 0) 0 el y:=⟨fun _=>undef,Own.nil _ _ _ _ _,fun i hi=>absurd hi (by omega)⟩
theorem ETab.on (h:ETab w base v n el y) (hb:Below w.heap.size w w'):ETab w' base v n el y:=by
 obtain ⟨R,h1,h2⟩:=h
 exact ⟨R,h1.on hb,fun i hi=>(h2 i hi).on hb⟩
theorem ETab.shape (h:ETab w base v n el y):∃ A c,v=.slice A n c:=h.choose_spec.1.shape
theorem ETab.setCell (h:ETab w base v n el y) {t:TypeId} {m:Nat} {F:Nat->Value} {b i:Nat} (hr:w.rowIs b t m F) (h1:t ≠ 86) (h2:t ≠ 90) (u:Value):ETab (w.setCell ⟨b,i,none⟩ u) base v n el y:=by
 obtain ⟨R,k1,k2⟩:=h
 exact ⟨R,k1.setCell (zad hr k1 h1) u,fun i hi=>(k2 i hi).setCell (zad hr (k2 i hi) h2) u⟩
theorem ETab.congr {el':Nat->Nat} {y':Nat->Nat->Int × Int × Int} (h:ETab w base v n el y) (h1:∀ i,i<n->el i=el' i) (h2:∀ i,i<n->∀ j,j<el i->y i j=y' i j):ETab w base v n el' y':=by
 obtain ⟨R,k1,k2⟩:=h
 refine ⟨R,k1,fun i hi=>?_⟩
 rw [<-h1 i hi]
 exact (k2 i hi).congr fun j hj q _=>by unfold edgeCell; rw [h2 i hi j hj]
theorem zba {ops:Array Oper} {rest:List Oper} {o:Oper} {a:Act} {Q:Exit->Act->World->Prop} (hgd:o.guard=none) (sl x:Operand)
  (ho:o.op=.call { callee:=.builtin .append,args:=#[sl,x],argTypes:=#[51, 51] })
  (h:ETab w base v n el y) (hv:a.eval sl=v) {ad:Addr} {c:Nat} {r:Value} (hx:a.eval x=.slice (some ad) 1 c)
  (hcell:w.cell? (ad.add 0)=some r) (h1:r.oneCell'=true) (hrow:Own w base 90 3 r (el n) (edgeCell (y n))) (hbase:base<=w.heap.size) (hN:n<=1048576)
  (K:∀ v' w',ETab w' base v' (n+1) el y->w.grownBy w' v.ownBlock->wpList Tryz.prog ops Q rest (a.put o.dst v') w'):wpList Tryz.prog ops Q (o :: rest) a w:=by
 obtain ⟨R,hA,hB⟩:=h
 obtain ⟨i0,qi0,qz0,qz1,qz2⟩:=info_parts Tryz.infoEdges
 have ne:(86 : Nat) ≠ 90 := by decide
 have b:Own w base 86 1 v n (fun i _=>if i=n then r else R i):=hA.congr fun i hi _ _=>by rw [if_neg (by omega)]
 refine zah w hgd sl x _ ho base 86 i0 _ 1 24 Tryz.underlying51 qi0 qz0 qz1 qz2 rfl (by omega) v n _ hv b ad c hx (fun j hj=>by
   obtain rfl:j=0:=by omega
   rw [if_pos rfl]
   exact hcell) (fun _ _=>by rw [if_pos rfl]; exact h1) (by unfold maxLen; omega) (by omega) hbase ?_
 intro v' w3 hown3 hg3 _
 refine K v' w3 ⟨fun i=>if i=n then r else R i,hown3,fun i hi=>?_⟩ hg3
 show Own w3 base _ 3 (if i=n then r else R i) _ _
 by_cases e:i=n
 ·subst e
  rw [if_pos rfl]
  exact hrow.kept hg3 (zaQ hA hrow ne)
 ·rw [if_neg e]
  exact (hB i (by omega)).kept hg3 (zaQ hA (hB i (by omega)) ne)
theorem ETab.reads {T:Trel} {wv:Value} (h:ETab w base v T.n T.el fun i j=>(T.fr i j,T.lb i j,T.to i j)) (hA:Own w base 3 1 wv T.nw (fun k _=>.int .i64 (T.W k)))
  (hW:∀ i,i<T.nw->InI64 (T.W i)) (hy:∀ i,i<T.n->∀ j,j<T.el i->InI64 (T.fr i j)/\InI64 (T.lb i j)/\InI64 (T.to i j)) (hnw:T.nw<=140737488351232) (hn:T.n<=140737488351232) (hel:∀ i,i<T.n->T.el i<=140737488351232) :
  ∃ A B c d,wv=.slice A T.nw c/\v=.slice B T.n d/\T.Reads w A B/\T.nw<=c/\c<=maxLen/\T.n<=d/\d<=maxLen:=by
 obtain ⟨R,k1,k2⟩:=h
 obtain ⟨A,c,rfl⟩:=hA.shape
 obtain ⟨B,d,rfl⟩:=k1.shape
 refine ⟨A,B,c,d,rfl,rfl,⟨hA.rd rfl,hW,fun i hi=>?_,hnw,hn,hel⟩,hA.capL.1,hA.capL.2,k1.capL.1,k1.capL.2⟩
 obtain ⟨b,off,e,hb,hc⟩:=k1.rd rfl i hi
 have a:=hc 0 (by omega)
 rw [Nat.mul_one,Nat.add_zero] at a
 have hr:=k2 i hi
 obtain ⟨E,ec,hR⟩:=hr.shape
 rw [hR] at hr
 simp only [hR] at a
 exact ⟨b,off,E,ec,e,hb,a,hr.capL.1,hr.capL.2,hr.rd rfl,hy i hi⟩
end
end Go.Proofs.YtgekjfpapmlndaaGreat