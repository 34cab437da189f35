/- Merged texts of a claim. -/
import Derived.Test.YtgekjfpapmlndaaGreatTM14
import Derived.Test.YtgekjfpapmlndaaGreatTO1
import Derived.SizedLaws
import Derived.Laws.CopyOwn
import Derived.Laws.StructEq
import Derived.Shelf.SlSortCmp.WholeK
import Derived.Shelf.SlSortCmp.Whole1
import Derived.Shelf.SlSortCmp.NoneTotal
import Derived.Shelf.SlicesG.Cmp
import Derived.Ground.SlgcProg
namespace Go.Proofs.YtgekjfpapmlndaaGreat
set_option maxRecDepth 100000
set_option maxHeartbeats 32000000
open Go.RowKit
open Go.ChangeShapes Go.WideShapes Go.ChangeAt
section
variable {H:Type} {enc:TypeId × Value->H} {P:Program} {w:World} {base:Nat} {spare:Nat->Bool} {held:Bool} {cs:List Value} {t e s:Nat}
def SeesW (enc:TypeId × Value->H) (P:Program) (w:World) (base:Nat) (spare:Nat->Bool) (held:Bool) (t:TypeId) (cs:List Value):Prop :=
 ∃ fuel d p,DataW.trod enc P w base spare held fuel t cs=some (d,p)/\∀ x ∈ d.weights P t,x<=140737488351232
theorem SeesW.sees (h:SeesW enc P w base spare held t cs):Sees enc P w base spare held t cs:=by
 obtain ⟨fuel,d,p,h,_⟩:=h
 exact ⟨fuel,(d,p),h⟩
theorem yaz {l:List (DataW H)} {d:DataW H} {x:Nat} (hd:d ∈ l) (hx:x ∈ d.weights P e):x ∈ DataW.weightsAll P e l:=by
 induction l with
 | nil=>cases hd
 | cons a r ih =>
  unfold DataW.weightsAll
  rw [List.mem_append]
  rcases List.mem_cons.1 hd with rfl | h
  ·exact .inl hx
  ·exact .inr (ih h)
theorem yaj (ht:P.underlying t=some (.slice e)) (hC:P.cellsOf e=s) (hs:0<s) {B:Nat} (hB:P.bytesOf e=B) (h:SeesW enc P w base spare held t cs) :
  ∃ (A:Option Addr) (n c:Nat) (f:Nat->Nat->Value),cs=[.slice A n c]/\n<=c/\c<=maxLen/\n*B<=140737488351232/\Rd w w.heap.size A n s f/\∀ i,i<n->SeesW enc P w base spare held e ((List.range s).map (f i)):=by
 obtain ⟨fuel,d,p,h,hw⟩:=h
 rcases Go.Deep.open_slice ht h with ⟨rfl,_⟩ | ⟨a,len,cap,m,n,D,Pl,rfl,hb,hl,hm,hmm,hx,hi⟩
 ·exact ⟨none,0,0,fun _ _=>undef,rfl,Nat.le_refl _,Nat.zero_le _,by omega,fun i hi=>absurd hi (by omega),fun i hi=>absurd hi (by omega)⟩
 ·have hlm:len<=m:=by rw [hmm]; split <;> omega
  have hx1:=congrArg Prod.fst hx
  subst hx1
  have hw1:(len+(m - len))*B<=140737488351232:=hw _ (by unfold DataW.weights; rw [ht]; simp [hB])
  refine ⟨some a,len,cap,fun i j=>(w.cell? (a.add (i*s+j))).getD undef,rfl,hl,hm,Nat.le_trans (Nat.mul_le_mul_right _ (Nat.le_add_right _ _)) hw1,fun i hi'=>?_,fun i hi'=>?_⟩
  ·obtain ⟨cs',hc,_⟩:=hi i (by omega)
   rw [hC] at hc
   obtain ⟨_,hlen,hat⟩:=World.cells?_some hc
   have h0:=hat 0 hs
   rw [List.getElem?_eq_getElem (by omega),Go.Deep.add_add] at h0
   have hlt:=World.block_lt_of_cell? _ _ h0
   obtain ⟨ab,ao,sp⟩:=a
   have hsp0:w.cell? ((⟨ab,ao,sp⟩:Addr).add (i*s+0))=some (cs'[0]'(by omega)):=h0
   by_cases hz:i*s=0
   ·have:(⟨ab,ao,sp⟩:Addr).add (i*s+0)=⟨ab,ao,sp⟩:=by unfold Addr.add; rw [if_pos (by omega)]
    rw [this] at hsp0 hlt
    obtain rfl:sp=none:=World.cell?_spot hsp0
    refine ⟨ab,ao,rfl,hlt,fun j hj=>?_⟩
    have hj':=hat j hj
    rw [Go.Deep.add_add,zcv] at hj'
    show w.cell? ⟨ab,ao+i*s+j,none⟩=some ((w.cell? ((⟨ab,ao,none⟩:Addr).add (i*s+j))).getD undef)
    rw [zcv,hj',List.getElem?_eq_getElem (by omega)]
    rw [show ao+i*s+j=ao+(i*s+j) by omega,hj',List.getElem?_eq_getElem (by omega)]
    rfl
   ·obtain ⟨cs0,hc0,_⟩:=hi 0 (by omega)
    rw [hC] at hc0
    obtain ⟨_,hlen0,hat0⟩:=World.cells?_some hc0
    have k0:=hat0 0 hs
    rw [List.getElem?_eq_getElem (by omega),Go.Deep.add_add] at k0
    have:(⟨ab,ao,sp⟩:Addr).add (0*s+0)=⟨ab,ao,sp⟩:=by unfold Addr.add; rw [if_pos (by omega)]
    rw [this] at k0
    obtain rfl:sp=none:=World.cell?_spot k0
    refine ⟨ab,ao,rfl,World.block_lt_of_cell? _ _ k0,fun j hj=>?_⟩
    have hj':=hat j hj
    rw [Go.Deep.add_add,zcv] at hj'
    show w.cell? ⟨ab,ao+i*s+j,none⟩=some ((w.cell? ((⟨ab,ao,none⟩:Addr).add (i*s+j))).getD undef)
    rw [zcv]
    rw [show ao+i*s+j=ao+(i*s+j) by omega,hj',List.getElem?_eq_getElem (by omega)]
    rfl
  ·obtain ⟨cs',hc,htr⟩:=hi i (by omega)
   rw [hC] at hc
   obtain ⟨_,hlen,hat⟩:=World.cells?_some hc
   refine ⟨n,D i,Pl i,?_,fun x hx=>hw _ (by
    unfold DataW.weights
    rw [ht]
    refine List.mem_cons_of_mem _ (List.mem_append.2 (.inl (yaz (List.mem_map.2 ⟨i,List.mem_range.2 hi',rfl⟩) hx))))⟩
   have:(List.range s).map (fun j=>(w.cell? (a.add (i*s+j))).getD undef)=cs':=by
    apply List.ext_getElem
    ·simp [hlen]
    ·intro j h1 h2
     have:=hat j (by omega)
     rw [Go.Deep.add_add,List.getElem?_eq_getElem h2] at this
     simp [this]
   rw [this]
   exact htr
theorem ybi {fs:Array Field} (ht:P.underlying t=some (.struct fs)) (h:SeesW enc P w base spare held t cs) (i T off m:Nat)
  (hi:∃ f,fs[i]?=some f/\f.type=T/\f.offset=off) (hC:P.cellsOf T=m):SeesW enc P w base spare held T ((cs.drop off).take m):=by
 obtain ⟨f,hf,rfl,rfl⟩:=hi
 subst hC
 obtain ⟨fuel,d,p,h,hw⟩:=h
 obtain ⟨xs,n,_,hx,hlen,hxl,hg⟩:=DataW.trod_struct ht h
 have hlt:i<xs.length:=by rw [hxl]; exact (Array.getElem?_eq_some_iff.1 hf).1
 refine ⟨n,xs[i].1,xs[i].2,(hg i f hf).trans (List.getElem?_eq_getElem hlt),fun x hx2=>hw x ?_⟩
 have hx1:=congrArg Prod.fst hx
 subst hx1
 unfold DataW.weights
 rw [ht]
 refine DataW.weights_mem_each (j:=i) (t:=f.type) (d:=xs[i].1) ?_ ?_ x hx2
 ·simp [hf]
 ·simp [hlt]
end
section
variable {H:Type} {enc:TypeId × Value->H} {w:World} {base:Nat} {spare:Nat->Bool} {held:Bool} {cs:List Value}
theorem ybu (h:Sees enc Tryz.prog w base spare held 90 cs):∃ a b c:Int,cs=[.int .i64 a,.int .i64 b,.int .i64 c]/\InI64 a/\InI64 b/\InI64 c:=by
 obtain ⟨hl,_⟩:=zcT Tryz.underlying90 h
 match cs,hl.trans (show Tryz.prog.cellsOf 90 = 3 by kernel_rfl) with
 | [c0,c1,c2],_ =>
  have hc:Tryz.prog.cellsOf 3 = 1:=by kernel_rfl
  have g0:=zcU Tryz.underlying90 h 0 3 0 1 ⟨_,rfl,rfl,rfl⟩ hc
  have g1:=zcU Tryz.underlying90 h 1 3 1 1 ⟨_,rfl,rfl,rfl⟩ hc
  have g2:=zcU Tryz.underlying90 h 2 3 2 1 ⟨_,rfl,rfl,rfl⟩ hc
  obtain ⟨a,ha,wa⟩:=zcu Tryz.underlying3 g0
  obtain ⟨b,hb,wb⟩:=zcu Tryz.underlying3 g1
  obtain ⟨c,hc,wc⟩:=zcu Tryz.underlying3 g2
  simp at ha hb hc
  subst ha hb hc
  exact ⟨a,b,c,rfl,ziK wa,ziK wb,ziK wc⟩
theorem ybj (h:SeesW enc Tryz.prog w base spare held 86 cs):∃ (A:Option Addr) (n c:Nat) (x y z:Nat->Int),cs=[.slice A n c]/\n<=c/\c<=maxLen/\n<=140737488351232 /\
  Rd w w.heap.size A n 3 (fun j k=>if k=0 then .int .i64 (x j) else if k=1 then .int .i64 (y j) else .int .i64 (z j))/\∀ j,j<n->InI64 (x j)/\InI64 (y j)/\InI64 (z j):=by
 obtain ⟨A,n,c,f,hcs,h1,h2,hn,hr,hf⟩:=yaj (B:=24) Tryz.underlying86 (show Tryz.prog.cellsOf 90 = 3 by kernel_rfl) (by omega) (by kernel_rfl) h
 have key:∀ i,i<n->∃ a b c:Int,(f i 0=.int .i64 a/\f i 1=.int .i64 b/\f i 2=.int .i64 c)/\InI64 a/\InI64 b/\InI64 c:=by
  intro i hi
  obtain ⟨a,b,c,e,wa,wb,wc⟩:=ybu (hf i hi).sees
  have e':[f i 0,f i 1,f i 2]=[.int .i64 a,.int .i64 b,.int .i64 c]:=e
  simp only [List.cons.injEq,and_true] at e'
  exact ⟨a,b,c,e',wa,wb,wc⟩
 refine ⟨A,n,c,fun i=>intOf (f i 0),fun i=>intOf (f i 1),fun i=>intOf (f i 2),hcs,h1,h2,by omega,fun i hi=>?_,fun i hi=>?_⟩
 ·obtain ⟨a,b,c,⟨ea,eb,ec⟩,_⟩:=key i hi
  obtain ⟨bl,off,hA,hb,hc⟩:=hr i hi
  refine ⟨bl,off,hA,hb,fun j hj=>?_⟩
  rw [hc j hj]
  match j,hj with
  | 0,_=>show some (f i 0)=some (Value.int .i64 (intOf (f i 0))); rw [ea]; rfl
  | 1,_=>show some (f i 1)=some (Value.int .i64 (intOf (f i 1))); rw [eb]; rfl
  | 2,_=>show some (f i 2)=some (Value.int .i64 (intOf (f i 2))); rw [ec]; rfl
 ·obtain ⟨a,b,c,⟨ea,eb,ec⟩,wa,wb,wc⟩:=key i hi
  show InI64 (intOf (f i 0))/\InI64 (intOf (f i 1))/\InI64 (intOf (f i 2))
  rw [ea,eb,ec]
  exact ⟨wa,wb,wc⟩
theorem ybv (h:SeesW enc Tryz.prog w base spare held 53 cs):∃ (T:Trel) (A B:Option Addr) (c d:Nat),cs=[.slice A T.nw c,.slice B T.n d]/\T.Reads w A B/\T.nw<=c/\T.n<=d/\c<=maxLen/\d<=maxLen:=by
 obtain ⟨hl,_⟩:=zcT Tryz.underlying53 h.sees
 match cs,hl.trans (show Tryz.prog.cellsOf 53 = 2 by kernel_rfl) with
 | [c0, c1], _ =>
  have g0:=ybi Tryz.underlying53 h 0 22 0 1 ⟨_,rfl,rfl,rfl⟩ (by kernel_rfl)
  have g1:=ybi Tryz.underlying53 h 1 51 1 1 ⟨_,rfl,rfl,rfl⟩ (by kernel_rfl)
  obtain ⟨A,m,c,g,e0,h1,h2,hx,hw⟩:=zez Tryz.underlying22 Tryz.underlying3 (by kernel_rfl) g0.sees
  obtain ⟨_,m2,_,_,e2,_,_,hm8,_⟩:=yaj (B:=8) Tryz.underlying22 (show Tryz.prog.cellsOf 3 = 1 by kernel_rfl) (by omega) (by kernel_rfl) g0
  obtain ⟨B,n,d,f,e1,h3,h4,hn24,hr,hf⟩:=yaj (B:=24) Tryz.underlying51 (show Tryz.prog.cellsOf 86 = 1 by kernel_rfl) (by omega) (by kernel_rfl) g1
  simp at e0 e1 e2
  subst e0 e1
  obtain ⟨_,rfl,_⟩:_/\m=m2/\_:=by simpa using e2
  have key:∀ i,∃ t:Option Addr × Nat × Nat × (Nat->Int) × (Nat->Int) × (Nat->Int),i<n->f i 0=.slice t.1 t.2.1 t.2.2.1/\t.2.1<=t.2.2.1/\t.2.2.1<=maxLen/\t.2.1<=140737488351232 /\
    Rd w w.heap.size t.1 t.2.1 3 (fun j k=>if k=0 then .int .i64 (t.2.2.2.1 j) else if k=1 then .int .i64 (t.2.2.2.2.1 j) else .int .i64 (t.2.2.2.2.2 j))/\∀ j,j<t.2.1->InI64 (t.2.2.2.1 j)/\InI64 (t.2.2.2.2.1 j)/\InI64 (t.2.2.2.2.2 j):=by
   intro i
   by_cases hi:i<n
   ·obtain ⟨E,m',c',x,y,z,e,k1,k2,k5,k3,k4⟩:=ybj (hf i hi)
    have e':[f i 0]=[.slice E m' c']:=e
    simp only [List.cons.injEq,and_true] at e'
    exact ⟨(E,m',c',x,y,z),fun _=>⟨e',k1,k2,k5,k3,k4⟩⟩
   ·exact ⟨(none,0,0,fun _=>0,fun _=>0,fun _=>0),fun h=>absurd h hi⟩
  obtain ⟨t,key⟩:=Classical.axiomOfChoice key
  refine ⟨⟨m,g,n,fun i=>(t i).2.1,fun i=>(t i).2.2.2.1,fun i=>(t i).2.2.2.2.1,fun i=>(t i).2.2.2.2.2⟩,A,B,c,d,rfl,⟨hx,fun i hi=>ziK (hw i hi),fun i hi=>?_,(by show m<=_; omega),(by show n<=_; omega),fun i hi=>(key i hi).2.2.2.1⟩,h1,h3,h2,h4⟩
  obtain ⟨k0,k1,k2,_,k3,k4⟩:=key i hi
  obtain ⟨b,off,e,hb,hc⟩:=hr i hi
  have hc0:=hc 0 (by omega)
  rw [k0] at hc0
  exact ⟨b,off,_,_,e,hb,by simpa using hc0,k1,k2,k3,k4⟩
end
def Trel.outs (T:Trel) (i:Nat) (v:Int) (m:Nat):List Nat:=(List.range m).filter fun j=>T.fr i j == v
def Trel.dn (T:Trel):Nat->Int->List (List Int)
 | 0,_=>[[]]
 | r+1,v=>(T.outs (T.n - (r+1)) v (T.el (T.n - (r+1)))).flatMap fun j=>(T.dn r (T.to (T.n - (r+1)) j)).map fun q=>T.lb (T.n - (r+1)) j :: q
def Trel.ext (T:Trel) (i m:Nat) (x:List Int × Int):List (List Int × Int):=(T.outs i x.2 m).map fun j=>(x.1 ++ [T.lb i j],T.to i j)
def Trel.lev (T:Trel):Nat->List (List Int × Int)
 | 0=>[([],0)]
 | i+1=>(T.lev i).flatMap (T.ext i (T.el i))
theorem Trel.outs_succ (T:Trel) (i:Nat) (v:Int) (m:Nat):T.outs i v (m+1)=T.outs i v m ++ if T.fr i m=v then [m] else []:=by
 unfold Trel.outs
 rw [List.range_succ,List.filter_append]
 by_cases h:T.fr i m=v
 ·simp [h]
 ·simp [h]
theorem Trel.outs_mem {T:Trel} {i m j:Nat} {v:Int}:j ∈ T.outs i v m↔j<m/\T.fr i j=v:=by
 simp [Trel.outs]
theorem Trel.ext_succ (T:Trel) (i m:Nat) (x:List Int × Int):T.ext i (m+1) x=T.ext i m x ++ if T.fr i m=x.2 then [(x.1 ++ [T.lb i m],T.to i m)] else []:=by
 unfold Trel.ext
 rw [Trel.outs_succ,List.map_append]
 congr 1
 split <;> simp
theorem Trel.lev_dn (T:Trel):∀ i,i<=T.n->(T.lev i).flatMap (fun x=>(T.dn (T.n - i) x.2).map fun q=>x.1 ++ q)=T.dn T.n 0:=by
 intro i
 induction i with
 | zero=>intro _; simp [Trel.lev]
 | succ i ih =>
  intro hi
  rw [<-ih (by omega)]
  show ((T.lev i).flatMap (T.ext i (T.el i))).flatMap _=_
  rw [List.flatMap_assoc]
  congr 1
  funext x
  have e:T.n - i=(T.n - (i+1))+1:=by omega
  rw [e]
  show _=(List.flatMap _ (T.outs _ _ _)).map _
  have e2:T.n - (T.n - (i+1)+1)=i:=by omega
  rw [e2,List.map_flatMap]
  unfold Trel.ext
  rw [List.flatMap_map]
  congr 1
  funext j
  simp [List.map_map,Function.comp_def]
theorem Trel.lev_words (T:Trel):(T.lev T.n).map (·.1)=T.dn T.n 0:=by
 rw [<-Trel.lev_dn T T.n (Nat.le_refl _)]
 have:∀ l:List (List Int × Int),l.map (·.1)=l.flatMap (fun x=>(T.dn (T.n - T.n) x.2).map fun q=>x.1 ++ q):=by
  intro l
  induction l with
  | nil=>rfl
  | cons a l ih=>rw [List.map_cons,List.flatMap_cons,ih,Nat.sub_self]; simp [Trel.dn]
 exact this _
theorem Trel.lev_in {T:Trel} (h:T.Proper):∀ i,i<=T.n->∀ x,x ∈ T.lev i->x.1.length=i/\0<=x.2/\x.2<T.W i:=by
 intro i
 induction i with
 | zero =>
  intro _ x hx
  simp [Trel.lev] at hx
  subst hx
  exact ⟨rfl,Int.le_refl _,by have:=h.w0; show (0:Int)<_; omega⟩
 | succ i ih =>
  intro hi x hx
  simp only [Trel.lev,List.mem_flatMap] at hx
  obtain ⟨y,hy,hx⟩:=hx
  unfold Trel.ext at hx
  rw [List.mem_map] at hx
  obtain ⟨j,hj,rfl⟩:=hx
  have h1:=ih (by omega) y hy
  have h2:=h.shape.ins i (by omega) j (Trel.outs_mem.1 hj).1
  unfold Trel.inside at h2
  refine ⟨by simp [h1.1],?_,?_⟩ <;> simp only <;> omega
def endsAt (l:List (List Int × Int)) (v:Nat):Nat:=l.countP fun x=>x.2.toNat == v
theorem yak (T:Trel) (i u:Nat) (prev:Nat->Nat) (l:List (List Int × Int)) (hl:∀ x,x ∈ l->0<=x.2) (hp:∀ v,prev v=endsAt l v):∀ m,(∀ j,j<m->0<=T.fr i j)->endsAt (l.flatMap (T.ext i m)) u=T.fwdE (fun _ _=>1) prev i m u:=by
 intro m
 induction m with
 | zero =>
  intro _
  have:l.flatMap (T.ext i 0)=[]:=by
   rw [List.flatMap_eq_nil_iff]
   intro x _
   simp [Trel.ext,Trel.outs]
  rw [this]
  rfl
 | succ m ih =>
  intro hm
  show _=T.fwdE (fun _ _=>1) prev i m u+if (T.to i m).toNat=u then prev (T.fr i m).toNat*1 else 0
  rw [<-ih fun j hj=>hm j (by omega),hp]
  have h0:=hm m (by omega)
  clear hp ih hm
  unfold endsAt
  induction l with
  | nil=>simp
  | cons a l ih =>
   have ih:=ih fun x hx=>hl x (by simp [hx])
   have ha:=hl a (by simp)
   simp only [List.flatMap_cons,List.countP_append,ih,Trel.ext_succ,List.countP_cons]
   by_cases e:T.fr i m=a.2
   ·by_cases e2:(T.to i m).toNat=u
    ·simp [e,e2]; omega
    ·simp [e,e2]
   ·have e3:¬ a.2.toNat=(T.fr i m).toNat:=by omega
    by_cases e2:(T.to i m).toNat=u
    ·simp [e,e2,e3]; omega
    ·simp [e,e2]
theorem Trel.ends_fwd {T:Trel} (h:T.Proper):∀ i,i<=T.n->∀ v,T.fwd (fun _ _=>1) i v=endsAt (T.lev i) v:=by
 intro i
 induction i with
 | zero =>
  intro _ v
  show (if v=0 then 1 else 0)=_
  unfold endsAt Trel.lev
  by_cases e:v=0
  ·subst e; rfl
  ·have:¬ 0=v:=fun h=>e h.symm
   simp [e,this]
 | succ i ih =>
  intro hi v
  show T.fwdE _ _ i (T.el i) v=_
  exact (yak T i v _ _ (fun x hx=>(Trel.lev_in h i (by omega) x hx).2.1) (ih (by omega)) _ fun j hj=>by
   have:=h.shape.ins i (by omega) j hj
   unfold Trel.inside at this
   omega).symm
theorem Trel.words_len {T:Trel} (h:T.Proper):(T.dn T.n 0).length=T.fwd (fun _ _=>1) T.n 0:=by
 rw [Trel.ends_fwd h T.n (Nat.le_refl _),<-Trel.lev_words,List.length_map]
 unfold endsAt
 refine (List.countP_eq_length.2 fun x hx=>?_).symm
 have h1:=Trel.lev_in h T.n (Nat.le_refl _) x hx
 have:=h.wn
 rw [beq_iff_eq]
 omega
def AnyBool (e:Ending):Prop:=∃ r:Bool,e=.returned (.bool r)
theorem ybN (T:Trel) (A B:Option Addr) (c d:Nat) (most:Nat) (hm:most<=1000000) (w:World) (h:T.Reads w A B) :
  Calls Tryz.prog 55 #[.agg #[.slice A T.nw c,.slice B T.n d],.int .i64 (most:Nat)] w fun e w'=>AnyBool e/\Below w.heap.size w w':=by
 obtain ⟨RB,hRB⟩:∃ o,o=(Obj.cells #[.slice A T.nw c,.slice B T.n d] 53):=⟨_,rfl⟩
 have hB0:Below (w.heap.size+1) (w.alloc RB) (w.alloc RB):=Below.refl _ _
 have HS:Hid (∀ w',Below (w.heap.size+1) (w.alloc RB) w'->(w'.cell? ⟨w.heap.size,0,none⟩=some (.slice A T.nw c)/\w'.cell? ⟨w.heap.size,1,none⟩=some (.slice B T.n d))/\Below w.heap.size w w'):=fun w' hB=>by
  have hB':=zaO hB
  subst hRB
  exact ⟨⟨tbox hB rfl,tbox hB rfl⟩,hB'⟩
 obtain ⟨⟨p0,p1⟩,hW⟩:=HS.out _ hB0
 have hn47:=h.2.2.2.2.1
 go_enter Tryz.func55, Tryz.ntmps55
 go_wp2_with fail
 rw [<-hRB]
 go_wp2
 go_loopg [5,6] T.n (fun gg nv iv wx=>∃ k m:Nat,iv=.int .i64 (k:Nat)/\nv=.int .i64 (m:Nat)/\k<=T.n/\T.n<=k+gg/\m<=2*most+1/\Below (w.heap.size+1) (w.alloc RB) wx)
 case atStart=>exact ⟨0,0,rfl,rfl,by omega,by omega,by omega,hB0⟩
 case round =>
  obtain ⟨k,m,rfl,rfl,hk,hkg,hm2,hB⟩:=hrel
  clear hW p0 p1
  obtain ⟨⟨p0,p1⟩,hW⟩:=HS.out _ hB
  have hk0:(0:Int)<=(k:Int):=by omega
  by_cases hlt:k<T.n
  ·have hlt':(k:Int)<(T.n:Int):=by omega
   by_cases hle:(m:Int)<=(most:Int)
   ·obtain ⟨eb,eo,E,ec,hE,heb,x0,_,_,_,_⟩:=(h.on hW).sec hlt
    have hel:=h.2.2.2.2.2 k hlt
    obtain ⟨el,hele⟩:∃ n,n=T.el k:=⟨_,rfl⟩
    rw [<-hele] at x0 hel
    subst hE
    clear hele
    by_cases hmin:(el:Int)<=(most:Int)+1
    ·go_wp2
     go_roundg (gk - 1)
     case measure=>omega
     case rel=>exact ⟨k+1,m+el,by go_num,by go_num,by omega,by omega,by omega,hB⟩
    ·go_wp2
     go_roundg (gk - 1)
     case measure=>omega
     case rel=>exact ⟨k+1,m+(most+1),by go_num,by go_num,by omega,by omega,by omega,hB⟩
   ·go_wp2
    go_ret
    exact ⟨⟨_,rfl⟩,hW⟩
  ·have hlt':¬ (k:Int)<(T.n:Int):=by omega
   by_cases hle:(m:Int)<=(most:Int)
   ·go_wp2
    go_ret
    exact ⟨⟨_,rfl⟩,hW⟩
   ·go_wp2
    go_ret
    exact ⟨⟨_,rfl⟩,hW⟩
section
variable (add mul:Nat->Nat->Nat) (H:Nat->Nat->Nat) (T:Trel)
def Trel.synv (S:Nat->Nat->Nat) (i j k:Nat):Nat:=add (S (T.fr i j).toNat k) (mul (T.lb i j).toNat (H k i))
def Trel.asg (i j v:Nat):Prop:=∃ e,e<j/\(T.to i e).toNat=v
def Trel.synL (S:Nat->Nat->Nat) (i:Nat):Nat->Nat->Nat->Nat
 | 0,_,_=>0
 | j+1,v,k=>if (T.to i j).toNat=v then T.synv add mul H S i j k else Trel.synL S i j v k
def Trel.syn:Nat->Nat->Nat->Nat
 | 0,_,_=>0
 | i+1,v,k=>T.synL add mul H (Trel.syn i) i (T.el i) v k
def Trel.agree (q a i j:Nat):Prop:=(0<=T.lb i j/\T.lb i j<q)/\(T.asg i j (T.to i j).toNat->∀ k,k<a->T.synL add mul H (T.syn add mul H i) i j (T.to i j).toNat k=T.synv add mul H (T.syn add mul H i) i j k)
def Trel.SynOk (q a:Nat):Prop:=∀ i,i<T.n->∀ j,j<T.el i->T.agree add mul H q a i j
end
section
variable {add mul:Nat->Nat->Nat} {H:Nat->Nat->Nat} {T:Trel} {q a:Nat}
theorem Trel.asg_succ {i j v:Nat}:T.asg i (j+1) v↔T.asg i j v∨(T.to i j).toNat=v:=by
 constructor
 ·rintro ⟨e,h1,h2⟩
  by_cases g:e=j
  ·exact .inr (by rw [<-g]; exact h2)
  ·exact .inl ⟨e,by omega,h2⟩
 ·rintro (⟨e,h1,h2⟩ | h)
  ·exact ⟨e,by omega,h2⟩
  ·exact ⟨j,by omega,h⟩
theorem Trel.asg_zero {i v:Nat}:¬ T.asg i 0 v:=fun ⟨_,h,_⟩=>absurd h (by omega)
theorem Trel.synL_lt (hL:FieldLaws q add mul) {S:Nat->Nat->Nat} {i:Nat}:∀ j v k,T.synL add mul H S i j v k<q
 | 0,_,_=>by have:=hL.two; show 0<q; omega
 | j+1,v,k=>by
  show (if (T.to i j).toNat=v then T.synv add mul H S i j k else T.synL add mul H S i j v k)<q
  split
  ·exact hL.addLt _ _
  ·exact Trel.synL_lt hL j v k
theorem Trel.syn_lt (hL:FieldLaws q add mul):∀ i v k,T.syn add mul H i v k<q
 | 0,_,_=>by have:=hL.two; show 0<q; omega
 | _+1,_,_=>Trel.synL_lt hL _ _ _
end
theorem Trel.ordP {T:Trel} {i:Nat} (h:T.secOk i):∀ q j,j<q->q<T.el i->T.fr i j<T.fr i q∨T.fr i j=T.fr i q/\T.lb i j<T.lb i q:=by
 intro q
 induction q with
 | zero=>intro j hj; omega
 | succ q ih =>
  intro j hj hq
  have h1:=(h.1 (q+1) hq).2.2 (by omega)
  unfold Trel.after at h1
  rw [Nat.add_sub_cancel] at h1
  by_cases e:j=q
  ·rw [e]; exact h1
  ·have h2:=ih j (by omega) (by omega)
   omega
theorem Trel.edge_uniq {T:Trel} {i:Nat} (h:T.secOk i) {j q:Nat} (hj:j<T.el i) (hq:q<T.el i) (e1:T.fr i j=T.fr i q) (e2:T.lb i j=T.lb i q):j=q:=by
 rcases Nat.lt_trichotomy j q with g | g | g
 ·have:=Trel.ordP h q j g hq; omega
 ·exact g
 ·have:=Trel.ordP h j q g hj; omega
section
variable {add mul:Nat->Nat->Nat} {H:Nat->Nat->Nat} {T:Trel} {q a:Nat}
theorem Trel.syn_edge {i:Nat}:∀ m,(∀ e,e<m->T.agree add mul H q a i e)->∀ e,e<m->∀ k,k<a->T.synL add mul H (T.syn add mul H i) i m (T.to i e).toNat k=T.synv add mul H (T.syn add mul H i) i e k
 | 0,_,_,he,_,_=>absurd he (by omega)
 | m + 1, hok, e, he, k, hk => by
  have ih:=Trel.syn_edge m fun e he=>hok e (by omega)
  show (if (T.to i m).toNat=(T.to i e).toNat then T.synv add mul H (T.syn add mul H i) i m k else T.synL add mul H (T.syn add mul H i) i m (T.to i e).toNat k)=_
  by_cases em:e=m
  ·rw [em,if_pos rfl]
  ·by_cases e1:(T.to i m).toNat=(T.to i e).toNat
   ·rw [if_pos e1]
    have:=(hok m (by omega)).2 ⟨e,by omega,e1.symm⟩ k hk
    rw [<-this,e1]
    exact ih e (by omega) k hk
   ·rw [if_neg e1]
    exact ih e (by omega) k hk
def symW (x:List Int) (t:Nat):Nat:=(x.getD t 0).toNat
theorem yaW {x:List Int} {v:Int} {t:Nat} (h:t<x.length):symW (x ++ [v]) t=symW x t:=by
 unfold symW
 rw [List.getD_eq_getElem?_getD,List.getD_eq_getElem?_getD,List.getElem?_append_left h]
theorem yaX {x:List Int} {v:Int} {t:Nat} (h:t=x.length):symW (x ++ [v]) t=v.toNat:=by
 subst h
 unfold symW
 simp
theorem yal {x x' y:Nat->Nat}:∀ n,(∀ i,i<n->x i=x' i)->dotN add mul x y n=dotN add mul x' y n
 | 0,_=>rfl
 | n+1,h=>by
  show add (dotN add mul x y n) (mul (x n) (y n))=add (dotN add mul x' y n) (mul (x' n) (y n))
  rw [yal n fun i hi=>h i (by omega),h n (by omega)]
theorem Trel.lev_syn (hp:T.Proper) (hok:T.SynOk add mul H q a):∀ i,i<=T.n->∀ x,x ∈ T.lev i->(∀ v,v ∈ x.1->0<=v/\v<(q:Int))/\∀ k,k<a->T.syn add mul H i x.2.toNat k=dotN add mul (symW x.1) (H k) i:=by
 intro i
 induction i with
 | zero =>
  intro _ x hx
  simp [Trel.lev] at hx
  subst hx
  exact ⟨fun v hv=>by simp at hv,fun _ _=>rfl⟩
 | succ i ih =>
  intro hi x hx
  simp only [Trel.lev,List.mem_flatMap] at hx
  obtain ⟨y,hy,hx⟩:=hx
  unfold Trel.ext at hx
  rw [List.mem_map] at hx
  obtain ⟨j,hj,rfl⟩:=hx
  obtain ⟨hj,hf⟩:=Trel.outs_mem.1 hj
  have h1:=ih (by omega) y hy
  have h2:=Trel.lev_in hp i (by omega) y hy
  refine ⟨fun v hv=>?_,fun k hk=>?_⟩
  ·rcases List.mem_append.1 hv with g | g
   ·exact h1.1 v g
   ·rw [List.mem_singleton.1 g]
    exact (hok i (by omega) j hj).1
  ·show T.synL add mul H (T.syn add mul H i) i (T.el i) (T.to i j).toNat k=add (dotN add mul (symW (y.1 ++ [T.lb i j])) (H k) i) (mul (symW (y.1 ++ [T.lb i j]) i) (H k i))
   rw [Trel.syn_edge (T.el i) (fun e he=>hok i (by omega) e he) j hj k hk,yaX h2.1.symm,yal (x':=symW y.1) i fun t ht=>yaW (by rw [h2.1]; exact ht),<-h1.2 k hk,<-hf]
   rfl
theorem Trel.lev_uniq (hp:T.Proper):∀ i,i<=T.n->(T.lev i).Nodup/\∀ x,x ∈ T.lev i->∀ y,y ∈ T.lev i->x.1=y.1->x=y:=by
 intro i
 induction i with
 | zero =>
  intro _
  refine ⟨by simp [Trel.lev],fun x hx y hy _=>?_⟩
  simp [Trel.lev] at hx hy
  rw [hx,hy]
 | succ i ih =>
  intro hi
  obtain ⟨h1,h2⟩:=ih (by omega)
  have hs:=hp.sec i (by omega)
  have key:∀ x,x ∈ T.lev i->∀ y,y ∈ T.lev i->∀ j,j ∈ T.outs i x.2 (T.el i)->∀ l,l ∈ T.outs i y.2 (T.el i)->x.1 ++ [T.lb i j]=y.1 ++ [T.lb i l]->x=y/\j=l:=fun x hx y hy j hj l hl e=>by
   obtain ⟨e1,e2⟩:=List.append_inj e (by rw [(Trel.lev_in hp i (by omega) x hx).1,(Trel.lev_in hp i (by omega) y hy).1])
   have exy:=h2 x hx y hy e1
   subst exy
   obtain ⟨j1,j2⟩:=Trel.outs_mem.1 hj
   obtain ⟨l1,l2⟩:=Trel.outs_mem.1 hl
   exact ⟨rfl,Trel.edge_uniq hs j1 l1 (j2.trans l2.symm) (by injection e2)⟩
  refine ⟨?_,fun x hx y hy e=>?_⟩
  ·show ((T.lev i).flatMap (T.ext i (T.el i))).Nodup
   rw [List.Nodup,List.pairwise_flatMap]
   refine ⟨fun x hx=>?_,?_⟩
   ·have hn:(T.outs i x.2 (T.el i)).Nodup:=List.Pairwise.filter _ List.nodup_range
    exact za6 hn fun j hj l hl e=>(key x hx x hx j hj l hl (congrArg Prod.fst e)).2
   ·refine List.Pairwise.imp_of_mem ?_ h1
    intro x y hx hy hne u hu v hv e
    unfold Trel.ext at hu hv
    obtain ⟨j,hj,rfl⟩:=List.mem_map.1 hu
    obtain ⟨l,hl,rfl⟩:=List.mem_map.1 hv
    exact hne (key x hx y hy j hj l hl (congrArg Prod.fst e)).1
  ·simp only [Trel.lev,List.mem_flatMap] at hx hy
   obtain ⟨x1,hx1,hx⟩:=hx
   obtain ⟨y1,hy1,hy⟩:=hy
   unfold Trel.ext at hx hy
   obtain ⟨j,hj,rfl⟩:=List.mem_map.1 hx
   obtain ⟨l,hl,rfl⟩:=List.mem_map.1 hy
   obtain ⟨g1,g2⟩:=key x1 hx1 y1 hy1 j hj l hl e
   rw [g1,g2]
theorem Trel.lev_path:∀ i x,x ∈ T.lev i->(x.1.length=i)->∃ (e:Nat->Nat) (nd:Nat->Int),nd 0=0/\nd i=x.2/\∀ t,t<i->e t<T.el t/\T.fr t (e t)=nd t/\T.to t (e t)=nd (t+1)/\T.lb t (e t)=x.1.getD t 0:=by
 intro i
 induction i with
 | zero =>
  intro x hx _
  simp [Trel.lev] at hx
  subst hx
  exact ⟨fun _=>0,fun _=>0,rfl,rfl,fun t ht=>absurd ht (by omega)⟩
 | succ i ih =>
  intro x hx hlen
  simp only [Trel.lev,List.mem_flatMap] at hx
  obtain ⟨y,hy,hx⟩:=hx
  unfold Trel.ext at hx
  rw [List.mem_map] at hx
  obtain ⟨j,hj,rfl⟩:=hx
  obtain ⟨hj,hf⟩:=Trel.outs_mem.1 hj
  have hl:y.1.length=i:=by simpa using hlen
  obtain ⟨e,nd,h0,hi,h⟩:=ih y hy hl
  refine ⟨fun t=>if t=i then j else e t,fun t=>if t=i+1 then T.to i j else nd t,?_,if_pos rfl,fun t ht=>?_⟩
  ·show (if 0=i+1 then _ else nd 0)=0
   rw [if_neg (by omega),h0]
  ·by_cases et:t=i
   ·subst et
    show (if t=t then j else e t)<T.el t/\T.fr t (if t=t then j else e t)=(if t=t+1 then _ else nd t)/\T.to t (if t=t then j else e t)=(if t+1=t+1 then T.to t j else _)/\T.lb t (if t=t then j else e t)=_
    rw [if_pos rfl,if_neg (by omega),if_pos rfl]
    refine ⟨hj,by rw [hf,hi],rfl,?_⟩
    rw [<-hl]
    simp
   ·have h3:=h t (by omega)
    show (if t=i then j else e t)<T.el t/\T.fr t (if t=i then j else e t)=(if t=i+1 then _ else nd t)/\T.to t (if t=i then j else e t)=(if t+1=i+1 then T.to i j else nd (t+1))/\T.lb t (if t=i then j else e t)=_
    rw [if_neg et,if_neg (by omega),if_neg (by omega)]
    refine ⟨h3.1,h3.2.1,h3.2.2.1,?_⟩
    rw [h3.2.2.2,List.getD_eq_getElem?_getD,List.getD_eq_getElem?_getD,List.getElem?_append_left (by omega)]
end
section
variable {add mul:Nat->Nat->Nat} {neg:Nat->Nat} {H V:Nat->Nat->Nat} {T:Trel} {q a n:Nat}
theorem yaP {N:Nat} {u:Nat->Nat} (hu:InSp q add mul n N V u) {l:List Int} (hl:l.length=N) (hlu:∀ j,j<N->l.getD j 0=(u j:Int)) :
  l ∈ (List.range (q ^ n)).map fun i=>(List.range N).map fun j=>((spE add mul V (msgD q n i) n j:Nat):Int):=by
 obtain ⟨c,hc,hx⟩:=hu
 obtain ⟨i,hi,hd⟩:=zi7 hc
 refine List.mem_map.2 ⟨i,List.mem_range.2 hi,?_⟩
 refine List.ext_getElem (by simp [hl]) fun j h1 h2=>?_
 have hj:j<N:=by omega
 have h3:=hlu j hj
 rw [List.getD_eq_getElem?_getD,List.getElem?_eq_getElem h2,Option.getD_some] at h3;rw [h3,hx j hj]
 simp only [List.getElem_map,List.getElem_range]
 congr 1
 exact zbO n fun s hs=>⟨hd s hs,rfl⟩
theorem Trel.all_words (hL:FieldLaws q add mul) (hneg:∀ x,x<q->neg x<q/\add x (neg x)=0) (hV:RrefN q n T.n V) (hrel:NullRel q add mul neg n T.n V a H) (hp:T.Proper) (hok:T.SynOk add mul H q a) (hz:∀ k,k<a->T.syn add mul H T.n 0 k=0) (hc:T.fwd (fun _ _=>1) T.n 0=q ^ n)
  {u:Nat->Nat} (hu:InSp q add mul n T.n V u):∃ (e:Nat->Nat) (nd:Nat->Int),nd 0=0/\nd T.n=0/\∀ t,t<T.n->e t<T.el t/\T.fr t (e t)=nd t/\T.to t (e t)=nd (t+1)/\T.lb t (e t)=(u t:Int):=by
 classical
 obtain ⟨C,hC⟩:∃ C,C=(List.range (q ^ n)).map fun i=>(List.range T.n).map fun j=>((spE add mul V (msgD q n i) n j:Nat):Int):=⟨_,rfl⟩
 have hClen:C.length=q ^ n:=by rw [hC]; simp
 obtain ⟨hn1,hn2⟩:=Trel.lev_uniq hp T.n (Nat.le_refl _)
 have hW:((T.lev T.n).map (·.1)).Nodup:=za6 hn1 fun x hx y hy e=>hn2 x hx y hy e
 have hWlen:((T.lev T.n).map (·.1)).length=q ^ n:=by rw [Trel.lev_words,Trel.words_len hp,hc]
 have hsub:∀ x,x ∈ (T.lev T.n).map (·.1)->x ∈ C:=fun x hx=>by
  obtain ⟨y,hy,rfl⟩:=List.mem_map.1 hx
  obtain ⟨g1,g2,g3⟩:=Trel.lev_in hp T.n (Nat.le_refl _) y hy
  obtain ⟨g4,g5⟩:=Trel.lev_syn hp hok T.n (Nat.le_refl _) y hy
  have hy0:y.2.toNat=0:=by have:=hp.wn; omega
  have hsym:∀ j,j<T.n->0<=y.1.getD j 0/\y.1.getD j 0<(q:Int):=fun j hj=>by
   rw [List.getD_eq_getElem?_getD,List.getElem?_eq_getElem (by omega),Option.getD_some]
   exact g4 _ (List.getElem_mem _)
  have hlt:∀ j,j<T.n->symW y.1 j<q:=fun j hj=>by
   have:=hsym j hj
   unfold symW
   omega
  have hin:=(yay hL hneg hV hrel hlt).2 fun k hk=>by rw [<-g5 k hk,hy0]; exact hz k hk
  rw [hC]
  exact yaP hin g1 fun j hj=>by
   have:=hsym j hj
   unfold symW
   omega
 obtain ⟨l,hl⟩:∃ l:List Int,l=(List.range T.n).map fun j=>(u j:Int):=⟨_,rfl⟩
 have hll:l.length=T.n:=by rw [hl]; simp
 have hlu:∀ j,j<T.n->l.getD j 0=(u j:Int):=fun j hj=>by rw [hl]; simp [hj]
 have hlC:l ∈ C:=by rw [hC]; exact yaP hu hll hlu
 have hlW:l ∈ (T.lev T.n).map (·.1):=by
  by_cases h:l ∈ (T.lev T.n).map (·.1)
  ·exact h
  ·have:=zf8 (l:=l :: (T.lev T.n).map (·.1)) (m:=C) (List.nodup_cons.2 ⟨h,hW⟩) fun x hx=>by
    rcases List.mem_cons.1 hx with g | g
    ·rw [g]; exact hlC
    ·exact hsub x g
   rw [List.length_cons,hWlen,hClen] at this
   omega
 obtain ⟨y,hy,hyl⟩:=List.mem_map.1 hlW
 obtain ⟨g1,g2,g3⟩:=Trel.lev_in hp T.n (Nat.le_refl _) y hy
 obtain ⟨e,nd,h0,h1,h2⟩:=Trel.lev_path T.n y hy g1
 refine ⟨e,nd,h0,by rw [h1]; have:=hp.wn; omega,fun t ht=>?_⟩
 obtain ⟨k1,k2,k3,k4⟩:=h2 t ht
 refine ⟨k1,k2,k3,?_⟩
 rw [k4]
 have hyl:y.1=l:=hyl
 rw [hyl]
 exact hlu t ht
end
theorem Tryz.infoTabs:(Tryz.prog.info? 25).map (fun i=>(i.zero,i.size,i.bytes))=some (some (.slice none 0 0),1,24):=by kernel_rfl
structure LTab (w:World) (base g m a:Nat) (P:Nat->Prop) (R:Nat->Value) (S:Nat->Nat->Nat):Prop where
 ge:base<=g
 row:w.rowIs g 22 m R
 yes:∀ u,u<m->P u->Own w base 3 1 (R u) a (fun k _=>.int .i64 (S u k:Nat))
 no:∀ u,u<m->¬ P u->R u=.slice none 0 0
section
variable {w w':World} {base g m a:Nat} {P:Nat->Prop} {R:Nat->Value} {S:Nat->Nat->Nat}
theorem LTab.on (h:LTab w base g m a P R S) (hb:Below w.heap.size w w'):LTab w' base g m a P R S:=⟨h.ge,zab h.row hb,fun u hu hp=>(h.yes u hu hp).on hb,h.no⟩
theorem LTab.congr {P':Nat->Prop} {S':Nat->Nat->Nat} (h:LTab w base g m a P R S) (e1:∀ u,u<m->(P u↔P' u)) (e2:∀ u,u<m->P u->∀ k,k<a->S u k=S' u k):LTab w base g m a P' R S' :=
 ⟨h.ge,h.row,fun u hu hp=>(h.yes u hu ((e1 u hu).2 hp)).congr fun k hk _ _=>by rw [e2 u hu ((e1 u hu).2 hp) k hk],fun u hu hp=>h.no u hu fun g=>hp ((e1 u hu).1 g)⟩
theorem LTab.set (h:LTab w base g m a P R S) {u:Nat} {v:Value} {s:Nat->Nat} (hv:Own w base 3 1 v a (fun k _=>.int .i64 (s k:Nat))) :
  LTab (w.setCell ⟨g,u,none⟩ v) base g m a (fun x=>P x∨x=u) (fun x=>if x=u then v else R x) (fun x k=>if x=u then s k else S x k):=by
 have far:∀ {y:Value} {F:Nat->Nat->Value},Own w base 3 1 y a F->Own (w.setCell ⟨g,u,none⟩ v) base 3 1 y a F:=fun hy=>hy.setCell (a:=⟨g,u,none⟩) (fun e=>(zbZ h.row hy (by decide)).elim (fun h=>by rw [h] at e; cases e) fun h=>h e) _
 refine ⟨h.ge,(h.row.set u v).congr fun x _=>rfl,fun x hx hp=>?_,fun x hx hp=>?_⟩
 ·by_cases e:x=u
  ·simp only [if_pos e]
   exact far hv
  ·simp only [if_neg e]
   exact far (h.yes x hx (hp.resolve_right e))
 ·have e:x≠u:=fun e=>hp (.inr e)
  show (if x=u then v else R x)=_
  rw [if_neg e]
  exact h.no x hx fun g=>hp (.inl g)
theorem LTab.kept {b:Nat} (h:LTab w base g m a P R S) (hg:w.grownBy w' (some b)) (h1:b≠g) (h2:∀ u,u<m->P u->(R u).ownBlock≠some b):LTab w' base g m a P R S :=
 ⟨h.ge,h.row.of_block (hg.block _ h.row.lt fun e=>h1 (Option.some.inj e).symm),fun u hu hp=>(h.yes u hu hp).kept hg (.inr (h2 u hu hp)),h.no⟩
theorem LTab.made {m:Nat} (w:World) (a:Nat) (S:Nat->Nat->Nat):LTab (w.alloc (.cells (madeCells #[.slice none 0 0] m) 22)) w.heap.size w.heap.size m a (fun _=>False) (fun _=>.slice none 0 0) S :=
 ⟨Nat.le_refl _,World.rowIs_made w (.slice none 0 0) m 22, fun _ _ h=>h.elim,fun _ _ _=>rfl⟩
end
def IsTr (q a:Nat) (add mul:Nat->Nat->Nat) (H:Nat->Nat->Nat) (T:Trel) (n:Nat):Prop :=
 T.SynOk add mul H q a/\(∀ k,k<a->T.syn add mul H T.n 0 k=0)/\T.fwd (fun _ _=>1) T.n 0=q ^ n
def TChk (P M:Int) (k:Nat) (f:Nat->Int) (N:Int) (n:Nat) (ln:Nat->Nat) (V:Nat->Nat->Int) (T:Trel) (v:Int):Prop :=
 (v≠0/\FirstErr (CodeErrs P M k f N n ln V) v) ∨
 (FirstErr (CodeErrs P M k f N n ln V) 0/\((T.properE≠0/\v=T.properE)∨(T.properE=0/\∃ P' M' N':Nat,P=P'/\M=M'/\N=N'/\((T.n≠N'/\v=13) ∨
  (T.n=N'/\∃ a H,NullRel (P' ^ M') (addF P' M') (mulF P' M' fun i=>(f i).toNat) (negF P' M') n N' (natT V) a H/\(v=0∨v=13)/\(v=0↔IsTr (P' ^ M') a (addF P' M') (mulF P' M' fun i=>(f i).toNat) H T n))))))
theorem rowIs_setCells_other' {b b':Nat} {t:TypeId} {n:Nat} {f:Nat->Value} {w:World} (hne:b'≠b) (v:Value) (o:Nat) (h:w.rowIs b' t n f):(w.setCell ⟨b,o,none⟩ v).rowIs b' t n f:=h.of_block ((zcl w b o v).block _ h.lt fun e=>hne (Option.some.inj e))
def TSynP (P M:Nat) (m:Nat->Nat) (T:Trel) (H:Nat->Nat->Nat) (q a:Nat) (w:World) (e:Ending) (w':World):Prop :=
 Below w.heap.size w w'/\((T.SynOk (addF P M) (mulF P M m) H q a/\∃ (go g:Nat) (R:Nat->Value),e=.returned (.tuple #[.slice (some ⟨go,0,none⟩) T.nw T.nw,.bool true])/\w'.cell? ⟨go,T.n,none⟩=some (.slice (some ⟨g,0,none⟩) (T.W T.n).toNat (T.W T.n).toNat)/\LTab w' w.heap.size g (T.W T.n).toNat a (fun _=>True) R (T.syn (addF P M) (mulF P M m) H T.n)) ∨
  (¬ T.SynOk (addF P M) (mulF P M m) H q a/\e=.returned (.tuple #[.slice none 0 0,.bool false])))
theorem yaE {P M gp:Nat} {m:Nat->Nat} (T:Trel) (A B HA:Option Addr) (c d hc a q:Nat) (H:Nat->Nat->Nat) (w:World) (HQ:Hid (q=P ^ M)) (hG:GF w w.heap.size gp P M m) (hT:T.Reads w A B) (hp:T.Proper) (hH:MRows w HA a T.n H) (hHq:∀ k,k<a->∀ i,i<T.n->H k i<q) (ha:a<=64) :
  Calls Tryz.prog 80 #[.pointer (some ⟨gp,0,none⟩),.slice HA a hc,.agg #[.slice A T.nw c,.slice B T.n d]] w (TSynP P M m T H q a w):=by
 have HG:=hid hG
 have HR:=hid hT
 have HP:=hid hp
 have HSH:=hid hp.shape
 have HH:=hid hH
 have HHq:=hid hHq
 have hn64:=hp.shape.n64
 have HNW1:=hid hp.shape.nw
 have hnw65:T.nw<=65:=by have:=HNW1.out; omega
 have hnw0:0<T.nw:=by have:=HNW1.out; omega
 have HL:Hid (FieldLaws q (addF P M) (mulF P M m)):=by rw [HQ.out]; exact hid (fieldLaws hG.ok)
 have HW:Hid (∀ i,i<=T.n->1<=T.W i/\T.W i<=65536):=hid fun i hi=>hp.shape.wid hi
 clear hG hT hp hH hHq
 have HMI:∀ (z:Nat),z<=65536->∀ W,_:=fun z hz W=>zah (P:=Tryz.prog) 22 3 _ 8 Tryz.underlying22 Tryz.infoInt rfl (z:Int) (by omega) (by omega) (by omega) W
 have HMR:∀ (z:Nat),z<=65536->∀ W,_:=fun z hz W=>zah (P:=Tryz.prog) 25 22 _ 24 Tryz.underlying25 Tryz.infoInts rfl (z:Int) (by omega) (by omega) (by omega) W
 have HMT:∀ (z:Nat),z<=65536->∀ W,_:=fun z hz W=>zah (P:=Tryz.prog) 119 25 _ 24 Tryz.underlying119 Tryz.infoTabs rfl (z:Int) (by omega) (by omega) (by omega) W
 simp only [Int.toNat_natCast] at HMI HMR HMT
 have HMI:=hid HMI
 have HMR:=hid HMR
 have HMT:=hid HMT
 have rb:=zaB (w:=w) (a:=.slice A T.nw c) (b:=.slice B T.n d) (T := 53)
 have hB:Below w.heap.size w (w.alloc (.cells #[.slice A T.nw c,.slice B T.n d] 53)):=(Below.refl _ _).alloc (Nat.le_refl _) _
 obtain ⟨w1,hw1⟩:∃ W,W=w.alloc (.cells #[.slice A T.nw c,.slice B T.n d] 53):=⟨_,rfl⟩
 rw [<-hw1] at hB rb
 go_enter Tryz.func80, Tryz.ntmps80
 go_upto_region 1 with fail
 rw [<-hw1];clear hw1
 obtain ⟨b5,hb5⟩:∃ b,b=w.heap.size:=⟨_,rfl⟩
 have hb5w:w.heap.size<=b5:=Nat.le_of_eq hb5.symm
 rw [<-hb5] at rb;rw [<-hb5];clear hb5
 have p0:w1.cell? ⟨b5,0,none⟩=some (.slice A T.nw c):=rb.cell (i:=0) (by omega)
 have hmk:=HMT.out T.nw (by omega)
 go_upto_region 2 with fail
 have rz:World.rowIs (World.alloc w1 (Obj.cells (madeCells #[Value.slice none 0 0] T.nw) 25)) w1.heap.size 25 T.nw (fun _=>.slice none 0 0):=World.rowIs_made _ (.slice none 0 0) T.nw 25
 have kb:Below w1.heap.size w1 (World.alloc w1 (Obj.cells (madeCells #[Value.slice none 0 0] T.nw) 25)):=(Below.refl _ _).alloc (Nat.le_refl _) _
 obtain ⟨w2,hw2⟩:∃ W,W=World.alloc w1 (Obj.cells (madeCells #[Value.slice none 0 0] T.nw) 25):=⟨_,rfl⟩
 rw [<-hw2] at rz kb ⊢
 obtain ⟨go,hgo⟩:∃ g,g=w1.heap.size:=⟨_,rfl⟩
 have hgoB:w1.heap.size<=go:=Nat.le_of_eq hgo.symm
 have hgo2:go<w2.heap.size:=by rw [hw2,hgo]; simp
 rw [<-hgo] at rz ⊢;clear hw2 hgo hmk p0
 have hmk:=HMI.out a (by omega)
 have o0:w2.cell? ⟨go,0,none⟩=some (.slice none 0 0):=rz.cell hnw0
 have o1:=rz.frozen 0
 have hnw0':(0:Int)<(T.nw:Int):=by omega
 go_upto_region 3 with fail
 have hrow3:(w2.setCell ⟨go,0,none⟩ (.slice (some ⟨w2.heap.size+1,0,none⟩) 1 1)).rowIs go 25 T.nw (fun u=>if u=0 then .slice (some ⟨w2.heap.size+1,0,none⟩) 1 1 else .slice none 0 0):=rz.set 0 _
 have kb3:=kb.setCell (p:=⟨go,0,none⟩) hgoB (.slice (some ⟨w2.heap.size+1,0,none⟩) 1 1)
 have hs3:(w2.setCell ⟨go,0,none⟩ (.slice (some ⟨w2.heap.size+1,0,none⟩) 1 1)).heap.size=w2.heap.size:=by simp
 obtain ⟨w3,hw3⟩:∃ W,W=w2.setCell ⟨go,0,none⟩ (.slice (some ⟨w2.heap.size+1,0,none⟩) 1 1):=⟨_,rfl⟩
 rw [<-hw3] at hrow3 kb3 hs3 ⊢
 obtain ⟨gz,hgz⟩:∃ g,g=w2.heap.size:=⟨_,rfl⟩
 rw [<-hgz] at hrow3 hs3 ⊢;clear hw3 rz kb o0 o1 hmk
 have rz4:World.rowIs (World.alloc w3 (Obj.cells (madeCells #[Value.int .i64 0] a) 3)) w3.heap.size 3 a (fun _=>.int .i64 ((0:Nat):Int)):=World.rowIs_made _ (.int .i64 0) a 3
 have kb4:Below w3.heap.size w3 (World.alloc w3 (Obj.cells (madeCells #[Value.int .i64 0] a) 3)):=(Below.refl _ _).alloc (Nat.le_refl _) _
 have hs4:(World.alloc w3 (Obj.cells (madeCells #[Value.int .i64 0] a) 3)).heap.size=w3.heap.size+1:=by simp
 obtain ⟨w4,hw4⟩:∃ W,W=World.alloc w3 (Obj.cells (madeCells #[Value.int .i64 0] a) 3):=⟨_,rfl⟩
 rw [<-hw4] at rz4 kb4 hs4 ⊢
 have rb5:(w4.alloc (.cells #[.slice (some ⟨gz,0,none⟩) a a] 22)).rowIs w4.heap.size 22 1 (fun _=>.slice (some ⟨gz,0,none⟩) a a):=⟨_,zax rfl,rfl,fun i hi=>by
  obtain rfl:i=0:=by omega
  rfl⟩
 have kb5:Below w4.heap.size w4 (w4.alloc (.cells #[.slice (some ⟨gz,0,none⟩) a a] 22)):=(Below.refl _ _).alloc (Nat.le_refl _) _
 obtain ⟨w5,hw5⟩:∃ W,W=w4.alloc (.cells #[.slice (some ⟨gz,0,none⟩) a a] 22):=⟨_,rfl⟩
 rw [<-hw5] at rb5 kb5 ⊢;rw [hs4,hs3] at rb5;rw [hs3] at rz4
 have hww:w.heap.size<=gz:=by have:=hB.size; have:=kb3.size; omega
 have hL0:LTab w5 w.heap.size (gz+1) 1 a (fun _=>True) (fun _=>.slice (some ⟨gz,0,none⟩) a a) (T.syn (addF P M) (mulF P M m) H 0) :=
  ⟨by omega,rb5,fun u _ _=>(zbe (zab rz4 kb5) hww (by unfold maxLen; omega)).congr fun k _ _ _=>rfl,fun u _ h=>absurd trivial h⟩
 have hgo5:=zab (zab hrow3 kb4) kb5
 have HB:=hid hB
 have hb5':∀ X,Below w1.heap.size w1 X->X.rowIs b5 53 2 (matCell (.slice A T.nw c) (.slice B T.n d)):=fun X hb=>zab rb hb
 have HBK:=hid hb5'
 have HK1:=hid (onS (onS kb3 kb4) kb5)
 clear hs3 hs4 hw4 hw5 rb5 rz4 kb3 kb4 kb5 hrow3 rb hb5' hww hgz hgo2
 have p1:w5.cell? ⟨b5,1,none⟩=some (.slice B T.n d):=(HBK.out _ HK1.out).cell (i:=1) (by omega)
 go_upto_region 4 with fail
 go_loopg [30] T.n (fun gg iv wx=>∃ (i g:Nat) (R F:Nat->Value),iv=.int .i64 (i:Nat)/\i<=T.n/\T.n<=i+gg/\Hid (∀ i',i'<i->∀ j,j<T.el i'->T.agree (addF P M) (mulF P M m) H q a i' j)/\wx.rowIs go 25 T.nw F/\F i=.slice (some ⟨g,0,none⟩) (T.W i).toNat (T.W i).toNat/\LTab wx w.heap.size g (T.W i).toNat a (fun _=>True) R (T.syn (addF P M) (mulF P M m) H i)/\Below w1.heap.size w1 wx)
 case atStart =>
  have hw0:(T.W 0).toNat=1:=by rw [HP.out.w0]; rfl
  refine ⟨0,gz+1,fun _=>.slice (some ⟨gz,0,none⟩) a a,fun u=>if u=0 then .slice (some ⟨gz+1,0,none⟩) 1 1 else .slice none 0 0,rfl,by omega,by omega,hid fun i' h=>absurd h (by omega),hgo5,?_,?_,HK1.out⟩
  ·show (if 0=0 then Value.slice (some ⟨gz+1,0,none⟩) 1 1 else .slice none 0 0)=_
   rw [if_pos rfl,hw0]
  ·rw [hw0]; exact hL0
 case round =>
  clear hgo5 hL0 p1
  obtain ⟨i,g,R,F,rfl,hi,hig,HOK,hgo5,hF,hLT,hB⟩:=hrel
  have hi0:(0:Int)<=(i:Int):=by omega
  have HGO:=hid hgo5
  have HF:=hid hF
  have HLT:=hid hLT
  have HKB:=hid hB
  obtain ⟨w6,hw6⟩:∃ X,X=wr:=⟨_,rfl⟩
  subst hw6
  clear hgo5 hF hLT hB
  by_cases hin:i<T.n
  ·have hin':(i:Int)<(T.n:Int):=by omega
   obtain ⟨eb,eo,E,ec,hBe,heb,e0w,hec,hec2,hEd,hI64⟩:=HR.out.sec hin
   have HED:=hid hEd
   have e0:=cellS (onS HB.out HKB.out) e0w
   subst hBe
   obtain ⟨el,hel⟩:∃ x,x=T.el i:=⟨_,rfl⟩
   have hel2:el<=262144:=by rw [hel]; exact HSH.out.elb hin
   rw [<-hel] at e0 e0w HED
   have HEL:=hid hel
   clear hel hEd hI64 hec hec2 e0w
   have p0:w6.cell? ⟨b5,0,none⟩=some (.slice A T.nw c):=(HBK.out _ HKB.out).cell (i:=0) (by omega)
   have hW1:=HW.out (i+1) (by omega)
   obtain ⟨mm,hmm⟩:∃ x:Nat,x=(T.W (i+1)).toNat:=⟨_,rfl⟩
   have hWm:T.W (i+1)=(mm:Int):=by omega
   have hm65:mm<=65536:=by omega
   obtain ⟨ab,ao,hAe,_,a0,_⟩:=(HR.out.on (onS HB.out HKB.out)).width (i:=i+1) (by have:=HNW1.out; omega)
   subst hAe
   rw [hWm] at a0
   have HMM:=hid hmm
   have HWM:=hid hWm
   clear hmm hWm hW1
   have hi1w:IntKind.i64.wrap ((i:Int)+1)=((i+1:Nat):Int):=by rw [IntWalk.i64_in _ (by omega)]; rfl
   have hmk:=HMR.out mm hm65
   have hinw:((i+1:Nat):Int)<(T.nw:Int):=by have:=HNW1.out; omega
   have hinwN:i+1<T.nw:=by have:=HNW1.out; omega
   have hinw2:(i:Int)+1<(T.nw:Int):=by omega
   have hi10:(0:Int)<=((i+1:Nat):Int):=by omega
   have c0:=HGO.out.cell hinwN
   have c1:=HGO.out.frozen (i+1)
   have hgo6:=HGO.out.lt
   go_upto_region 8 with fail
   have hne:go≠g:=fun e=>(zbZ HGO.out (zbe HLT.out.row (Nat.zero_le _) (by have:=HW.out i (by omega); unfold maxLen; omega)) (by decide)).elim (fun h=>by cases h) (fun h=>h (by rw [e]; rfl))
   have hLT2:LTab (w6.setCell ⟨go,i+1,none⟩ (.slice (some ⟨w6.heap.size,0,none⟩) mm mm)) w.heap.size g (T.W i).toNat a (fun _=>True) R (T.syn (addF P M) (mulF P M m) H i):=HLT.out.kept (zcl w6 go (i+1) _) hne fun u hu hp e=>(zbZ HGO.out (HLT.out.yes u hu hp) (by decide)).elim (fun h=>by rw [h] at e; cases e) (fun h=>h e)
   have hgo7:(w6.setCell ⟨go,i+1,none⟩ (.slice (some ⟨w6.heap.size,0,none⟩) mm mm)).rowIs go 25 T.nw (fun u=>if u=i+1 then .slice (some ⟨w6.heap.size,0,none⟩) mm mm else F u):=HGO.out.set (i+1) _
   have hk7:=HKB.out.setCell (p:=⟨go,i+1,none⟩) hgoB (.slice (some ⟨w6.heap.size,0,none⟩) mm mm)
   have hs7:(w6.setCell ⟨go,i+1,none⟩ (.slice (some ⟨w6.heap.size,0,none⟩) mm mm)).heap.size=w6.heap.size:=by simp
   obtain ⟨w7,hw7⟩:∃ W,W=w6.setCell ⟨go,i+1,none⟩ (.slice (some ⟨w6.heap.size,0,none⟩) mm mm):=⟨_,rfl⟩
   rw [<-hw7] at hLT2 hgo7 hk7 hs7 ⊢
   obtain ⟨g2,hg2⟩:∃ x,x=w6.heap.size:=⟨_,rfl⟩
   have hg2w:w.heap.size<=g2:=by have:=HB.out.size; have:=HKB.out.size; omega
   rw [<-hg2] at hgo7 hs7 ⊢
   have hmade:=LTab.made (m:=mm) w7 a (T.synL (addF P M) (mulF P M m) H (T.syn (addF P M) (mulF P M m) H i) i 0)
   have kb8:Below w7.heap.size w7 (w7.alloc (.cells (madeCells #[.slice none 0 0] mm) 22)):=(Below.refl _ _).alloc (Nat.le_refl _) _
   obtain ⟨w8,hw8⟩:∃ W,W=w7.alloc (.cells (madeCells #[.slice none 0 0] mm) 22):=⟨_,rfl⟩
   rw [<-hw8] at hmade kb8 ⊢;rw [hs7] at hmade
   have hLTn:LTab w8 w.heap.size g2 mm a (T.asg i 0) (fun _=>.slice none 0 0) (T.synL (addF P M) (mulF P M m) H (T.syn (addF P M) (mulF P M m) H i) i 0):=⟨hg2w,hmade.row,fun u _ h=>absurd h Trel.asg_zero,fun _ _ _=>rfl⟩
   have hLT8:=hLT2.on kb8
   have hgo8:=zab hgo7 kb8
   have hk8:=onS hk7 kb8
   obtain ⟨F2,hF2⟩:∃ F2:Nat->Value,F2=fun u=>if u=i+1 then .slice (some ⟨g2,0,none⟩) mm mm else F u:=⟨_,rfl⟩
   have hFi:Hid (F2 i=.slice (some ⟨g,0,none⟩) (T.W i).toNat (T.W i).toNat):=hid (by rw [hF2]; show (if i=i+1 then _ else F i)=_; rw [if_neg (by omega)]; exact HF.out)
   have hFn:Hid (F2 (i+1)=.slice (some ⟨g2,0,none⟩) mm mm):=hid (by rw [hF2]; exact if_pos rfl)
   rw [<-hF2] at hgo8
   have hgg:Hid (g2≠g):=hid (by have:=HLT.out.row.lt; omega)
   have HG2W:Hid (w1.heap.size<=g2):=hid (by have:=HKB.out.size; omega)
   clear hmade hLT2 hgo7 hk7 hs7 hw7 hw8 kb8 hF2 hg2 HGO HF HLT c0 c1 hgo6 hne hmk a0 e0 p0
   obtain ⟨wi,hwi⟩:∃ x:Nat,x=(T.W i).toNat:=⟨_,rfl⟩
   have hWi:T.W i=(wi:Int):=by have:=HW.out i (by omega); omega
   rw [<-hwi] at hLT8 hFi
   have HWI:=hid hWi
   clear hwi hWi
   obtain ⟨gO,hgO⟩:∃ x,x=gk:=⟨_,rfl⟩
   subst hgO
   go_loopg [48] el (fun gg jv wx=>∃ (j:Nat) (R2:Nat->Value),jv=.int .i64 (j:Nat)/\j<=el/\el<=j+gg/\Hid (∀ e,e<j->T.agree (addF P M) (mulF P M m) H q a i e)/\wx.rowIs go 25 T.nw F2/\LTab wx w.heap.size g wi a (fun _=>True) R (T.syn (addF P M) (mulF P M m) H i)/\LTab wx w.heap.size g2 mm a (T.asg i j) R2 (T.synL (addF P M) (mulF P M m) H (T.syn (addF P M) (mulF P M m) H i) i j)/\Below w1.heap.size w1 wx)
   case atStart=>exact ⟨0,_,rfl,by omega,by omega,hid fun e h=>absurd h (by omega),hgo8,hLT8,hLTn,hk8⟩
   case round =>
    clear hgo8 hLT8 hLTn hk8
    obtain ⟨j,R2,rfl,hj,hjg,HOJ,hgo,hLT,hLN,hB⟩:=hrel
    have hj0:(0:Int)<=(j:Int):=by omega
    have HGO:=hid hgo
    have HLT:=hid hLT
    have HLN:=hid hLN
    have HKB:=hid hB
    obtain ⟨w9,hw9⟩:∃ X,X=wr:=⟨_,rfl⟩
    subst hw9
    clear hgo hLT hLN hB
    by_cases hjl:j<el
    ·have hjl':(j:Int)<(el:Int):=by omega
     obtain ⟨xb,xo,hEe,hxb,x0,x1,x2⟩:=zc1 HED.out hjl
     subst hEe
     have hK9:=onS HB.out HKB.out
     replace x0:=cellS hK9 x0;replace x1:=cellS hK9 x1;replace x2:=cellS hK9 x2
     have hins:=HSH.out.ins i hin j (by rw [<-HEL.out]; exact hjl)
     obtain ⟨f0,f1,t0,t1⟩:=hins
     obtain ⟨fu,hfu⟩:∃ x:Nat,x=(T.fr i j).toNat:=⟨_,rfl⟩
     obtain ⟨tu,htu⟩:∃ x:Nat,x=(T.to i j).toNat:=⟨_,rfl⟩
     have hf:T.fr i j=(fu:Int):=by omega
     have ht:T.to i j=(tu:Int):=by omega
     rw [hf] at x0 f0 f1;rw [ht] at x2 t0 t1;rw [HWI.out] at f1;rw [HWM.out] at t1
     have HFU:=hid hfu
     have HTU:=hid htu
     obtain ⟨lb,hlb⟩:∃ x:Int,x=T.lb i j:=⟨_,rfl⟩
     rw [<-hlb] at x1
     have HLB:=hid hlb
     clear hf ht hfu htu hlb
     go_upto_region 10 with fail
     have rx:=zaf (w:=w9) (a:=.int .i64 (fu:Nat)) (b:=.int .i64 lb) (c:=.int .i64 (tu:Nat)) (T := 90)
     have kb:Below w9.heap.size w9 (w9.alloc (.cells #[.int .i64 (fu:Nat),.int .i64 lb,.int .i64 (tu:Nat)] 90)):=(Below.refl _ _).alloc (Nat.le_refl _) _
     obtain ⟨w10,hw10⟩:∃ W,W=w9.alloc (.cells #[.int .i64 (fu:Nat),.int .i64 lb,.int .i64 (tu:Nat)] 90):=⟨_,rfl⟩
     rw [<-hw10] at rx kb ⊢;clear hw10
     obtain ⟨b12,hb12⟩:∃ b,b=w9.heap.size:=⟨_,rfl⟩
     rw [<-hb12] at rx ⊢;clear hb12 x0 x1 x2;replace HGO:=hid (zab HGO.out kb);replace HLT:=hid (HLT.out.on kb);replace HLN:=hid (HLN.out.on kb);replace HKB:=hid (onS HKB.out kb);clear kb hK9
     have y1:w10.cell? ⟨b12,1,none⟩=some (.int .i64 lb):=rx.cell (i:=1) (by omega)
     go_wp2_with fail
     refine (zf1 lb (HG.out.on (onS HB.out HKB.out))).mono ?_
     rintro e w11 ⟨rfl,kb⟩
     rw [<-HQ.out]
     have HRX:=hid (zab rx kb)
     replace HGO:=hid (zab HGO.out kb);replace HLT:=hid (HLT.out.on kb);replace HLN:=hid (HLN.out.on kb);replace HKB:=hid (onS HKB.out kb);clear kb rx y1
     have hIS:isB q lb=true↔0<=lb/\lb<(q:Int):=by unfold isB; simp
     obtain hb | hb:=Bool.eq_false_or_eq_true (isB q lb)
     rotate_left
     ·rw [hb]
      have hno:¬ T.SynOk (addF P M) (mulF P M m) H q a:=fun h=>by
       have h1:=(h i hin j (by rw [<-HEL.out]; exact hjl)).1
       rw [<-HLB.out] at h1;rw [hIS.2 h1] at hb
       cases hb
      have hB11:=onS HB.out HKB.out
      clear hb hIS
      go_wp2
      go_ret2
      exact ⟨hB11,.inr ⟨hno,rfl⟩⟩
     have hlb:=hIS.1 hb
     rw [hb]
     obtain ⟨lu,rfl⟩:∃ x:Nat,lb=x:=⟨lb.toNat,by omega⟩
     have hlu:lu<q:=by omega
     have HLU:Hid ((T.lb i j).toNat=lu):=hid (by rw [<-HLB.out]; exact Int.toNat_natCast _)
     have HLR:Hid (0<=T.lb i j/\T.lb i j<(q:Int)):=hid (by rw [<-HLB.out]; exact hlb)
     clear hb hIS hlb
     have hi11:(0:Int)<=(i:Int)+1:=by omega
     have hfw:fu<wi:=by omega
     have htw:tu<mm:=by omega
     have hinw0:(i:Int)<(T.nw:Int):=by omega
     obtain ⟨SF,fc,hRf⟩:=(HLT.out.yes fu hfw trivial).shape
     have HRf:=hid hRf
     have hgoN:=HGO.out.cell (i:=i) (by omega)
     rw [hFi.out] at hgoN
     have hgN:=HLT.out.row.cell hfw
     rw [hRf] at hgN
     have hb0:w11.cell? ⟨b12,0,none⟩=some (.int .i64 (fu:Nat)):=HRX.out.cell (i:=0) (by omega)
     clear hRf
     go_upto_region 12 with fail
     refine wp_region_held_drew (S:=fun w'=>w'.cell? ⟨go,i,none⟩=some (.slice (some ⟨g,0,none⟩) wi wi)/\w'.cell? ⟨g,fu,none⟩=some (.slice SF a fc)/\w'.cell? ⟨b12,0,none⟩=some (.int .i64 (fu:Nat))) (by kernel_rfl) ⟨cellS (Below.refl _ _).drew hgoN,cellS (Below.refl _ _).drew hgN,cellS (Below.refl _ _).drew hb0⟩ (fun hHeld=>?_)
     obtain ⟨w12,hw⟩:∃ W,W=World.drew w11:=⟨_,rfl⟩
     have kb:Below w11.heap.size w11 w12:=by rw [hw]; exact (Below.refl _ _).drew
     rw [<-hw] at hHeld ⊢;clear hw;replace HRX:=hid (zab HRX.out kb);replace HGO:=hid (zab HGO.out kb);replace HLT:=hid (HLT.out.on kb);replace HLN:=hid (HLN.out.on kb);replace HKB:=hid (onS HKB.out kb);replace hgoN:=cellS kb hgoN;replace hgN:=cellS kb hgN;replace hb0:=cellS kb hb0;clear kb
     have HSW:Hid (w.heap.size<=w12.heap.size):=hid (onS HB.out HKB.out).size
     refine tkq 0 (h:=tkq 1 (h:=tkq 2 (h:=tkq 3 (h:=tkq 4 (h:=tkq 5 (h:=tkq 6 (h:=tkq 7 (h:=?_))))))))
     clear hHeld
     refine rdq 8 (h:=fun K hK=>?_)
     go_simp
     go_wp2_with fail
     have hOf:=HLT.out.yes fu hfw trivial
     rw [HRf.out] at hOf
     have HSF:=hid (show IntsR w12 w12.heap.size SF a (fun k=>((T.syn (addF P M) (mulF P M m) H i fu k:Nat):Int)) from hOf.rd rfl)
     have hfc:=hOf.capL
     clear hOf
     refine (zaA SF a fc (fun k=>((T.syn (addF P M) (mulF P M m) H i fu k:Nat):Int)) w12 HSF.out hfc.1 (by omega)).mono ?_
     rintro e w13 ⟨SA,sc,rfl,hO,kb⟩
     have HO13:=hid hO
     have KB13:=hid kb
     refine bkq hK ⟨cellS kb hgoN,cellS kb hgN,cellS kb hb0⟩ (h:=fun hHeld=>?_)
     clear hK K hO kb hgoN hgN hb0 HSF hfc
     refine tkq 9 (h:=?_)
     refine wpAnyH_done (by kernel_rfl) ?_ _
     clear hHeld
     go_upto_region 14 with fail
     obtain ⟨gP,hgP⟩:∃ x,x=gk:=⟨_,rfl⟩
     subst hgP
     go_loopg [68] a (fun gg kv wx=>∃ k:Nat,kv=.int .i64 (k:Nat)/\k<=a/\a<=k+gg/\Own wx w12.heap.size 3 1 (.slice SA a sc) a (fun t _=>.int .i64 ((if t<k then T.synv (addF P M) (mulF P M m) H (T.syn (addF P M) (mulF P M m) H i) i j t else T.syn (addF P M) (mulF P M m) H i fu t:Nat):Int))/\Below w12.heap.size w12 wx)
     case atStart=>exact ⟨0,rfl,by omega,by omega,HO13.out.congr fun t _ _ _=>by rw [if_neg (by omega)],KB13.out⟩
     case round =>
      obtain ⟨k,rfl,hk,hkg,hO,hB⟩:=hrel
      have hk0:(0:Int)<=(k:Int):=by omega
      have HO:=hid hO
      have KB:=hid hB
      obtain ⟨w14,hw14⟩:∃ X,X=wr:=⟨_,rfl⟩
      subst hw14
      clear hO hB HO13 KB13
      by_cases hka:k<a
      ·have hka':(k:Int)<(a:Int):=by omega
       have hk1w:IntKind.i64.wrap ((k:Int)+1)=((k+1:Nat):Int):=by rw [IntWalk.i64_in _ (by omega)]; rfl
       obtain ⟨hb,ho,RA,rc,hHe,_,h0w,_,_,hrow,_⟩:=HH.out k hka
       subst hHe
       obtain ⟨rb,ro,hRe,_,r0w⟩:=hrow.at hin
       subst hRe
       have h0:=cellS (onS (onS HB.out HKB.out) KB.out) h0w
       have hin2:(i:Int)<(T.n:Int):=by omega
       obtain ⟨gs,os,sc2,hse,_,_,_,_,_⟩:=HO.out.form (by omega)
       obtain ⟨hse1,hse2⟩:SA=some ⟨gs,os,none⟩/\sc=sc2:=by injection hse with x _ y; exact ⟨x,y⟩
       subst hse1 hse2
       clear hse
       have hx0:∀ X:World,Own X w12.heap.size 3 1 (.slice (some ⟨gs,os,none⟩) a sc) a (fun t _=>.int .i64 ((if t<k then T.synv (addF P M) (mulF P M m) H (T.syn (addF P M) (mulF P M m) H i) i j t else T.syn (addF P M) (mulF P M m) H i fu t:Nat):Int))->X.cell? ⟨gs,os+k,none⟩=some (.int .i64 (T.syn (addF P M) (mulF P M m) H i fu k:Nat)):=fun X hX=>by
        obtain ⟨g',o',c',e1,_,_,_,_,hc⟩:=hX.form (by omega)
        injection e1 with e1 _ _
        injection e1 with e1
        injection e1 with e1 e2
        subst e1 e2
        have h1:=hc k hka 0 (by omega)
        rw [Nat.mul_one,Nat.add_zero,if_neg (Nat.lt_irrefl k)] at h1
        exact h1
       have hhc:∀ X,Below w12.heap.size w12 X->X.cell? ⟨rb,ro+i,none⟩=some (.int .i64 ((H k i:Nat):Int)):=fun X hb=>cellS (onS (onS HB.out HKB.out) hb) r0w
       have hix:inV (P ^ M) (T.syn (addF P M) (mulF P M m) H i fu k:Nat)=T.syn (addF P M) (mulF P M m) H i fu k:=zak (by rw [<-HQ.out]; exact Trel.syn_lt HL.out _ _ _)
       have hiy:inV (P ^ M) (H k i:Nat)=H k i:=zak (by rw [<-HQ.out]; exact HHq.out k hka i hin)
       have hil:inV (P ^ M) (lu:Nat)=lu:=zak (by rw [<-HQ.out]; exact hlu)
       obtain ⟨x,hx⟩:∃ x,x=T.syn (addF P M) (mulF P M m) H i fu k:=⟨_,rfl⟩
       obtain ⟨y,hy⟩:∃ y,y=H k i:=⟨_,rfl⟩
       rw [<-hx] at hx0 hix;rw [<-hy] at hhc hiy
       have HX:=hid hx
       have HY:=hid hy
       have HIX:=hid hix
       have HIY:=hid hiy
       have HIL:=hid hil
       have HX0:=hid hx0
       have HHC:=hid hhc
       clear hx hy hix hiy hil hx0 hhc r0w h0w hrow
       go_upto_region 16 with fail
       refine wp_region_held_drew (S:=fun w'=>w'.cell? ⟨b12,1,none⟩=some (.int .i64 (lu:Nat))/\w'.cell? ⟨rb,ro+i,none⟩=some (.int .i64 (y:Nat))) (by kernel_rfl) ⟨cellS (Below.refl _ _).drew ((zab HRX.out KB.out).cell (i:=1) (by omega)),cellS (Below.refl _ _).drew (HHC.out _ KB.out)⟩ (fun hHeld=>?_)
       obtain ⟨w15,hw⟩:∃ W,W=World.drew w14:=⟨_,rfl⟩
       have kb:Below w14.heap.size w14 w15:=by rw [hw]; exact (Below.refl _ _).drew
       rw [<-hw] at hHeld ⊢;clear hw h0;replace HO:=hid (HO.out.on kb);replace KB:=hid (onS KB.out kb);clear kb
       refine tkq 0 (h:=tkq 1 (h:=tkq 2 (h:=tkq 3 (h:=tkq 4 (h:=tkq 5 (h:=tkq 7 (h:=tkq 8 (h:=tkq 9 (h:=tkq 10 (h:=tkq 11 (h:=tkq 12 (h:=?_))))))))))))
       refine tkq 13 (h:=?_)
       clear hHeld
       refine rdq2 6 14 (h:=fun K hK=>?_) (h2:=fun K hK=>?_)
       focus
        have u0:w15.cell? ⟨gs,os+k,none⟩=some (.int .i64 (x:Nat)):=HX0.out _ HO.out
        go_simp
        clear u0
        refine bkq hK ⟨(zab HRX.out KB.out).cell (i:=1) (by omega),HHC.out _ KB.out⟩ (h:=fun hHeld=>?_)
        clear hK K hHeld
        refine rdq 14 (h:=fun K hK=>?_)
        go_simp
        go_wp2_with fail
        refine (zaM (lu:Int) (y:Int) (HG.out.on (onS (onS HB.out HKB.out) KB.out))).mono ?_
        rintro e w16 ⟨rfl,kb⟩
        rw [HIL.out,HIY.out];replace HO:=hid (HO.out.on kb);replace KB:=hid (onS KB.out kb);clear kb
        obtain ⟨z,hz⟩:∃ z,z=mulF P M m lu y:=⟨_,rfl⟩
        rw [<-hz]
        have HZ:=hid hz
        have hiz:Hid (inV (P ^ M) (z:Nat)=z):=hid (zak (by rw [hz,<-HQ.out]; exact HL.out.mulLt _ _))
        clear hz
        refine bkq hK ⟨(zab HRX.out KB.out).cell (i:=1) (by omega),HHC.out _ KB.out⟩ (h:=fun hHeld=>?_)
        clear hK K hHeld
       rotate_left
       focus
        go_simp
        go_wp2_with fail
        refine (zaM (lu:Int) (y:Int) (HG.out.on (onS (onS HB.out HKB.out) KB.out))).mono ?_
        rintro e w16 ⟨rfl,kb⟩
        rw [HIL.out,HIY.out];replace HO:=hid (HO.out.on kb);replace KB:=hid (onS KB.out kb);clear kb
        obtain ⟨z,hz⟩:∃ z,z=mulF P M m lu y:=⟨_,rfl⟩
        rw [<-hz]
        have HZ:=hid hz
        have hiz:Hid (inV (P ^ M) (z:Nat)=z):=hid (zak (by rw [hz,<-HQ.out]; exact HL.out.mulLt _ _))
        clear hz
        refine bkq hK ⟨(zab HRX.out KB.out).cell (i:=1) (by omega),HHC.out _ KB.out⟩ (h:=fun hHeld=>?_)
        clear hK K hHeld
        refine rdq 6 (h:=fun K hK=>?_)
        have u0:w16.cell? ⟨gs,os+k,none⟩=some (.int .i64 (x:Nat)):=HX0.out _ HO.out
        go_simp
        clear u0
        refine bkq hK ⟨(zab HRX.out KB.out).cell (i:=1) (by omega),HHC.out _ KB.out⟩ (h:=fun hHeld=>?_)
        clear hK K hHeld
       rotate_left
       all_goals
        refine rdq 15 (h:=fun K hK=>?_)
        go_simp
        go_wp2_with fail
        refine (zby (x:Int) (z:Int) (HG.out.on (onS (onS HB.out HKB.out) KB.out))).mono ?_
        rintro e w17 ⟨rfl,kb⟩
        rw [HIX.out,hiz.out];replace HO:=hid (HO.out.on kb);replace KB:=hid (onS KB.out kb);clear kb
        obtain ⟨s,hs⟩:∃ s,s=addF P M x z:=⟨_,rfl⟩
        rw [<-hs]
        have HS:=hid hs
        clear hs
        refine bkq hK ⟨(zab HRX.out KB.out).cell (i:=1) (by omega),HHC.out _ KB.out⟩ (h:=fun hHeld=>?_)
        clear hK K hHeld
        have hHeld:w17.cell? ⟨b12,1,none⟩=some (.int .i64 (lu:Nat))/\w17.cell? ⟨rb,ro+i,none⟩=some (.int .i64 (y:Nat)):=⟨(zab HRX.out KB.out).cell (i:=1) (by omega),HHC.out _ KB.out⟩
        refine tkq 16 (h:=?_)
        clear hHeld
        have u0:w17.cell? ⟨gs,os+k,none⟩=some (.int .i64 (x:Nat)):=HX0.out _ HO.out
        have u1:=HO.out.frozen (os+k)
        refine rdq 17 (h:=fun K hK=>?_)
        go_simp
        have hO2:=HO.out.set (a:=k) (b:=0) hka (by omega) (.int .i64 (s:Nat))
        rw [Nat.mul_one,Nat.add_zero] at hO2
        have kb2:=KB.out.setCell (p:=⟨gs,os+k,none⟩) (HO.out.lt gs rfl).1 (.int .i64 (s:Nat))
        obtain ⟨w18,hw⟩:∃ W,W=World.setCell w17 ⟨gs,os+k,none⟩ (.int .i64 (s:Nat)):=⟨_,rfl⟩
        rw [<-hw] at hO2 kb2 ⊢;clear hw u0 u1
        have HO2:Hid (Own w18 w12.heap.size 3 1 (.slice (some ⟨gs,os,none⟩) a sc) a (fun t _=>.int .i64 ((if t<k+1 then T.synv (addF P M) (mulF P M m) H (T.syn (addF P M) (mulF P M m) H i) i j t else T.syn (addF P M) (mulF P M m) H i fu t:Nat):Int))):=hid (hO2.congr fun t _ u hu=>by
         obtain rfl:u=0:=by omega
         show (if t=k/\0=0 then Value.int .i64 (s:Nat) else .int .i64 ((if t<k then T.synv (addF P M) (mulF P M m) H (T.syn (addF P M) (mulF P M m) H i) i j t else T.syn (addF P M) (mulF P M m) H i fu t:Nat):Int))=.int .i64 ((if t<k+1 then T.synv (addF P M) (mulF P M m) H (T.syn (addF P M) (mulF P M m) H i) i j t else T.syn (addF P M) (mulF P M m) H i fu t:Nat):Int)
         by_cases e:t=k
         ·rw [if_pos ⟨e,rfl⟩,if_pos (by omega),e,HS.out,HZ.out,HX.out,HY.out,<-HLU.out]
          unfold Trel.synv
          rw [<-HFU.out]
         ·rw [if_neg fun g=>e g.1]
          by_cases e2:t<k
          ·rw [if_pos e2,if_pos (by omega)]
          ·rw [if_neg e2,if_neg (by omega)])
        replace KB:=hid kb2;clear hO2 kb2 HO
        refine bkq hK ⟨(zab HRX.out KB.out).cell (i:=1) (by omega),HHC.out _ KB.out⟩ (h:=fun hHeld=>?_)
        clear hK K hHeld
        refine wpAnyH_done (by kernel_rfl) ?_ _
        go_wp2
        go_roundg (gk - 1)
        case measure=>omega
        case rel=>exact ⟨k+1,by go_num,by omega,by omega,HO2.out,KB.out⟩
      ·obtain rfl:a=k:=by omega
       have hka':¬ (a:Int)<(a:Int):=by omega
       have HOS:Hid (Own w14 w12.heap.size 3 1 (.slice SA a sc) a (fun t _=>.int .i64 (T.synv (addF P M) (mulF P M m) H (T.syn (addF P M) (mulF P M m) H i) i j t:Nat))):=hid (HO.out.congr fun t ht _ _=>by rw [if_pos ht])
       replace HRX:=hid (zab HRX.out KB.out);replace HGO:=hid (zab HGO.out KB.out);replace HLT:=hid (HLT.out.on KB.out);replace HLN:=hid (HLN.out.on KB.out);replace HKB:=hid (onS HKB.out KB.out)
       have HOS2:=hid (HOS.out.mono (show w.heap.size<=w12.heap.size from HSW.out))
       clear HO KB HOS
       have hgoM:=HGO.out.cell (i:=i+1) (by have:=HNW1.out; omega)
       rw [hFn.out] at hgoM
       have hb2:w14.cell? ⟨b12,2,none⟩=some (.int .i64 (tu:Nat)):=HRX.out.cell (i:=2) (by omega)
       have hgM:=HLN.out.row.cell htw
       have hinw:((i+1:Nat):Int)<(T.nw:Int):=by have:=HNW1.out; omega
       have htm:(tu:Int)<(mm:Int):=by omega
       have hold:∃ OA oc on,R2 tu=.slice OA on oc/\((T.asg i j tu/\on=a/\IntsR w14 w14.heap.size OA a (fun k=>((T.synL (addF P M) (mulF P M m) H (T.syn (addF P M) (mulF P M m) H i) i j tu k:Nat):Int)))∨(¬ T.asg i j tu/\OA=none/\on=0)):=by
        by_cases hasg:T.asg i j tu
        ·have hOo:=HLN.out.yes tu htw hasg
         obtain ⟨OA,oc,e⟩:=hOo.shape
         exact ⟨OA,oc,a,e,.inl ⟨hasg,rfl,hOo.rd e⟩⟩
        ·exact ⟨none,0,0,HLN.out.no tu htw hasg,.inr ⟨hasg,rfl,rfl⟩⟩
       obtain ⟨OA,oc,on,hRo,hcase⟩:=hold
       rw [hRo] at hgM;clear hRo
       go_upto_region 18 with fail
       refine wp_region_held_drew (S:=fun w'=>w'.cell? ⟨go,i+1,none⟩=some (.slice (some ⟨g2,0,none⟩) mm mm)/\w'.cell? ⟨g2,tu,none⟩=some (.slice OA on oc)/\w'.cell? ⟨b12,2,none⟩=some (.int .i64 (tu:Nat))) (by kernel_rfl) ⟨cellS (Below.refl _ _).drew hgoM,cellS (Below.refl _ _).drew hgM,cellS (Below.refl _ _).drew hb2⟩ (fun hHeld=>?_)
       obtain ⟨w15,hw⟩:∃ W,W=World.drew w14:=⟨_,rfl⟩
       have kb:Below w14.heap.size w14 w15:=by rw [hw]; exact (Below.refl _ _).drew
       rw [<-hw] at hHeld ⊢;clear hw
       refine tkq 0 (h:=tkq 1 (h:=tkq 2 (h:=tkq 3 (h:=tkq 4 (h:=tkq 5 (h:=tkq 6 (h:=tkq 7 (h:=?_))))))))
       refine tkq 8 (h:=tkq 9 (h:=?_))
       refine wpAnyH_done (by kernel_rfl) ?_ _
       clear hHeld;replace HRX:=hid (zab HRX.out kb);replace HGO:=hid (zab HGO.out kb);replace HLT:=hid (HLT.out.on kb);replace HLN:=hid (HLN.out.on kb);replace HKB:=hid (onS HKB.out kb);replace HOS2:=hid (HOS2.out.on kb)
       have hcase2:=hcase.imp (fun h=>(⟨h.1,h.2.1,h.2.2.on kb⟩:T.asg i j tu/\on=a/\IntsR w15 w15.heap.size OA a (fun k=>((T.synL (addF P M) (mulF P M m) H (T.syn (addF P M) (mulF P M m) H i) i j tu k:Nat):Int)))) id
       clear kb hcase hgM hb2 hgoM
       go_upto_region 19 with fail
       go_cut [107] (fun v107 wx=>∃ bb:Bool,v107=.bool bb/\Below w15.heap.size w15 wx/\Hid (bb=true->¬ T.SynOk (addF P M) (mulF P M m) H q a)/\Hid (bb=false->T.asg i j tu->∀ k,k<a->T.synL (addF P M) (mulF P M m) H (T.syn (addF P M) (mulF P M m) H i) i j tu k=T.synv (addF P M) (mulF P M m) H (T.syn (addF P M) (mulF P M m) H i) i j k))
       case first =>
        rcases hcase2 with ⟨hasg,rfl,hI⟩ | ⟨hno,rfl,rfl⟩
        rotate_left
        ·go_wp2
         go_meet
         exact ⟨false,rfl,Below.refl _ _,hid (fun h=>nomatch h),hid fun _ h=>absurd h hno⟩
        cases OA with
        | none =>
         have HI:=hid hI
         clear hI
         go_wp2
         go_meet
         exact ⟨false,rfl,Below.refl _ _,hid (fun h=>nomatch h),hid fun _ _ k hk=>by
          obtain ⟨_,_,e,_⟩:=HI.out.at hk
          cases e⟩
        | some oad =>
         obtain ⟨ob,oo,op⟩:=oad
         have HI:=hid hI
         have HO15:=hid (show IntsR w15 w15.heap.size SA on (fun k=>((T.synv (addF P M) (mulF P M m) H (T.syn (addF P M) (mulF P M m) H i) i j k:Nat):Int)) from HOS2.out.rd rfl)
         clear hI
         have hnq:∀ W,(binOp .neq 22 (.slice (some ⟨ob,oo,op⟩) on oc) (.slice none 0 0)).run Tryz.prog W=.ok (.bool true) W:=fun _=>rfl
         go_wp2_with fail
         refine (zdt (some ⟨ob,oo,op⟩) SA on on oc sc _ _ w15 HI.out HO15.out (by omega) (by omega)).mono ?_
         rintro e w16 ⟨v,rfl,hv,kb⟩
         cases v with
         | true =>
          have hEQ:=(hv.1 rfl).2
          clear hv
          go_wp2
          go_meet
          exact ⟨false,rfl,kb,hid (fun h=>nomatch h),hid fun _ _ k hk=>by
           have:=hEQ k hk
           exact Int.ofNat.inj this⟩
         | false =>
          have hno:¬ T.SynOk (addF P M) (mulF P M m) H q on:=fun h=>by
           have h1:=(h i hin j (by rw [<-HEL.out]; exact hjl)).2
           rw [<-HTU.out] at h1
           have h2:=hv.2 ⟨rfl,fun k hk=>congrArg (fun x:Nat=>(x:Int)) (h1 hasg k hk)⟩
           cases h2
          clear hv
          go_wp2
          go_meet
          exact ⟨true,rfl,kb,hid fun _=>hno,hid (fun h=>nomatch h)⟩
       case rest =>
        obtain ⟨bb,rfl,kb,HNO,HEQ0⟩:=hcut
        obtain ⟨w16,hw16⟩:∃ X,X=wc:=⟨_,rfl⟩
        subst hw16
        obtain hbb | hbb:=Bool.eq_false_or_eq_true bb
        ·subst hbb
         have hno:=HNO.out rfl
         have hB16:=onS (onS HB.out HKB.out) kb
         go_wp2
         go_ret2
         exact ⟨hB16,.inr ⟨hno,rfl⟩⟩
        subst hbb
        have HEQ:=hid (HEQ0.out rfl)
        replace HRX:=hid (zab HRX.out kb);replace HGO:=hid (zab HGO.out kb);replace HLT:=hid (HLT.out.on kb);replace HLN:=hid (HLN.out.on kb);replace HKB:=hid (onS HKB.out kb);replace HOS2:=hid (HOS2.out.on kb);clear kb hcase2
        have hgoM:=HGO.out.cell (i:=i+1) (by have:=HNW1.out; omega)
        rw [hFn.out] at hgoM
        have hb2:w16.cell? ⟨b12,2,none⟩=some (.int .i64 (tu:Nat)):=HRX.out.cell (i:=2) (by omega)
        go_upto_region 21 with fail
        refine wp_region_held_drew (S:=fun w'=>w'.cell? ⟨go,i+1,none⟩=some (.slice (some ⟨g2,0,none⟩) mm mm)/\w'.cell? ⟨b12,2,none⟩=some (.int .i64 (tu:Nat))) (by kernel_rfl) ⟨cellS (Below.refl _ _).drew hgoM,cellS (Below.refl _ _).drew hb2⟩ (fun hHeld=>?_)
        obtain ⟨w17,hw⟩:∃ W,W=World.drew w16:=⟨_,rfl⟩
        have kb:Below w16.heap.size w16 w17:=by rw [hw]; exact (Below.refl _ _).drew
        rw [<-hw] at hHeld ⊢;clear hw hgoM hb2;replace HRX:=hid (zab HRX.out kb);replace HGO:=hid (zab HGO.out kb);replace HLT:=hid (HLT.out.on kb);replace HLN:=hid (HLN.out.on kb);replace HKB:=hid (onS HKB.out kb);replace HOS2:=hid (HOS2.out.on kb);clear kb
        refine tkq 0 (h:=tkq 1 (h:=tkq 2 (h:=tkq 3 (h:=tkq 4 (h:=tkq 5 (h:=tkq 6 (h:=tkq 7 (h:=?_))))))))
        refine tkq 8 (h:=?_)
        clear hHeld
        have u0:=HLN.out.row.cell htw
        have u1:=HLN.out.row.frozen tu
        refine rdq 9 (h:=fun K hK=>?_)
        go_simp
        have hLN2:=HLN.out.set (u:=tu) HOS2.out
        have hLT2:=HLT.out.kept (zcl w17 g2 tu (.slice SA a sc)) hgg.out fun u hu hp e=>(zbZ HLN.out.row (HLT.out.yes u hu hp) (by decide)).elim (fun h=>by rw [h] at e; cases e) (fun h=>h e)
        have hne:go≠g2:=fun e=>(zbZ HGO.out (zbe HLN.out.row (Nat.zero_le _) (by unfold maxLen; omega)) (by decide)).elim (fun h=>by cases h) (fun h=>h (by rw [e]; rfl))
        have hgo2':=rowIs_setCells_other' hne (.slice SA a sc) tu HGO.out
        have hk2:=HKB.out.setCell (p:=⟨g2,tu,none⟩) HG2W.out (.slice SA a sc)
        have hne2:b12≠g2:=fun e=>(zbZ HRX.out (zbe HLN.out.row (Nat.zero_le _) (by unfold maxLen; omega)) (by decide)).elim (fun h=>by cases h) (fun h=>h (by rw [e]; rfl))
        have hrx18:=rowIs_setCells_other' hne2 (.slice SA a sc) tu HRX.out
        obtain ⟨w18,hw⟩:∃ W,W=World.setCell w17 ⟨g2,tu,none⟩ (.slice SA a sc):=⟨_,rfl⟩
        rw [<-hw] at hLN2 hLT2 hgo2' hk2 hrx18 ⊢
        have HRX18:=hid hrx18
        clear hw u0 u1 hne hne2 hrx18
        have HGOs:=hid hgo2'
        have HLTs:=hid hLT2
        have HKs:=hid hk2
        have HLNs:=hid (hLN2.congr (P':=T.asg i (j+1)) (S':=T.synL (addF P M) (mulF P M m) H (T.syn (addF P M) (mulF P M m) H i) i (j+1)) (fun u _=>by rw [Trel.asg_succ,<-HTU.out]; exact or_congr Iff.rfl eq_comm) fun u _ _ k _=>by
         show (if u=tu then T.synv (addF P M) (mulF P M m) H (T.syn (addF P M) (mulF P M m) H i) i j k else T.synL (addF P M) (mulF P M m) H (T.syn (addF P M) (mulF P M m) H i) i j u k)=if (T.to i j).toNat=u then T.synv (addF P M) (mulF P M m) H (T.syn (addF P M) (mulF P M m) H i) i j k else T.synL (addF P M) (mulF P M m) H (T.syn (addF P M) (mulF P M m) H i) i j u k
         rw [<-HTU.out]
         by_cases e:u=tu
         ·rw [if_pos e,if_pos e.symm]
         ·rw [if_neg e,if_neg (fun g=>e g.symm)])
        have hagr:T.agree (addF P M) (mulF P M m) H q a i j:=⟨HLR.out,by rw [<-HTU.out]; exact HEQ.out⟩
        have HAGR:=hid hagr
        clear hLN2 hLT2 hgo2' hk2 hagr
        have hSb:w18.cell? ⟨go,i+1,none⟩=some (.slice (some ⟨g2,0,none⟩) mm mm)/\w18.cell? ⟨b12,2,none⟩=some (.int .i64 (tu:Nat)):=by
         refine ⟨?_,?_⟩
         ·rw [<-hFn.out]; exact HGOs.out.cell (by have:=HNW1.out; omega)
         ·exact HRX18.out.cell (i:=2) (by omega)
        refine bkq hK hSb (h:=fun hHeld=>?_)
        clear hK K hHeld hSb
        refine wpAnyH_done (by kernel_rfl) ?_ _
        have hj1w:IntKind.i64.wrap ((j:Int)+1)=((j+1:Nat):Int):=by rw [IntWalk.i64_in _ (by omega)]; rfl
        go_wp2
        go_roundg (gP - 1)
        case measure=>omega
        case rel=>exact ⟨j+1,_,by go_num,by omega,by omega,hid fun e he=>by
         by_cases h:e=j
         ·rw [h]; exact HAGR.out
         ·exact HOJ.out e (by omega),HGOs.out,HLTs.out,HLNs.out,HKs.out⟩
    ·obtain rfl:el=j:=by omega
     have hjl':¬ (el:Int)<(el:Int):=by omega
     have hLTf:LTab w9 w.heap.size g2 (T.W (i+1)).toNat a (fun _=>True) R2 (T.syn (addF P M) (mulF P M m) H (i+1)):=by
      rw [<-HMM.out]
      refine HLN.out.congr (fun u hu=>⟨fun _=>trivial,fun _=>?_⟩) fun u _ _ k _=>by
       show _=T.synL (addF P M) (mulF P M m) H (T.syn (addF P M) (mulF P M m) H i) i (T.el i) u k
       rw [<-HEL.out]
      obtain ⟨e,he,h1⟩:=zcM.1 ((HP.out.sec i hin).2.2 u (by rw [<-HMM.out]; exact hu))
      exact ⟨e,by rw [HEL.out]; exact he,by rw [h1]; exact Int.toNat_natCast _⟩
     have HLTf:=hid hLTf
     have HFf:Hid (F2 (i+1)=.slice (some ⟨g2,0,none⟩) (T.W (i+1)).toNat (T.W (i+1)).toNat):=hid (by rw [hFn.out,HMM.out])
     have HOKf:Hid (∀ i',i'<i+1->∀ j,j<T.el i'->T.agree (addF P M) (mulF P M m) H q a i' j):=hid fun i' h' j hj=>by
      by_cases e:i'=i
      ·subst e
       exact HOJ.out j (by rw [HEL.out]; exact hj)
      ·exact HOK.out i' (by omega) j hj
     clear hLTf
     go_wp2
     go_roundg (gO - 1)
     case measure=>omega
     case rel=>exact ⟨i+1,g2,R2,F2,by go_num,by omega,by omega,HOKf,HGO.out,HFf.out,HLTf.out,HKB.out⟩
  ·have hin':¬ (i:Int)<(T.n:Int):=by omega
   have hie:i=T.n:=by omega
   have hB6:=onS HB.out HKB.out
   have hok:T.SynOk (addF P M) (mulF P M m) H q a:=fun i' h'=>HOK.out i' (by omega)
   have hcell:=HGO.out.cell (i:=i) (by have:=HNW1.out; omega)
   rw [HF.out] at hcell
   have HC:=hid hcell
   clear hcell
   go_wp2
   go_ret2
   rw [hie] at HC HLT
   exact ⟨hB6,.inl ⟨hok,go,g,R,rfl,HC.out,HLT.out⟩⟩
theorem yaF (x:Int) (w:World):Calls Tryz.prog 112 #[.int .i64 x] w fun e w'=>e=.returned (.bool (x != 0))/\w=w':=by
 go_enter Tryz.func112, Tryz.ntmps112
 go_wp2
 go_ret
 exact ⟨rfl,rfl⟩
theorem yaA (F:Option Addr) (n d:Nat) (f:Nat->Int) (w:World) (hf:IntsR w w.heap.size F n f) (hn:n<=1024) :
  Calls Tryz.prog 111 #[.slice F n d,.func (.func 112) #[] #[]] w fun e w'=>∃ b:Bool,e=.returned (.bool b)/\(b=true↔∃ i,i<n/\f i≠0)/\w=w':=by
 go_enter Tryz.func111, Tryz.ntmps111
 go_wp2_with fail
 refine (zdz 112 (fun x=>x != 0) (fun _ _=>by kernel_rfl) yaF F n d f w hf hn).mono ?_
 rintro e w1 ⟨rfl,rfl⟩
 obtain ⟨z,hz⟩:∃ z,z=idxP (fun x=>x != 0) f n:=⟨_,rfl⟩
 have hs:=ze3 (fun x=>x != 0) f n
 rw [<-hz] at hs ⊢
 have hd:decide (0<=z)=true↔∃ i,i<n/\f i≠0:=by
  rw [decide_eq_true_iff]
  rcases hs with ⟨h1,h2⟩ | ⟨i,hi,h1,h2⟩
  ·refine ⟨fun h=>by omega,fun ⟨i,hi,h⟩=>?_⟩
   have:=h2 i hi
   simp at this
   exact absurd this h
  ·exact ⟨fun _=>⟨i,hi,by simpa using h2⟩,fun _=>by omega⟩
 have HD:=hid hd
 clear hs hd hz
 go_wp2
 go_ret
 exact ⟨_,rfl,HD.out,rfl⟩
theorem ybk (P M:Int) (A:Option Addr) (k c:Nat) (f:Nat->Int) (N:Int) (TC:Option Addr) (n d:Nat) (ln:Nat->Nat) (V:Nat->Nat->Int) (T:Trel) (TA TB:Option Addr) (ca cb:Nat) (w:World) (hr:IntsR w w.heap.size A k f) (h:IntRows w TC n ln V) (hkc:k<=c) (hT:T.Reads w TA TB) :
  Calls Tryz.prog 47 #[.agg #[.int .i64 P,.int .i64 M,.slice A k c,.int .i64 N,.slice TC n d],.agg #[.slice TA T.nw ca,.slice TB T.n cb]] w fun e w'=>∃ v:Int,e=.returned (.int .i64 v)/\TChk P M k f N n ln V T v/\Below w.heap.size w w':=by
 have HI:=hid hr
 have HT:=hid h
 have HR:=hid hT
 clear hr h hT
 have rf:=zai (w:=w) (a:=.int .i64 P) (b:=.int .i64 M) (c:=.slice A k c) (d:=.int .i64 N) (e:=.slice TC n d) (T := 27)
 have hB:Below w.heap.size w (w.alloc (.cells #[.int .i64 P,.int .i64 M,.slice A k c,.int .i64 N,.slice TC n d] 27)):=(Below.refl _ _).alloc (Nat.le_refl _) _
 obtain ⟨w1,hw1⟩:∃ W,W=w.alloc (.cells #[.int .i64 P,.int .i64 M,.slice A k c,.int .i64 N,.slice TC n d] 27):=⟨_,rfl⟩
 rw [<-hw1] at hB rf
 have rt:=zaB (w:=w1) (a:=.slice TA T.nw ca) (b:=.slice TB T.n cb) (T := 53)
 have kb:Below w1.heap.size w1 (w1.alloc (.cells #[.slice TA T.nw ca,.slice TB T.n cb] 53)):=(Below.refl _ _).alloc (Nat.le_refl _) _
 obtain ⟨w2,hw2⟩:∃ W,W=w1.alloc (.cells #[.slice TA T.nw ca,.slice TB T.n cb] 53):=⟨_,rfl⟩
 rw [<-hw2] at kb rt;replace rf:=zab rf kb;replace hB:=onS hB kb
 have hsz1:w1.heap.size=w.heap.size+1:=by rw [hw1]; simp
 rw [hsz1] at rt
 go_enter Tryz.func47, Tryz.ntmps47
 go_upto_region 1 with fail
 rw [<-hw1,<-hw2];clear hw1 hw2 kb hsz1
 obtain ⟨b0,hb0⟩:∃ b,b=w.heap.size:=⟨_,rfl⟩
 obtain ⟨b1,hb1⟩:∃ b,b=w.heap.size+1:=⟨_,rfl⟩
 rw [<-hb0] at rf;rw [<-hb1] at rt;rw [<-hb1,<-hb0];clear hb0 hb1
 have HBOX:Hid (∀ X,Below w2.heap.size w2 X->X.rowIs b0 27 5 (codCell (.int .i64 P) (.int .i64 M) (.slice A k c) (.int .i64 N) (.slice TC n d))/\X.rowIs b1 53 2 (matCell (.slice TA T.nw ca) (.slice TB T.n cb))):=hid fun X hx=>⟨zab rf hx,zab rt hx⟩
 have HB:=hid hB
 clear hB rt
 have q0:w2.cell? ⟨b0,0,none⟩=some (.int .i64 P):=rf.cell (i:=0) (by omega)
 have q1:w2.cell? ⟨b0,1,none⟩=some (.int .i64 M):=rf.cell (i:=1) (by omega)
 have q2:w2.cell? ⟨b0,2,none⟩=some (.slice A k c):=rf.cell (i:=2) (by omega)
 have q3:w2.cell? ⟨b0,3,none⟩=some (.int .i64 N):=rf.cell (i:=3) (by omega)
 have q4:w2.cell? ⟨b0,4,none⟩=some (.slice TC n d):=rf.cell (i:=4) (by omega)
 clear rf
 go_wp2_with fail
 refine (ybs P M A k c f N TC n d ln V w2 (HI.out.on HB.out) (HT.out.on HB.out) hkc).mono ?_
 rintro e w3 ⟨kb,v,hv,hcase⟩
 have HV:=hid hv
 have KB:=hid kb
 clear kb hv q0 q1 q2 q3 q4
 rcases hcase with ⟨hv0,rfl⟩ | ⟨rfl,P',M',N',rfl,rfl,rfl,hD⟩
 ·have hvn:(v != 0)=true:=by simpa using hv0
  have HV0:=hid hv0
  clear hv0
  have hB2:=(onS HB.out KB.out).alloc (onS HB.out KB.out).size (.cells #[.int .i64 0,.int .i64 0,.slice none 0 0,.int .i64 0,.slice none 0 0] 27)
  have HB2:=hid hB2
  clear hB2
  go_wp2
  go_ret
  exact ⟨v,rfl,.inl ⟨HV0.out,HV.out⟩,HB2.out⟩
 obtain ⟨dv,lv,a,H,rfl,hdO,hM,_,hrel⟩:=hD
 obtain ⟨P2,M2,N2,hP2,hM2,hN2,hC⟩:=zb5 HI.out HT.out HV.out
 obtain rfl:P'=P2:=by omega
 obtain rfl:M'=M2:=by omega
 obtain rfl:N'=N2:=by omega
 clear hP2 hM2 hN2
 have HC:=hid hC
 have hN:=hC.ln2
 have hN1:=hC.ln1
 have HL:=hid (fieldLaws hC.fld)
 have HFO:=hid hC.fld.1
 have hnN:=hC.n_le
 have hcnt:=hrel.count HL.out (fun x _=>⟨zbp (by have:=HFO.out.1; omega),za4 (by have:=HFO.out.1; omega)⟩) hC.rref
 have HREL:=hid hrel
 have HWL:=hid hrel.rref.choose_spec.lt
 obtain ⟨DA,dc,hdv⟩:=hdO.shape
 subst hdv
 obtain ⟨LA,lc,hlv⟩:=hM.shape
 subst hlv
 clear hC hrel hdO
 obtain ⟨b6,hb6⟩:∃ b,b=w3.heap.size:=⟨_,rfl⟩
 have rd:=zai (w:=w3) (a:=.int .i64 (P':Nat)) (b:=.int .i64 (M':Nat)) (c:=.slice DA k dc) (d:=.int .i64 (N':Nat)) (e:=.slice LA a lc) (T := 27)
 have kb:Below w3.heap.size w3 (w3.alloc (.cells #[.int .i64 (P':Nat),.int .i64 (M':Nat),.slice DA k dc,.int .i64 (N':Nat),.slice LA a lc] 27)):=(Below.refl _ _).alloc (Nat.le_refl _) _
 obtain ⟨w4,hw4⟩:∃ W,W=w3.alloc (.cells #[.int .i64 (P':Nat),.int .i64 (M':Nat),.slice DA k dc,.int .i64 (N':Nat),.slice LA a lc] 27):=⟨_,rfl⟩
 rw [<-hw4] at rd kb
 have r4:=(HBOX.out _ (onS KB.out kb)).2
 have p0:w4.cell? ⟨b1,0,none⟩=some (.slice TA T.nw ca):=r4.cell (i:=0) (by omega)
 have p1:w4.cell? ⟨b1,1,none⟩=some (.slice TB T.n cb):=r4.cell (i:=1) (by omega)
 have hMR:MRows w4 LA a N' H:=MTab.rd (hM.on kb) HFO.out.2.2.2 HWL.out
 go_upto_region 4 with fail
 rw [<-hw4,<-hb6];rw [<-hb6] at rd;clear hw4 hb6
 have HM:=hid hMR
 replace KB:=hid (onS KB.out kb)
 have HRD:Hid (∀ X,Below w4.heap.size w4 X->X.rowIs b6 27 5 (codCell (.int .i64 (P':Nat)) (.int .i64 (M':Nat)) (.slice DA k dc) (.int .i64 (N':Nat)) (.slice LA a lc))):=hid fun X hx=>zab rd hx
 clear kb hM hMR rd r4
 go_wp2_with fail
 refine (zd1 T TA TB ca cb w4 (HR.out.on (onS HB.out KB.out))).mono ?_
 rintro e w5 ⟨rfl,kb⟩
 have K4:=hid kb
 clear kb p0 p1
 obtain ⟨u,hu⟩:∃ u,u=T.properE:=⟨_,rfl⟩
 rw [<-hu]
 by_cases hu0:u=0
 rotate_left
 ·have hub:(u != 0)=true:=by simpa using hu0
  have HU:Hid (T.properE≠0/\u=T.properE):=hid ⟨by rw [<-hu]; exact hu0,hu⟩
  clear hu hu0
  go_wp2
  go_ret
  exact ⟨u,rfl,.inr ⟨HV.out,.inl HU.out⟩,onS (onS HB.out KB.out) K4.out⟩
 subst hu0
 have HPE:Hid (T.properE=0):=hid hu.symm
 have HP:=hid (Trel.proper_of HPE.out)
 clear hu
 have r5:=HBOX.out _ (onS KB.out K4.out)
 have p1:w5.cell? ⟨b1,1,none⟩=some (.slice TB T.n cb):=r5.2.cell (i:=1) (by omega)
 have q3:w5.cell? ⟨b0,3,none⟩=some (.int .i64 (N':Nat)):=r5.1.cell (i:=3) (by omega)
 by_cases hTN:T.n=N'
 rotate_left
 ·have hne:((T.n:Int) != (N':Int))=true:=by simp; omega
  have HTN:=hid hTN
  clear r5 hTN
  go_wp2
  go_ret
  exact ⟨13,rfl,.inr ⟨HV.out,.inr ⟨HPE.out,P',M',N',rfl,rfl,rfl,.inl ⟨HTN.out,rfl⟩⟩⟩,onS (onS HB.out KB.out) K4.out⟩
 have hne:((T.n:Int) != (N':Int))=false:=by simp; omega
 have hne:((T.n:Int) != (T.n:Int))=false:=by simp
 subst hTN
 go_upto_region 9 with fail
 have q0:w5.cell? ⟨b0,0,none⟩=some (.int .i64 (P':Nat)):=r5.1.cell (i:=0) (by omega)
 have q1:w5.cell? ⟨b0,1,none⟩=some (.int .i64 (M':Nat)):=r5.1.cell (i:=1) (by omega)
 have q2:w5.cell? ⟨b0,2,none⟩=some (.slice A k c):=r5.1.cell (i:=2) (by omega)
 clear r5 hne p1
 go_wp2_with fail
 refine (zbP (P':Int) (M':Int) A k c f w5 (HI.out.on (onS (onS HB.out KB.out) K4.out))).mono ?_
 rintro e w6 ⟨kb,hcase⟩
 rcases hcase with ⟨hbad,_⟩ | ⟨_,g,P2,M2,hP2,hM2,rfl,_,hG⟩
 ·refine absurd ?_ hbad
  rcases HV.out with ⟨_,h9⟩ | ⟨h1,_⟩
  ·cases h9
  ·exact h1
 obtain rfl:P'=P2:=by omega
 obtain rfl:M'=M2:=by omega
 have HG:=hid hG.gf
 replace K4:=hid (onS K4.out kb);clear kb q0 q1 q2 q3 hP2 hM2 hG
 have r6:=HRD.out _ K4.out
 have y2:w6.cell? ⟨b6,4,none⟩=some (.slice LA a lc):=r6.cell (i:=4) (by omega)
 have s6:=HBOX.out _ (onS KB.out K4.out)
 have p0:w6.cell? ⟨b1,0,none⟩=some (.slice TA T.nw ca):=s6.2.cell (i:=0) (by omega)
 have p1:w6.cell? ⟨b1,1,none⟩=some (.slice TB T.n cb):=s6.2.cell (i:=1) (by omega)
 clear r6 s6
 go_wp2_with fail
 refine (yaE T TA TB LA ca cb lc a (P' ^ M') H w6 (hid rfl) HG.out (HR.out.on (onS (onS HB.out KB.out) K4.out)) HP.out (HM.out.on K4.out) HWL.out (by omega)).mono ?_
 rintro e w7 ⟨kb,hcase⟩
 replace K4:=hid (onS K4.out kb);replace HG:=hid (HG.out.on kb);clear kb y2 p0 p1
 rcases hcase with ⟨hok,go,gg,R,rfl,hcell,hLT⟩ | ⟨hno,rfl⟩
 rotate_left
 ·have HNO:=hid hno
  clear hno
  go_wp2
  go_ret
  exact ⟨13,rfl,.inr ⟨HV.out,.inr ⟨HPE.out,P',M',T.n,rfl,rfl,rfl,.inr ⟨rfl,a,H,HREL.out,.inr rfl,⟨fun h=>absurd h (by omega),fun h=>absurd h.1 HNO.out⟩⟩⟩⟩,onS (onS HB.out KB.out) K4.out⟩
 have HOK:=hid hok
 have hw1:(T.W T.n).toNat=1:=by rw [HP.out.wn]; rfl
 rw [hw1] at hcell hLT
 obtain ⟨SA,sc,hRS⟩:=(hLT.yes 0 (by omega) trivial).shape
 have hO:=hLT.yes 0 (by omega) trivial
 have hg0:=hLT.row.cell (i:=0) (by omega)
 rw [hRS] at hO hg0
 have HSA:=hid (show IntsR w7 w7.heap.size SA a (fun k=>((T.syn (addF P' M') (mulF P' M' fun i=>(f i).toNat) H T.n 0 k:Nat):Int)) from hO.rd rfl)
 have HNW:=hid HP.out.shape.nw
 have hnw2:(T.n:Int)<(T.nw:Int):=by have:=HNW.out; omega
 have hn0:(0:Int)<=(T.n:Int):=by omega
 have r7:=HBOX.out _ (onS KB.out K4.out)
 have q3:w7.cell? ⟨b0,3,none⟩=some (.int .i64 (T.n:Nat)):=r7.1.cell (i:=3) (by omega)
 clear hw1 hLT hRS hO hok r7
 go_wp2_with fail
 refine (yaA SA a sc _ w7 HSA.out (by omega)).mono ?_
 rintro e w8 ⟨b,rfl,hb,rfl⟩
 have HBB:=hid hb
 clear hb hcell hg0 q3
 cases b with
 | true =>
  have HNO:Hid (¬ ∀ k,k<a->T.syn (addF P' M') (mulF P' M' fun i=>(f i).toNat) H T.n 0 k=0):=hid fun h=>by
   obtain ⟨i,hi,h1⟩:=HBB.out.1 rfl
   exact h1 (by rw [h i hi]; rfl)
  go_wp2
  go_ret
  exact ⟨13,rfl,.inr ⟨HV.out,.inr ⟨HPE.out,P',M',T.n,rfl,rfl,rfl,.inr ⟨rfl,a,H,HREL.out,.inr rfl,⟨fun h=>absurd h (by omega),fun h=>absurd h.2.1 HNO.out⟩⟩⟩⟩,onS (onS HB.out KB.out) K4.out⟩
 | false =>
  have HZ:Hid (∀ k,k<a->T.syn (addF P' M') (mulF P' M' fun i=>(f i).toNat) H T.n 0 k=0):=hid fun k hk=>by
   by_cases hz:T.syn (addF P' M') (mulF P' M' fun i=>(f i).toNat) H T.n 0 k=0
   ·exact hz
   ·exact nomatch HBB.out.2 ⟨k,hk,by show ((T.syn (addF P' M') (mulF P' M' fun i=>(f i).toNat) H T.n 0 k:Nat):Int)≠0; omega⟩
  have s6:=HBOX.out _ (onS KB.out K4.out)
  have p0:w7.cell? ⟨b1,0,none⟩=some (.slice TA T.nw ca):=s6.2.cell (i:=0) (by omega)
  have p1:w7.cell? ⟨b1,1,none⟩=some (.slice TB T.n cb):=s6.2.cell (i:=1) (by omega)
  clear s6 HSA HBB hnw2 hn0
  go_wp2_with fail
  refine (zhx T TA TB ca cb w7 (HR.out.on (onS (onS HB.out KB.out) K4.out))).mono ?_
  rintro e w8 hpp
  rcases hpp with ⟨hbad,_⟩ | ⟨_,A4,c4,rfl,g1,g2,g3,kb⟩
  ·exact absurd HPE.out hbad
  have HN4:=hid g3
  have HG1:=hid g1
  have HG2:=hid g2
  replace K4:=hid (onS K4.out kb);replace HG:=hid (HG.out.on kb);clear kb g1 g2 g3 p0 p1
  have q4:w8.cell? ⟨b0,4,none⟩=some (.slice TC n d):=((HBOX.out _ (onS KB.out K4.out)).1).cell (i:=4) (by omega)
  have HD4:Hid (∃ Q,Q=P' ^ M'):=hid ⟨_,rfl⟩
  obtain ⟨Q,hQ⟩:=HD4.out
  have hq256:Q<=256:=by rw [hQ]; exact HFO.out.2.2.2
  have hq2:2<=Q:=by rw [hQ]; exact HL.out.two
  have hnT:n<=64:=by omega
  have hdq:dl Q<=1:=ziI (by omega)
  have hnl:nlen Q<=9:=ya2 (by omega)
  have hnl2:nlen Q<=1∨(nlen Q - 1)*n<131072:=.inr (Nat.lt_of_le_of_lt (Nat.mul_le_mul (by omega:nlen Q - 1<=8) hnT) (by decide))
  have hdp:dl (Q ^ n)<=64:=ziI (Nat.lt_of_le_of_lt (Nat.le_trans (Nat.pow_le_pow_left hq256 n) (Nat.pow_le_pow_right (by omega) hnT)) (by decide))
  have HORD:Hid (∀ W,GF W W.heap.size g P' M' (fun i=>(f i).toNat)->Calls Tryz.prog 76 #[.pointer (some ⟨g,0,none⟩)] W fun e w'=>e=.returned (.int .i64 (Q:Nat))/\Below W.heap.size W w'):=hid fun W hW=>by rw [hQ]; exact zeN hW
  have HQ:=hid hQ
  have HDQ:=hid hdq
  have HNL:=hid hnl2
  have HDP:=hid hdp
  clear hQ hdq hdp hnl hnl2 HD4
  go_upto_region 14 with fail
  go_cut [14] (fun v14 wx=>∃ (PA:Option Addr) (pc:Nat),v14=.slice PA (dl (Q ^ n)) pc/\dl (Q ^ n)<=pc/\pc<=maxLen/\NatOk wx wx.heap.size PA (Q ^ n)/\Below w8.heap.size w8 wx)
  case first =>
   have kb:Below w8.heap.size w8 w8.drew:=(Below.refl _ _).drew
   refine wp_region_held_drew (S:=fun w'=>w'.cell? ⟨b0,4,none⟩=some (.slice TC n d)) (by kernel_rfl) (cellS kb q4) (fun hHeld=>?_)
   obtain ⟨w10,hw⟩:∃ W,W=World.drew w8:=⟨_,rfl⟩
   rw [<-hw] at kb hHeld ⊢;clear hw;replace q4:=cellS kb q4
   have K8:=hid kb
   have HG8:=hid (HG.out.on kb)
   clear kb
   refine tkq 0 (h:=tkq 4 (h:=tkq 5 (h:=tkq 6 (h:=?_))))
   clear hHeld
   refine rdq 1 (h:=fun K hK=>?_)
   go_simp
   go_wp2_with fail
   refine (HORD.out w10 HG8.out).mono ?_
   rintro e w11 ⟨rfl,kb⟩
   replace q4:=cellS kb q4;replace K8:=hid (onS K8.out kb);clear kb
   refine bkq hK q4 (h:=fun hHeld=>?_)
   clear hK K
   refine tkq 2 (h:=?_)
   clear hHeld
   refine rdq 3 (h:=fun K hK=>?_)
   go_simp
   go_wp2_with fail
   rw [show IntKind.u64.wrap (Q:Int)=(Q:Int) from by rw [IntWalk.u64_in _ (by omega)]]
   refine (zdg Q w11 (by omega)).mono ?_
   rintro e w12 ⟨A2,c2,rfl,h1,h2,h3,kb⟩
   have HNO:=hid h3
   have HC2:=hid h1
   have HC3:=hid h2
   replace q4:=cellS kb q4;replace K8:=hid (onS K8.out kb);clear kb h1 h2 h3
   refine bkq hK q4 (h:=fun hHeld=>?_)
   clear hK K hHeld
   refine rdq 7 (h:=fun K hK=>?_)
   go_simp
   go_wp2_with fail
   refine (ybd A2 c2 Q n w12 HNO.out HC2.out HC3.out (by have:=HDQ.out; omega) (by omega) HNL.out (by have:=HDP.out; omega)).mono ?_
   rintro e w13 ⟨A3,c3,rfl,h1,h2,h3,kb⟩
   have HNP:=hid h3
   have HC6:=hid h1
   have HC7:=hid h2
   replace q4:=cellS kb q4;replace K8:=hid (onS K8.out kb);clear kb h1 h2 h3 HC2 HC3 HNO
   refine bkq hK q4 (h:=fun hHeld=>?_)
   clear hK K
   refine tkq 8 (h:=tkq 9 (h:=tkq 10 (h:=tkq 11 (h:=tkq 12 (h:=?_)))))
   refine wpAnyH_done (by kernel_rfl) ?_ _
   clear hHeld
   go_wp2
   go_meet
   exact ⟨A3,c3,rfl,HC6.out,HC7.out,HNP.out,K8.out⟩
  case rest =>
   obtain ⟨PA,pc,rfl,hp1,hp2,hNP,hB⟩:=hcut
   obtain ⟨w10,hw10⟩:∃ X,X=wc:=⟨_,rfl⟩
   subst hw10
   have HNP:=hid hNP
   have HP1:=hid hp1
   have HP2:=hid hp2
   have HN5:=hid (show NatOk w10 w10.heap.size A4 (T.fwd (fun _ _=>1) T.n 0) from HN4.out.on hB)
   replace K4:=hid (onS K4.out hB);clear q4 hNP hp1 hp2 hB
   go_wp2_with fail
   refine (ybf A4 PA c4 pc (T.fwd (fun _ _=>1) T.n 0) (Q ^ n) w10 HN5.out HNP.out HG1.out HG2.out HP1.out HP2.out (by have:=HDP.out; omega)).mono ?_
   rintro e w11 ⟨rfl,kb⟩
   replace K4:=hid (onS K4.out kb);clear kb
   obtain ⟨z,hz⟩:∃ z,z=cmpN (T.fwd (fun _ _=>1) T.n 0) (Q ^ n):=⟨_,rfl⟩
   rw [<-hz]
   have hzz:z=0↔IsTr (P' ^ M') a (addF P' M') (mulF P' M' fun i=>(f i).toNat) H T n:=by
    have h0:z=0↔T.fwd (fun _ _=>1) T.n 0=Q ^ n:=by
     rw [hz]
     unfold cmpN
     split
     ·exact ⟨fun h=>absurd h (by omega),fun h=>absurd h (by omega)⟩
     ·split
      ·exact ⟨fun h=>absurd h (by omega),fun h=>absurd h (by omega)⟩
      ·exact ⟨fun _=>by omega,fun _=>rfl⟩
    rw [h0,HQ.out]
    exact ⟨fun h=>⟨HOK.out,HZ.out,h⟩,fun h=>h.2.2⟩
   have HZZ:=hid hzz
   clear hz hzz
   by_cases hz0:z=0
   ·have hzb:(z != 0)=false:=by simp [hz0]
    have HT0:=hid (HZZ.out.1 hz0)
    clear hz0
    go_wp2
    go_ret
    exact ⟨0,rfl,.inr ⟨HV.out,.inr ⟨HPE.out,P',M',T.n,rfl,rfl,rfl,.inr ⟨rfl,a,H,HREL.out,.inl rfl,⟨fun _=>HT0.out,fun _=>rfl⟩⟩⟩⟩,onS (onS HB.out KB.out) K4.out⟩
   ·have hzb:(z != 0)=true:=by simpa using hz0
    have HT0:Hid (¬ IsTr (P' ^ M') a (addF P' M') (mulF P' M' fun i=>(f i).toNat) H T n):=hid fun h=>hz0 (HZZ.out.2 h)
    clear hz0
    go_wp2
    go_ret
    exact ⟨13,rfl,.inr ⟨HV.out,.inr ⟨HPE.out,P',M',T.n,rfl,rfl,rfl,.inr ⟨rfl,a,H,HREL.out,.inr rfl,⟨fun h=>absurd h (by omega),fun h=>absurd h HT0.out⟩⟩⟩⟩,onS (onS HB.out KB.out) K4.out⟩
end Go.Proofs.YtgekjfpapmlndaaGreat
namespace Go.Proofs
open Go.Shelf
end Go.Proofs
namespace Go.Proofs.YtgekjfpapmlndaaGreat
set_option maxRecDepth 100000
set_option maxHeartbeats 32000000
open Go.RowKit
def Trel.re (T:Trel) (y:Nat->Nat->Int × Int × Int):Trel:=⟨T.nw,T.W,T.n,T.el,fun i j=>(y i j).1,fun i j=>(y i j).2.1,fun i j=>(y i j).2.2⟩
theorem IsRen.in64 {T:Trel} (hP:T.Proper) {y:Nat->Nat->Int × Int × Int} (h:IsRen T y) {i:Nat} (hi:i<T.n) {j:Nat} (hj:j<T.el i):InI64 (y i j).1/\InI64 (y i j).2.1/\InI64 (y i j).2.2:=by
 have hm:y i j ∈ (List.range (T.el i)).map (y i):=List.mem_map.2 ⟨j,List.mem_range.2 hj,rfl⟩
 obtain ⟨q,hq,e⟩:=List.mem_map.1 ((h i hi).1.mem_iff.1 hm)
 rw [List.mem_range] at hq;rw [<-e]
 have h1:=hP.nm_lt (by omega) (hP.frL hi hq).1
 have h2:=hP.nm_lt (i:=i+1) (by omega) (hP.toL hi hq).1
 have h3:=(hP.shape.wid (i:=i) (by omega)).2
 have h4:=(hP.shape.wid (i:=i+1) (by omega)).2
 have h5:=hP.lbL hi hq
 refine ⟨⟨?_,?_⟩,⟨?_,?_⟩,⟨?_,?_⟩⟩
 ·show (-9223372036854775808:Int)<=(T.nm i (T.fr i q).toNat:Nat); omega
 ·show ((T.nm i (T.fr i q).toNat:Nat):Int)<=9223372036854775807; omega
 ·show (-9223372036854775808:Int)<=T.lb i q; omega
 ·show T.lb i q<=(9223372036854775807:Int); omega
 ·show (-9223372036854775808:Int)<=(T.nm (i+1) (T.to i q).toNat:Nat); omega
 ·show ((T.nm (i+1) (T.to i q).toNat:Nat):Int)<=9223372036854775807; omega
theorem IsRen.reads {T:Trel} (hP:T.Proper) {y:Nat->Nat->Int × Int × Int} (h:IsRen T y) {w:World} {base:Nat} {v wv:Value} (hE:ETab w base v T.n T.el y) (hA:Own w base 3 1 wv T.nw (fun k _=>.int .i64 (T.W k))) :
  ∃ A B c d,wv=.slice A T.nw c/\v=.slice B T.n d/\(T.re y).Reads w A B/\T.nw<=c/\c<=maxLen/\T.n<=d/\d<=maxLen:=by
 have hnw:=hP.shape.nw
 have hn:=hP.shape.n64
 refine ETab.reads (T:=T.re y) hE hA (fun i hi=>?_) (fun i hi j hj=>h.in64 hP hi hj) (by show T.nw<=_; omega) (by show T.n<=_; omega) (fun i hi=>by have:=hP.shape.elb hi; show T.el i<=_; omega)
 have hi':i<T.nw:=hi
 have:=hP.shape.wid (i:=i) (by omega)
 refine ⟨?_,?_⟩
 ·show (-9223372036854775808:Int)<=T.W i; omega
 ·show T.W i<=(9223372036854775807:Int); omega
theorem RenOut.reads {T:Trel} (hP:T.Proper) {y:Nat->Nat->Int × Int × Int} (hy:IsRen T y) {w:World} {A B:Option Addr} {c d:Nat} (h:RenOut T y w A B c d):(T.re y).Reads w A B/\T.nw<=c/\c<=maxLen/\T.n<=d/\d<=maxLen:=by
 obtain ⟨A',B',c',d',e1,e2,hR,k1,k2,k3,k4⟩:=hy.reads hP h.1 h.2
 injection e1 with e1 _ e1'
 subst e1 e1'
 injection e2 with e2 _ e2'
 subst e2 e2'
 exact ⟨hR,k1,k2,k3,k4⟩
open Go.ChangeShapes Go.WideShapes Go.ChangeAt
end Go.Proofs.YtgekjfpapmlndaaGreat