/- Merged texts of a claim: AppSome, Find47, FsPl, Same47, FsCov, FromSPl, RefRen, Iso47, FromSPl2, SlCmp, HasA, HasB, HasC, HasD, MemLaw. -/
import Derived.Test.YtgekjfpapmlndaaGreatTY17
import Derived.Laws.StructEq
namespace Go.Proofs.YtgekjfpapmlndaaGreat
set_option maxRecDepth 100000
set_option maxHeartbeats 32000000
open KA KB KC KD KE KF
open Go.RowKit
section
variable {P:Program} (w:World)
theorem zla {t e:TypeId} {i:TypeInfo} (ht:P.underlying t=some (.slice e)) (hsize:i.size=1) {A:Option Addr} {m c:Nat} {g:Nat->Value} (hsrc:Rd w w.heap.size A m 1 (fun k _=>g k)) (h1:∀ k,k<m->(g k).oneCell'=true) :
  Src P i.size t (.slice A m c) m ((List.range m).map g) w:=by
 cases A with
 | none =>
  cases m with
  | zero=>exact Src.ofNil w ht c
  | succ m =>
   obtain ⟨b,off,e1,_⟩:=hsrc 0 (by omega)
   cases e1
 | some a =>
  refine Src.ofSlice w (e':=e) ht a m c _ (by simp [hsize]) (fun j u hu=>?_) fun u hu=>?_
  ·have hj:j<m:=by have:=(List.getElem?_eq_some_iff.1 hu).1; simpa using this
   rw [List.getElem?_map,List.getElem?_range hj] at hu
   simp only [Option.map_some,Option.some.injEq] at hu
   subst hu
   obtain ⟨b,off,e1,_,hc⟩:=hsrc j hj
   injection e1 with e1
   subst e1
   have d:(⟨b,off,none⟩:Addr).add j=⟨b,off+j,none⟩:=by unfold Addr.add; split <;> simp_all
   rw [d]
   have:=hc 0 (by omega)
   rw [Nat.mul_one,Nat.add_zero] at this
   exact this
  ·obtain ⟨j,hj,rfl⟩:=List.mem_map.1 hu
   exact h1 j (List.mem_range.1 hj)
theorem zds (base:Nat) (t ty e:TypeId) (i:TypeInfo) (z:Value) (bytes:Nat) (ht:P.underlying t=some (.slice e)) (hi:P.info? e=some i) (hz:i.zero=some z)
  (hsize:i.size=1) (hby:i.bytes=bytes) (hzs:z.cells.size=1)
  (g0 o0 n cap0:Nat) (f:Nat->Value) (hown:Own w base e 1 (.slice (some ⟨g0,o0,none⟩) n cap0) n (fun k _=>f k))
  (A:Option Addr) (m c:Nat) (g:Nat->Value) (hsrc:Rd w w.heap.size A m 1 (fun k _=>g k)) (h1:∀ k,k<m->(g k).oneCell'=true)
  (h63:n+m<=maxLen) (hbytes:(n+m)*bytes<=140737488355328) (hbase:base<=w.heap.size) :
  ∃ v' w',(Builtin.append_ #[t,t] ty #[.slice (some ⟨g0,o0,none⟩) n cap0,.slice A m c]).run P w=.ok v' w'/\Own w' base e 1 v' (n+m) (fun k _=>if k<n then f k else g (k - n))/\w.grownBy w' (some g0):=by
 have d:n+m<=9223372036854775807:=by simp only [maxLen] at h63; omega
 have hs:=zla (P:=P) w (t:=t) (e:=e) (i:=i) ht hsize (c:=c) hsrc h1
 rcases hown with ⟨h,_⟩ | ⟨gg,o,cap,cur,hv,hb,hg,y,x,p,q⟩
 ·simp at h
 simp only [Value.slice.injEq,Option.some.injEq,Addr.mk.injEq,and_true,true_and] at hv
 obtain ⟨⟨rfl,rfl⟩,rfl⟩:=hv
 have a:∀ k,k<n->cur[o0+k]?=some (f k):=fun k hk=>by have:=q k hk 0 (by omega); rwa [Nat.mul_one,Nat.add_zero] at this
 rw [Nat.mul_one] at p
 by_cases hroom:n+m<=cap0
 ·have B:∀ j,j<m->o0+n+j<cur.size:=fun j hj=>by omega
  have s:=run_storeCells_at P g0 (o0+n*i.size) e ((List.range m).map g) 0 cur w hg (by simp [hsize]; omega) hs.one
  have b:(Builtin.append_ #[t,t] ty #[.slice (some ⟨g0,o0,none⟩) n cap0,.slice A m c]).run P w=.ok (.slice (some ⟨g0,o0,none⟩) (n+m) cap0) (w.setRow g0 (cur.toList.take (o0+n*i.size) ++ (List.range m).map g ++ cur.toList.drop (o0+n*i.size+((List.range m).map g).length)).toArray):=by
   simp only [Nat.add_zero] at s
   rcases hs.kind with ⟨e',hk⟩ | hk <;> simp [Builtin.append_,run_underlying ht,sizeOf,typeInfo,hi,hs.len,hroom,hs.cells,Addr.add_lit,s]
  refine ⟨_,_,b,.inr ⟨g0,o0,cap0,_,rfl,hb,zbi hg,hroom,x,?_,fun k hk j hj=>?_⟩,zcb w g0 _⟩
  ·simp [hsize]; omega
  obtain rfl:j=0:=by omega
  rw [Nat.mul_one,Nat.add_zero,List.getElem?_toArray,hsize,Nat.mul_one]
  have v:(cur.toList.take (o0+n)).length=o0+n:=by simp; omega
  by_cases hkn:k<n
  ·dsimp only
   rw [if_pos hkn,List.append_assoc,List.getElem?_append_left (by omega),List.getElem?_take,if_pos (by omega),Array.getElem?_toList]
   exact a k hkn
  dsimp only
  rw [if_neg hkn,List.append_assoc,List.getElem?_append_right (by omega),v,List.getElem?_append_left (by simp; omega),List.getElem?_map,show o0+k - (o0+n)=k - n by omega,List.getElem?_range (by omega)]
  rfl
 have l:(Builtin.firstCells i.size n (.slice (some ⟨g0,o0,none⟩) n cap0)).run P w.drew=.ok ((List.range n).map f).toArray w.drew:=by
  refine run_firstCells_some (P:=P) w.drew i.size n ⟨g0,o0,none⟩ n cap0 ((List.range n).map f) (by simp [hsize]) fun j u hu=>?_
  have hj:j<n:=by have:=(List.getElem?_eq_some_iff.1 hu).1; simpa using this
  rw [List.getElem?_map,List.getElem?_range hj] at hu
  simp only [Option.map_some,Option.some.injEq] at hu
  subst hu
  have r:(⟨g0,o0,none⟩:Addr).add j=⟨g0,o0+j,none⟩:=by unfold Addr.add; split <;> simp_all
  rw [r]
  show w.cell? ⟨g0,o0+j,none⟩=_
  rw [cell_of_row w g0 _ cur e (0,0) hg,a j hj]
 have b:=run_append_grow_src (P:=P) w t t ty e i z ht hi hz (some ⟨g0,o0,none⟩) n cap0 ((List.range n).map f) l (.slice A m c) m ((List.range m).map g) hs (by omega) (by omega) (growslice_fits (by omega) (by rw [hby]; exact hbytes))
 refine ⟨_,_,b,.inr ⟨w.heap.size,0,_,_,rfl,hbase,heap_alloc_new w.drew _,grownCap_ge w (n+m) cap0 e,grownCap_le_maxLen w (n+m) cap0 e h63,?_,fun k hk j hj=>?_⟩,⟨rfl,rfl,rfl,by simp,fun k hk _=>Below.heap_alloc w.drew _ k hk⟩⟩
 ·have C:=grownCap_ge w (n+m) cap0 e
  simp [size_zeroCells,hzs]
  omega
 obtain rfl:j=0:=by omega
 rw [Nat.mul_one,Nat.add_zero,Nat.zero_add,Array.getElem?_append_left (by simp; omega),List.getElem?_toArray]
 by_cases hkn:k<n
 ·dsimp only
  rw [if_pos hkn,List.getElem?_append_left (by simp; omega),List.getElem?_map,List.getElem?_range hkn]
  rfl
 dsimp only
 rw [if_neg hkn,List.getElem?_append_right (by simp; omega),List.getElem?_map]
 simp only [List.length_map,List.length_range]
 rw [List.getElem?_range (by omega)]
 rfl
theorem zaC {ops:Array Oper} {rest:List Oper} {o:Oper} {a:Act} {Q:Exit->Act->World->Prop} (hgd:o.guard=none) (sl x:Operand) (t:TypeId)
  (ho:o.op=.call { callee:=.builtin .append,args:=#[sl,x],argTypes:=#[t,t] })
  (base:Nat) (e:TypeId) (i:TypeInfo) (z:Value) (bytes:Nat) (ht:P.underlying t=some (.slice e)) (hi:P.info? e=some i) (hz:i.zero=some z)
  (hsize:i.size=1) (hby:i.bytes=bytes) (hzs:z.cells.size=1)
  (g0 o0 n cap0:Nat) (f:Nat->Value) (hv:a.eval sl=.slice (some ⟨g0,o0,none⟩) n cap0) (hown:Own w base e 1 (.slice (some ⟨g0,o0,none⟩) n cap0) n (fun k _=>f k))
  (A:Option Addr) (m c:Nat) (g:Nat->Value) (hx:a.eval x=.slice A m c) (hsrc:Rd w w.heap.size A m 1 (fun k _=>g k)) (h1:∀ k,k<m->(g k).oneCell'=true)
  (h63:n+m<=maxLen) (hbytes:(n+m)*bytes<=140737488355328) (hbase:base<=w.heap.size)
  (h:∀ v' w',Own w' base e 1 v' (n+m) (fun k _=>if k<n then f k else g (k - n))->w.grownBy w' (some g0)->wpList P ops Q rest (a.put o.dst v') w'):wpList P ops Q (o :: rest) a w:=by
 refine wpList_plain hgd fun K hK=>?_
 obtain ⟨v',w',b,h2,h3⟩:=zds (P:=P) w base t o.type e i z bytes ht hi hz hsize hby hzs g0 o0 n cap0 f hown A m c g hsrc h1 h63 hbytes hbase
 unfold Oper.wp execOp
 simp only [ho,resolve,invoke,builtin,Sem.run_bind,Sem.run_pure,Result.andThen_ok,List.map_toArray,List.map_cons,List.map_nil,hv,hx,b]
 exact hK _ _ (h v' w' h2 h3)
end
open Go.ChangeShapes Go.WideShapes Go.ChangeAt
def ltL (r:Nat) (x y:List Int):Prop:=LexLt (fun j=>x.getD j 0) (fun j=>y.getD j 0) r
theorem ltL.irr {r:Nat} {x:List Int} (h:ltL r x x):False:=by
 obtain ⟨i,_,_,h3⟩:=h
 exact absurd h3 (Int.lt_irrefl _)
theorem ltL.trans {r:Nat} {x y z:List Int} (h:ltL r x y) (h':ltL r y z):ltL r x z:=by
 obtain ⟨i,hi,a1,a2⟩:=h
 obtain ⟨j,hj,b1,b2⟩:=h'
 dsimp only at a1 a2 b1 b2
 rcases Nat.lt_trichotomy i j with e | e | e
 ·exact ⟨i,hi,fun t ht=>by dsimp only; rw [a1 t ht,b1 t (by omega)],by dsimp only; rw [<-b1 i e]; exact a2⟩
 ·subst e
  exact ⟨i,hi,fun t ht=>by dsimp only; rw [a1 t ht,b1 t ht],by dsimp only; omega⟩
 ·exact ⟨j,hj,fun t ht=>by dsimp only; rw [a1 t (by omega),b1 t ht],by dsimp only; rw [a1 j e]; exact b2⟩
theorem ltL.asymm {r:Nat} {x y:List Int} (h:ltL r x y) (h':ltL r y x):False:=(h.trans h').irr
def IsPos (r:Nat) (L:List (List Int)) (x:List Int) (i:Nat):Prop :=
 i<=L.length/\(∀ j,j<i->ltL r (L.getD j []) x)/\(i<L.length->¬ ltL r (L.getD i []) x)
theorem IsPos.unique {r:Nat} {L:List (List Int)} {x:List Int} {i j:Nat} (h:IsPos r L x i) (h':IsPos r L x j):i=j:=by
 rcases Nat.lt_trichotomy i j with e | e | e
 ·exact absurd (h'.2.1 i e) (h.2.2 (by have:=h'.1; omega))
 ·exact e
 ·exact absurd (h.2.1 j e) (h'.2.2 (by have:=h.1; omega))
def FindPost (r:Nat) (L:List (List Int)) (x:List Int) (w:World) (e:Ending) (w':World):Prop :=
 Below w.heap.size w w'/\∃ (i:Nat) (b:Bool),e=.returned (.tuple #[.int .i64 (i:Nat),.bool b])/\IsPos r L x i/\(b=true↔i<L.length/\∀ j,j<r->(L.getD i []).getD j 0=x.getD j 0)
theorem zfv (r:Nat) (A:Option Addr) (c:Nat) (L:List (List Int)) (B:Option Addr) (d:Nat) (x:List Int) (w:World) (h:IntRows w A L.length (fun _=>r) (fun i j=>(L.getD i []).getD j 0)) (hx:IntsR w w.heap.size B r (fun j=>x.getD j 0)) (hL:L.length<=1048576) (hr:r<=1048576) :
  Calls Tryz.prog 91 #[.slice A L.length c,.slice B r d] w (FindPost r L x w):=by
 obtain ⟨n,hn⟩:=exx L.length
 rw [<-hn] at h hL ⊢
 have HN:=hid hn
 have HT:=hid h
 have HX:=hid hx
 clear h hx hn
 go_enter Tryz.func91, Tryz.ntmps91
 go_upto_region 2 with fail
 go_loopg [6] n (fun gg iv wx=>∃ k:Nat,iv=.int .i64 (k:Nat)/\k<=n/\n<=k+gg/\Hid (∀ j,j<k->ltL r (L.getD j []) x)/\Below w.heap.size w wx)
 case atStart=>exact ⟨0,rfl,by omega,by omega,hid fun j h=>absurd h (by omega),Below.refl _ _⟩
 obtain ⟨k,rfl,hk,E,o,p⟩:=hrel
 have F:(0:Int)<=(k:Int):=by omega
 have K:=hid p
 obtain ⟨w1,u⟩:=exx wr
 subst u
 clear p
 by_cases hlt:k<n
 rotate_left
 ·have g:¬ (k:Int)<(n:Int):=by omega
  obtain rfl:k=n:=by omega
  go_wp2
  go_ret2
  exact ⟨K.out,k,false,rfl,⟨by rw [<-HN.out]; omega,o.out,fun h=>by rw [<-HN.out] at h; omega⟩,⟨(fun h=>by cases h),fun h=>by have:=HN.out; omega⟩⟩
 have g:(k:Int)<(n:Int):=by omega
 obtain ⟨tb,to0,RA,rc,y,v,t0,_,_,a,_⟩:=(HT.out.on K.out) k hlt
 subst y
 have l:=hid a
 clear a v
 go_wp2_with fail
 refine (zeb RA B r rc d (fun j=>(L.getD k []).getD j 0) (fun j=>x.getD j 0) w1 l.out (HX.out.on K.out) (by omega)).mono ?_
 rintro e w2 ⟨z,rfl,hz,kb⟩
 have HZ:=hid hz
 replace K:=hid (onS K.out kb);clear hz kb t0
 by_cases hz1:z<0
 ·have t:¬ (z ≥ 0):=by omega
  have s:decide (z ≥ 0)=false:=by simp; omega
  have m:Hid (∀ j,j<k+1->ltL r (L.getD j []) x):=hid fun j hj=>by
   by_cases e:j=k
   ·subst e
    rcases HZ.out with ⟨_,h⟩ | ⟨h,_⟩ | ⟨h,_⟩
    ·exact h
    ·omega
    ·omega
   ·exact o.out j (by omega)
  go_wp2
  go_roundg (gk - 1)
  case measure=>omega
  case rel=>exact ⟨k+1,by go_num,by omega,by omega,m,K.out⟩
 have t:z ≥ 0:=by omega
 have s:decide (z ≥ 0)=true:=by simp; omega
 have D:Hid (¬ ltL r (L.getD k []) x):=hid fun h=>by
  rcases HZ.out with ⟨h1,_⟩ | ⟨_,h1⟩ | ⟨_,h1⟩
  ·omega
  ·exact ltL.asymm h h1
  obtain ⟨i,hi,_,h3⟩:=h
  dsimp only at h3
  rw [h1 i hi] at h3
  omega
 obtain ⟨zb,b⟩:∃ zb:Bool,zb=(z == 0):=⟨_,rfl⟩
 have q:Hid (zb=true↔∀ j,j<r->(L.getD k []).getD j 0=x.getD j 0):=hid (by
  rw [b]
  rcases HZ.out with ⟨h1,_⟩ | ⟨h1,h2⟩ | ⟨h1,h2⟩
  ·omega
  ·subst h1
   refine ⟨fun h=>by simp at h,fun h=>?_⟩
   obtain ⟨i,hi,_,h3⟩:=h2
   dsimp only at h3
   rw [h i hi] at h3
   omega
  ·subst h1
   exact ⟨fun _=>h2,fun _=>rfl⟩)
 have C:=hid b.symm
 clear b
 go_wp2
 rw [C.out]
 go_ret2
 exact ⟨K.out,k,zb,rfl,⟨by rw [<-HN.out]; omega,o.out,fun _=>D.out⟩,⟨fun h=>⟨by rw [<-HN.out]; omega,q.out.1 h⟩,fun h=>q.out.2 h.2⟩⟩
def RowV (base:Nat) (w:World) (v:Value) (r:Nat) (f:Nat->Int):Prop :=
 Own w base 3 1 v r (fun j _=>.int .i64 (f j))/\∀ j,j<r -> -9223372036854775808<=f j/\f j<=9223372036854775807
theorem RowV.on {base:Nat} {w w':World} {v:Value} {r:Nat} {f:Nat->Int} (h:RowV base w v r f) (hb:Below w.heap.size w w'):RowV base w' v r f:=⟨h.1.on hb,h.2⟩
theorem RowV.mono {base b':Nat} {w:World} {v:Value} {r:Nat} {f:Nat->Int} (h:RowV base w v r f) (hb:b'<=base):RowV b' w v r f:=⟨h.1.mono hb,h.2⟩
theorem RowV.one {base:Nat} {w:World} {v:Value} {r:Nat} {f:Nat->Int} (h:RowV base w v r f):v.oneCell'=true:=by
 obtain ⟨A,c,rfl⟩:=h.1.shape
 rfl
theorem RowV.congr {base:Nat} {w:World} {v:Value} {r:Nat} {f f':Nat->Int} (h:RowV base w v r f) (e:∀ j,j<r->f j=f' j):RowV base w v r f':=⟨h.1.congr fun j hj _ _=>by rw [e j hj],fun j hj=>by rw [<-e j hj]; exact h.2 j hj⟩
theorem ziS {w:World} {b m base s n:Nat} {t e:TypeId} {F:Nat->Value} {v:Value} {f:Nat->Nat->Value} (hr:w.rowIs b t m F) (h:Own w base e s v n f) (hne:t≠e):v.ownBlock≠some b:=by
 rcases h with ⟨rfl,_⟩ | ⟨g,o,cap,cur,rfl,_,hg,_⟩
 ·intro h; cases h
 intro h
 simp only [Value.ownBlock,Option.some.injEq] at h
 subst h
 obtain ⟨cs,h2,_⟩:=hr
 rw [hg] at h2
 simp only [Option.some.injEq,Obj.cells.injEq] at h2
 exact hne h2.2.1.symm
theorem RowV.setCell {base:Nat} {w:World} {v:Value} {r:Nat} {f:Nat->Int} (h:RowV base w v r f) {b m i:Nat} {t:TypeId} {F:Nat->Value} (hr:w.rowIs b t m F) (hne:t ≠ 3) (u:Value):RowV base (w.setCell ⟨b,i,none⟩ u) v r f :=
 ⟨h.1.setCell (a:=⟨b,i,none⟩) (ziS hr h.1 hne) u,h.2⟩
def LTabO (w:World) (base:Nat) (v:Value) (r:Nat) (L:List (List Int)):Prop :=
 ∃ R:Nat->Value,Own w 0 22 1 v L.length (fun k _=>R k)/\∀ k,k<L.length->RowV base w (R k) r (fun j=>(L.getD k []).getD j 0)
theorem LTabO.on {w w':World} {base:Nat} {v:Value} {r:Nat} {L:List (List Int)} (h:LTabO w base v r L) (hb:Below w.heap.size w w'):LTabO w' base v r L:=by
 obtain ⟨R,h1,h2⟩:=h
 exact ⟨R,h1.on hb,fun k hk=>(h2 k hk).on hb⟩
theorem LTabO.mono {w:World} {base b':Nat} {v:Value} {r:Nat} {L:List (List Int)} (h:LTabO w base v r L) (hb:b'<=base):LTabO w b' v r L:=by
 obtain ⟨R,h1,h2⟩:=h
 exact ⟨R,h1,fun k hk=>(h2 k hk).mono hb⟩
theorem LTabO.shape {w:World} {base:Nat} {v:Value} {r:Nat} {L:List (List Int)} (h:LTabO w base v r L):∃ A c,v=.slice A L.length c:=h.choose_spec.1.shape
theorem LTabO.nil (w:World) (base r:Nat):LTabO w base (.slice none 0 0) r []:=⟨fun _=>undef,Own.nil _ _ _ _ _,fun i hi=>absurd hi (by simp)⟩
theorem LTabO.setCell {w:World} {base:Nat} {v:Value} {r:Nat} {L:List (List Int)} (h:LTabO w base v r L) {b m i:Nat} {t:TypeId} {F:Nat->Value} (hr:w.rowIs b t m F) (hne:t ≠ 3) (hv:v.ownBlock≠some b) (u:Value):LTabO (w.setCell ⟨b,i,none⟩ u) base v r L:=by
 obtain ⟨R,h1,h2⟩:=h
 exact ⟨R,h1.setCell (a:=⟨b,i,none⟩) hv u,fun k hk=>(h2 k hk).setCell hr hne u⟩
theorem LTabO.rows {w:World} {base:Nat} {A:Option Addr} {n c r:Nat} {L:List (List Int)} (h:LTabO w base (.slice A n c) r L):IntRows w A L.length (fun _=>r) (fun i j=>(L.getD i []).getD j 0):=fun k hk=>by
 obtain ⟨R,h1,h2⟩:=h
 have hn:n=L.length:=by
  obtain ⟨_,_,e⟩:=h1.shape
  injection e
 subst hn
 obtain ⟨b,off,e1,hb,hc⟩:=Own.rd h1 rfl k hk
 obtain ⟨RA,rc,e2⟩:=(h2 k hk).1.shape
 have:=hc 0 (by omega)
 dsimp only at this
 rw [Nat.mul_one,Nat.add_zero,e2] at this
 have h3:=(h2 k hk).1
 rw [e2] at h3
 have a:=Own.capL h3
 exact ⟨b,off,RA,rc,e1,hb,this,a.1,a.2,Own.rd h3 rfl,(h2 k hk).2⟩
theorem ziT {w:World} {base b e s:Nat} {f:Nat->Nat->Value} (hb:base<=b) (h:w.heap[b]?=some (.cells #[] e (0,0))):Own w base e s (.slice (some ⟨b,0,none⟩) 0 0) 0 f :=
 .inr ⟨b,0,0,#[],rfl,hb,h,Nat.le_refl _,by unfold maxLen; omega,by simp,fun i hi=>absurd hi (by omega)⟩
def InsR (r:Nat) (L:List (List Int)) (x:List Int) (L':List (List Int)):Prop :=
 ∃ i,IsPos r L x i/\(((i<L.length/\∀ j,j<r->(L.getD i []).getD j 0=x.getD j 0)/\L'=L)∨(¬ (i<L.length/\∀ j,j<r->(L.getD i []).getD j 0=x.getD j 0)/\L'=L.take i ++ x :: L.drop i))
def InsPost (base:Nat) (v0:Value) (r:Nat) (L:List (List Int)) (x:List Int) (w:World) (e:Ending) (w':World):Prop :=
 Below w.heap.size w w'/\∃ v L',e=.returned v/\InsR r L x L'/\L'.length<=L.length+1/\LTabO w' base v r L'/\(v=v0∨∀ q,v.ownBlock=some q->w.heap.size<=q)
theorem zbt {L:List (List Int)} {x:List Int} {i k:Nat} (hi:i<=L.length):(L.take i ++ x :: L.drop i).getD k []=if k<i then L.getD k [] else if k=i then x else L.getD (k - 1) []:=by
 have hl:(L.take i).length=i:=by simp; omega
 simp only [List.getD_eq_getElem?_getD]
 by_cases h1:k<i
 ·rw [if_pos h1,List.getElem?_append_left (by omega),List.getElem?_take,if_pos h1]
 rw [if_neg h1,List.getElem?_append_right (by omega),hl]
 by_cases h2:k=i
 ·subst h2
  rw [if_pos rfl,Nat.sub_self]
  rfl
 rw [if_neg h2]
 obtain ⟨t,rfl⟩:∃ t,k=i+(t+1):=⟨k - i - 1,by omega⟩
 rw [show i+(t+1) - i=t+1 by omega,List.getElem?_cons_succ,List.getElem?_drop]
 rfl
theorem zeU (base r:Nat) (A:Option Addr) (c:Nat) (L:List (List Int)) (B:Option Addr) (d:Nat) (x:List Int) (w:World) (h:LTabO w base (.slice A L.length c) r L) (hx:RowV base w (.slice B r d) r (fun j=>x.getD j 0)) (hL:L.length<=1048575) (hr:r<=1048576) :
  Calls Tryz.prog 90 #[.slice A L.length c,.slice B r d] w (InsPost base (.slice A L.length c) r L x w):=by
 have a9:=hid h
 have U:=hid hx
 have HT:=hid h.rows
 have HX:Hid (IntsR w w.heap.size B r (fun j=>x.getD j 0)):=hid (Own.rd hx.1 rfl)
 have ae:=hid hx.2
 obtain ⟨Y,hd⟩:=Own.capL hx.1
 obtain ⟨R,W,a0⟩:=h
 obtain ⟨a7,hc⟩:=Own.capL W
 obtain ⟨n,hn⟩:=exx L.length
 have HN:=hid hn
 have HR:Hid (Rd w w.heap.size A n 1 (fun k _=>R k)):=hid (by rw [hn]; exact Own.rd W rfl)
 have D:Hid (∀ k,k<n->RowV base w (R k) r (fun j=>(L.getD k []).getD j 0)):=hid (by rw [hn]; exact a0)
 clear hx W a0;rw [<-hn] at hL a7 ⊢
 have G:=zfv r A c L B d x w HT.out HX.out (by omega) hr
 rw [<-hn] at G
 go_enter Tryz.func90, Tryz.ntmps90
 clear hn
 go_wp2_with fail
 refine G.mono ?_
 clear G
 rintro e w1 ⟨kb,i,b,rfl,P,hb⟩
 have H:=hid P
 have X:=hid hb
 have K:=hid kb
 have aa:i<=n:=by have:=P.1; rw [<-HN.out] at this; exact this
 clear P hb kb
 cases b with
 | true =>
  go_wp2
  go_ret
  have a5:Value.slice A n c=Value.slice A L.length c:=by rw [<-HN.out]
  exact ⟨K.out,_,L,rfl,⟨i,H.out,.inl ⟨X.out.1 trivial,rfl⟩⟩,Nat.le_succ _,by have:=a9.out.on K.out; rw [<-a5] at this; exact this,.inl rfl⟩
 | false =>
  have V:Hid (¬ (i<L.length/\∀ j,j<r->(L.getD i []).getD j 0=x.getD j 0)):=hid fun h=>by
   have:=X.out.2 h
   cases this
  clear X
  go_upto_region 4 with fail
  have ab:i<=c:=by omega
  have ad:(0:Int)<=(i:Int):=by omega
  have a6:=Y
  clear Y
  obtain ⟨i0,qi0,qz0,qz1,qz2⟩:=info_parts Tryz.infoInts
  cases A with
  | none =>
   obtain rfl:n=0:=by
    by_cases e:n=0
    ·exact e
    ·obtain ⟨b,off,e1,_⟩:=HR.out 0 (by omega)
     cases e1
   obtain rfl:i=0:=by omega
   go_upto_region 5 with (first | (at_builtin; refine zaE rfl (.tmp 16) (.tmp 19) _ rfl _ i0 Tryz.underlying25 qi0 w1.heap.size 0 rfl none c rfl ?_))
   have HO:Hid (Own (w1.alloc (Obj.cells #[] 22)) w1.heap.size 22 1 (.slice (some ⟨w1.heap.size,0,none⟩) 0 0) 0 (fun k _=>R k)):=hid (ziT (Nat.le_refl _) (heap_alloc_new w1 _))
   have K2:Hid (Below w1.heap.size w1 (w1.alloc (Obj.cells #[] 22))):=hid ((Below.refl _ _).alloc (Nat.le_refl _) _)
   obtain ⟨w2,M⟩:=exx (w1.alloc (Obj.cells #[] 22))
   rw [<-M] at HO K2 ⊢;clear M
   obtain ⟨g,hg⟩:=exx w1.heap.size
   obtain ⟨cp,a8⟩:∃ cp,cp=0:=⟨_,rfl⟩
   have a1:(0:Nat)<=1048576:=by omega
   have kb:=(Below.refl w2.heap.size w2).alloc (Nat.le_refl _) (Obj.cells #[Value.slice B r d] 22)
   have I:Hid (Own (w2.alloc (Obj.cells #[Value.slice B r d] 22)) w1.heap.size 22 1 (.slice (some ⟨w1.heap.size,0,none⟩) 0 0) 0 (fun k _=>if k=0 then Value.slice B r d else R k)):=hid ((HO.out.on kb).congr fun k hk _ _=>by rw [if_neg (by omega)])
   have O:Hid (∀ j,j<1->(w2.alloc (Obj.cells #[Value.slice B r d] 22)).cell? ((⟨w2.heap.size,0,none⟩:Addr).add j)=some (if 0=0 then Value.slice B r d else R 0)):=hid fun j hj=>by
    obtain rfl:j=0:=by omega
    rw [if_pos rfl]
    exact tbox2
   have s:Hid (∀ j,j<1->(if 0=0 then Value.slice B r d else R 0).oneCell'=true):=hid fun j hj=>by rw [if_pos rfl]; rfl
   have v:Hid (0+1<=maxLen):=hid (by unfold maxLen; omega)
   have u:Hid ((0+1)*24<=140737488355328):=hid (by omega)
   have K8:=hid (onS K2.out kb)
   have o:Hid (w1.heap.size<=(w2.alloc (Obj.cells #[Value.slice B r d] 22)).heap.size):=hid K8.out.size
   clear kb
   go_upto_region 6 with (first | (at_builtin; (refine zah _ rfl (.tmp 21) (.tmp 23) _ rfl w1.heap.size 22 i0 _ 1 24 Tryz.underlying25 qi0 qz0 qz1 qz2 rfl (by omega) _ 0 (fun k _=>if k=0 then Value.slice B r d else R k) rfl I.out ⟨w2.heap.size,0,none⟩ 1 rfl O.out s.out v.out u.out o.out ?_); intro v9 w9 o1 o2 o3))
   have z:=hid o1
   have K9:=hid (K8.out.grown o2 o.out fun q e=>(I.out.lt _ e).1)
   obtain ⟨g9,f9,c9,S,_,_,_,_,_⟩:=o1.form (by omega)
   subst S
   clear o1 o2 o3 I O s v u K8 o HO K2
   have E:Hid (Rd w9 w9.heap.size none (0) 1 (fun k _=>R (0+k))):=hid fun k hk=>by
    obtain ⟨b,off,e1,hb,N⟩:=HR.out (0+k) (by omega)
    have kb:=onS K.out K9.out
    cases e1
   have s:Hid (∀ k,k<0->(R (0+k)).oneCell'=true):=hid fun k hk=>(D.out (0+k) (by omega)).one
   have v:Hid (0+1+(0)<=maxLen):=hid (by unfold maxLen; omega)
   have u:Hid ((0+1+(0))*24<=140737488355328):=hid (by omega)
   have o:Hid (w1.heap.size<=w9.heap.size):=hid K9.out.size
   go_wp2_with (first | (at_builtin; (refine zaC _ rfl (.tmp 25) (.tmp 28) _ rfl w1.heap.size 22 i0 _ 24 Tryz.underlying25 qi0 qz0 qz1 qz2 rfl g9 f9 (0+1) c9 (fun k=>if k=0 then Value.slice B r d else R k) rfl z.out none (0) c (fun k=>R (0+k)) rfl E.out s.out v.out u.out o.out ?_); intro v10 w10 o1 o2))
   have l:=hid o1
   have F:=hid (K9.out.grown o2 o.out fun q e=>by
    injection e with e
    subst e
    exact (z.out.lt _ rfl).1)
   obtain ⟨A10,c10,y⟩:=o1.shape
   subst y
   clear o1 o2 E s v u o z K9
   go_wp2
   go_ret
   have J:=Own.capL l.out
   have m:(L.take 0 ++ x :: L.drop 0).length=0+1:=by
    rw [List.length_append,List.length_take,List.length_cons,List.length_drop,<-HN.out]
    omega
   have e10:0+1+(0)=0+1:=by omega
   refine ⟨onS K.out F.out,_,L.take 0 ++ x :: L.drop 0,rfl,⟨0,H.out,.inr ⟨V.out,rfl⟩⟩,by rw [m,HN.out]; exact Nat.le_refl _,⟨fun k=>if k<0+1 then (if k=0 then Value.slice B r d else R k) else R (0+(k - (0+1))),?_,?_⟩,.inr fun q e=>Nat.le_trans K.out.size (l.out.lt q e).1⟩
   ·rw [m]
    have h9:=l.out.mono (Nat.zero_le _)
    first | exact h9 | (rw [<-e10]; exact h9)
   ·rw [m]
    intro k hk
    have Q:∀ j,((L.take 0 ++ x :: L.drop 0).getD k []).getD j 0=(if k<0 then L.getD k [] else if k=0 then x else L.getD (k - 1) []).getD j 0:=fun j=>by rw [zbt (by rw [<-HN.out]; omega)]
    have kb:=onS K.out F.out
    have C:(fun j=>((L.take 0 ++ x :: L.drop 0).getD k []).getD j 0)=fun j=>(if k<0 then L.getD k [] else if k=0 then x else L.getD (k - 1) []).getD j 0:=funext Q
    rw [C]
    by_cases h1:k<0
    ·simp only [if_pos h1,if_pos (show k<0+1 by omega),if_neg (show ¬ k=0 by omega)]
     exact (D.out k (by omega)).on kb
    ·by_cases h2:k=0
     ·subst h2
      simp only [if_pos (Nat.lt_succ_self _),if_true,Nat.lt_irrefl,if_false]
      exact U.out.on kb
     ·simp only [if_neg (show ¬ k<0+1 by omega),if_neg h1,if_neg h2,show 0+(k - (0+1))=k - 1 by omega]
      exact (D.out (k - 1) (by omega)).on kb
  | some a =>
   by_cases hi00:i=0
   ·subst hi00
    go_upto_region 5 with (first | (at_builtin; refine zaE rfl (.tmp 16) (.tmp 19) _ rfl _ i0 Tryz.underlying25 qi0 w1.heap.size 0 rfl (some a) c rfl ?_))
    have HO:Hid (Own (w1.alloc (Obj.cells #[] 22)) w1.heap.size 22 1 (.slice (some ⟨w1.heap.size,0,none⟩) 0 0) 0 (fun k _=>R k)):=hid (ziT (Nat.le_refl _) (heap_alloc_new w1 _))
    have K2:Hid (Below w1.heap.size w1 (w1.alloc (Obj.cells #[] 22))):=hid ((Below.refl _ _).alloc (Nat.le_refl _) _)
    obtain ⟨w2,M⟩:=exx (w1.alloc (Obj.cells #[] 22))
    rw [<-M] at HO K2 ⊢;clear M
    obtain ⟨g,hg⟩:=exx w1.heap.size
    obtain ⟨cp,a8⟩:∃ cp,cp=0:=⟨_,rfl⟩
    have a1:(0:Nat)<=1048576:=by omega
    have kb:=(Below.refl w2.heap.size w2).alloc (Nat.le_refl _) (Obj.cells #[Value.slice B r d] 22)
    have I:Hid (Own (w2.alloc (Obj.cells #[Value.slice B r d] 22)) w1.heap.size 22 1 (.slice (some ⟨w1.heap.size,0,none⟩) 0 0) 0 (fun k _=>if k=0 then Value.slice B r d else R k)):=hid ((HO.out.on kb).congr fun k hk _ _=>by rw [if_neg (by omega)])
    have O:Hid (∀ j,j<1->(w2.alloc (Obj.cells #[Value.slice B r d] 22)).cell? ((⟨w2.heap.size,0,none⟩:Addr).add j)=some (if 0=0 then Value.slice B r d else R 0)):=hid fun j hj=>by
     obtain rfl:j=0:=by omega
     rw [if_pos rfl]
     exact tbox2
    have s:Hid (∀ j,j<1->(if 0=0 then Value.slice B r d else R 0).oneCell'=true):=hid fun j hj=>by rw [if_pos rfl]; rfl
    have v:Hid (0+1<=maxLen):=hid (by unfold maxLen; omega)
    have u:Hid ((0+1)*24<=140737488355328):=hid (by omega)
    have K8:=hid (onS K2.out kb)
    have o:Hid (w1.heap.size<=(w2.alloc (Obj.cells #[Value.slice B r d] 22)).heap.size):=hid K8.out.size
    clear kb
    go_upto_region 6 with (first | (at_builtin; (refine zah _ rfl (.tmp 21) (.tmp 23) _ rfl w1.heap.size 22 i0 _ 1 24 Tryz.underlying25 qi0 qz0 qz1 qz2 rfl (by omega) _ 0 (fun k _=>if k=0 then Value.slice B r d else R k) rfl I.out ⟨w2.heap.size,0,none⟩ 1 rfl O.out s.out v.out u.out o.out ?_); intro v9 w9 o1 o2 o3))
    have z:=hid o1
    have K9:=hid (K8.out.grown o2 o.out fun q e=>(I.out.lt _ e).1)
    obtain ⟨g9,f9,c9,S,_,_,_,_,_⟩:=o1.form (by omega)
    subst S
    clear o1 o2 o3 I O s v u K8 o HO K2
    by_cases hci:c=0
    focus
     obtain rfl:n=0:=by omega
     obtain rfl:0=c:=by omega
     have E:Hid (Rd w9 w9.heap.size (some a) (0) 1 (fun k _=>R (0+k))):=hid fun k hk=>by
      obtain ⟨b,off,e1,hb,N⟩:=HR.out (0+k) (by omega)
      have kb:=onS K.out K9.out
      omega
     have s:Hid (∀ k,k<0->(R (0+k)).oneCell'=true):=hid fun k hk=>(D.out (0+k) (by omega)).one
     have v:Hid (0+1+(0)<=maxLen):=hid (by unfold maxLen; omega)
     have u:Hid ((0+1+(0))*24<=140737488355328):=hid (by omega)
     have o:Hid (w1.heap.size<=w9.heap.size):=hid K9.out.size
     go_wp2_with (first | (at_builtin; (refine zaC _ rfl (.tmp 25) (.tmp 28) _ rfl w1.heap.size 22 i0 _ 24 Tryz.underlying25 qi0 qz0 qz1 qz2 rfl g9 f9 (0+1) c9 (fun k=>if k=0 then Value.slice B r d else R k) rfl z.out (some a) (0) 0 (fun k=>R (0+k)) rfl E.out s.out v.out u.out o.out ?_); intro v10 w10 o1 o2))
     have l:=hid o1
     have F:=hid (K9.out.grown o2 o.out fun q e=>by
      injection e with e
      subst e
      exact (z.out.lt _ rfl).1)
     obtain ⟨A10,c10,y⟩:=o1.shape
     subst y
     clear o1 o2 E s v u o z K9
     go_wp2
     go_ret
     have J:=Own.capL l.out
     have m:(L.take 0 ++ x :: L.drop 0).length=0+1:=by
      rw [List.length_append,List.length_take,List.length_cons,List.length_drop,<-HN.out]
      omega
     have e10:0+1+(0)=0+1:=by omega
    rotate_left
    focus
     have E:Hid (Rd w9 w9.heap.size (some (a.add 0)) (n - 0) 1 (fun k _=>R (0+k))):=hid fun k hk=>by
      obtain ⟨b,off,e1,hb,N⟩:=HR.out (0+k) (by omega)
      have kb:=onS K.out K9.out
      refine ⟨b,off+0,by injection e1 with e1; subst e1; rfl,Nat.lt_of_lt_of_le hb kb.size,fun j hj=>?_⟩
      have h9:=(kb.cell (p:=⟨b,_,none⟩) hb).trans (N j hj)
      rw [show off+0+k*1+j=off+(0+k)*1+j by omega]
      exact h9
     have s:Hid (∀ k,k<n - 0->(R (0+k)).oneCell'=true):=hid fun k hk=>(D.out (0+k) (by omega)).one
     have v:Hid (0+1+(n - 0)<=maxLen):=hid (by unfold maxLen; omega)
     have u:Hid ((0+1+(n - 0))*24<=140737488355328):=hid (by omega)
     have o:Hid (w1.heap.size<=w9.heap.size):=hid K9.out.size
     go_wp2_with (first | (at_builtin; (refine zaC _ rfl (.tmp 25) (.tmp 28) _ rfl w1.heap.size 22 i0 _ 24 Tryz.underlying25 qi0 qz0 qz1 qz2 rfl g9 f9 (0+1) c9 (fun k=>if k=0 then Value.slice B r d else R k) rfl z.out (some (a.add 0)) (n - 0) (c - 0) (fun k=>R (0+k)) rfl E.out s.out v.out u.out o.out ?_); intro v10 w10 o1 o2))
     have l:=hid o1
     have F:=hid (K9.out.grown o2 o.out fun q e=>by
      injection e with e
      subst e
      exact (z.out.lt _ rfl).1)
     obtain ⟨A10,c10,y⟩:=o1.shape
     subst y
     clear o1 o2 E s v u o z K9
     go_wp2
     go_ret
     have J:=Own.capL l.out
     have m:(L.take 0 ++ x :: L.drop 0).length=n+1:=by
      rw [List.length_append,List.length_take,List.length_cons,List.length_drop,<-HN.out]
      omega
     have e10:0+1+(n - 0)=n+1:=by omega
    rotate_left
    all_goals
     refine ⟨onS K.out F.out,_,L.take 0 ++ x :: L.drop 0,rfl,⟨0,H.out,.inr ⟨V.out,rfl⟩⟩,by rw [m,HN.out]; exact Nat.le_refl _,⟨fun k=>if k<0+1 then (if k=0 then Value.slice B r d else R k) else R (0+(k - (0+1))),?_,?_⟩,.inr fun q e=>Nat.le_trans K.out.size (l.out.lt q e).1⟩
     ·rw [m]
      have h9:=l.out.mono (Nat.zero_le _)
      first | exact h9 | (rw [<-e10]; exact h9)
     ·rw [m]
      intro k hk
      have Q:∀ j,((L.take 0 ++ x :: L.drop 0).getD k []).getD j 0=(if k<0 then L.getD k [] else if k=0 then x else L.getD (k - 1) []).getD j 0:=fun j=>by rw [zbt (by rw [<-HN.out]; omega)]
      have kb:=onS K.out F.out
      have C:(fun j=>((L.take 0 ++ x :: L.drop 0).getD k []).getD j 0)=fun j=>(if k<0 then L.getD k [] else if k=0 then x else L.getD (k - 1) []).getD j 0:=funext Q
      rw [C]
      by_cases h1:k<0
      ·simp only [if_pos h1,if_pos (show k<0+1 by omega),if_neg (show ¬ k=0 by omega)]
       exact (D.out k (by omega)).on kb
      ·by_cases h2:k=0
       ·subst h2
        simp only [if_pos (Nat.lt_succ_self _),if_true,Nat.lt_irrefl,if_false]
        exact U.out.on kb
       ·simp only [if_neg (show ¬ k<0+1 by omega),if_neg h1,if_neg h2,show 0+(k - (0+1))=k - 1 by omega]
        exact (D.out (k - 1) (by omega)).on kb
   ·have ac:0<i:=by omega
    have a3:Hid (Rd (w1.alloc (Obj.cells #[] 22)) (w1.alloc (Obj.cells #[] 22)).heap.size (some a) i 1 (fun k _=>R k)):=hid fun k hk=>by
     obtain ⟨b,off,e1,hb,N⟩:=HR.out k (by omega)
     have kb:=onS K.out ((Below.refl w1.heap.size w1).alloc (Nat.le_refl _) (Obj.cells #[] 22))
     exact ⟨b,off,e1,Nat.lt_of_lt_of_le hb kb.size,fun j hj=>(kb.cell (p:=⟨b,_,none⟩) hb).trans (N j hj)⟩
    have a4:Hid (∀ k,k<i->∀ j,j<1->(R k).oneCell'=true):=hid fun k hk _ _=>(D.out k (by omega)).one
    have T:Hid (Below w1.heap.size w1 (w1.alloc (Obj.cells #[] 22))):=hid ((Below.refl _ _).alloc (Nat.le_refl _) _)
    have a2:Hid (i<=maxLen):=hid (by unfold maxLen; omega)
    have Z:Hid (i*24<=140737488355328):=hid (by omega)
    go_upto_region 5 with (first | (at_builtin; refine zal rfl (.tmp 16) (.tmp 19) _ rfl _ i0 _ 1 24 Tryz.underlying25 qi0 qz0 qz1 qz2 rfl (by omega) (some ⟨w1.heap.size,0,none⟩) rfl (some a) i c (fun k _=>R k) rfl a3.out (by omega) a4.out a2.out Z.out ?_; intro cp cur c1 c2 c3 c4))
    have HO:Hid (Own (World.drew (World.alloc (w1.alloc (Obj.cells #[] 22)) (Obj.cells cur 22))) w1.heap.size 22 1 (.slice (some ⟨(w1.alloc (Obj.cells #[] 22)).heap.size,0,none⟩) i cp) i (fun k _=>R k)):=hid (Own.new (w:=World.drew (w1.alloc (Obj.cells #[] 22))) T.out.size c1 c2 c3 c4)
    have K2:Hid (Below w1.heap.size w1 (World.drew (World.alloc (w1.alloc (Obj.cells #[] 22)) (Obj.cells cur 22)))):=hid (T.out.alloc T.out.size _).drew
    clear a3 a4 T a2 Z c1 c2 c3 c4
    obtain ⟨w2,M⟩:=exx (World.drew (World.alloc (w1.alloc (Obj.cells #[] 22)) (Obj.cells cur 22)))
    simp only [World.size_alloc] at HO
    rw [<-M] at HO K2 ⊢;clear M
    obtain ⟨g,hg⟩:=exx (w1.heap.size+1)
    rw [<-hg] at HO ⊢
    have a1:(i:Nat)<=1048576:=by omega
    have kb:=(Below.refl w2.heap.size w2).alloc (Nat.le_refl _) (Obj.cells #[Value.slice B r d] 22)
    have I:Hid (Own (w2.alloc (Obj.cells #[Value.slice B r d] 22)) w1.heap.size 22 1 (.slice (some ⟨g,0,none⟩) i cp) i (fun k _=>if k=i then Value.slice B r d else R k)):=hid ((HO.out.on kb).congr fun k hk _ _=>by rw [if_neg (by omega)])
    have O:Hid (∀ j,j<1->(w2.alloc (Obj.cells #[Value.slice B r d] 22)).cell? ((⟨w2.heap.size,0,none⟩:Addr).add j)=some (if i=i then Value.slice B r d else R i)):=hid fun j hj=>by
     obtain rfl:j=0:=by omega
     rw [if_pos rfl]
     exact tbox2
    have s:Hid (∀ j,j<1->(if i=i then Value.slice B r d else R i).oneCell'=true):=hid fun j hj=>by rw [if_pos rfl]; rfl
    have v:Hid (i+1<=maxLen):=hid (by unfold maxLen; omega)
    have u:Hid ((i+1)*24<=140737488355328):=hid (by omega)
    have K8:=hid (onS K2.out kb)
    have o:Hid (w1.heap.size<=(w2.alloc (Obj.cells #[Value.slice B r d] 22)).heap.size):=hid K8.out.size
    clear kb
    go_upto_region 6 with (first | (at_builtin; (refine zah _ rfl (.tmp 21) (.tmp 23) _ rfl w1.heap.size 22 i0 _ 1 24 Tryz.underlying25 qi0 qz0 qz1 qz2 rfl (by omega) _ i (fun k _=>if k=i then Value.slice B r d else R k) rfl I.out ⟨w2.heap.size,0,none⟩ 1 rfl O.out s.out v.out u.out o.out ?_); intro v9 w9 o1 o2 o3))
    have z:=hid o1
    have K9:=hid (K8.out.grown o2 o.out fun q e=>(I.out.lt _ e).1)
    obtain ⟨g9,f9,c9,S,_,_,_,_,_⟩:=o1.form (by omega)
    subst S
    clear o1 o2 o3 I O s v u K8 o HO K2
    by_cases hci:c=i
    ·obtain rfl:n=i:=by omega
     obtain rfl:n=c:=by omega
     have E:Hid (Rd w9 w9.heap.size (some a) (0) 1 (fun k _=>R (n+k))):=hid fun k hk=>by
      obtain ⟨b,off,e1,hb,N⟩:=HR.out (n+k) (by omega)
      have kb:=onS K.out K9.out
      omega
     have s:Hid (∀ k,k<0->(R (n+k)).oneCell'=true):=hid fun k hk=>(D.out (n+k) (by omega)).one
     have v:Hid (n+1+(0)<=maxLen):=hid (by unfold maxLen; omega)
     have u:Hid ((n+1+(0))*24<=140737488355328):=hid (by omega)
     have o:Hid (w1.heap.size<=w9.heap.size):=hid K9.out.size
     go_wp2_with (first | (at_builtin; (refine zaC _ rfl (.tmp 25) (.tmp 28) _ rfl w1.heap.size 22 i0 _ 24 Tryz.underlying25 qi0 qz0 qz1 qz2 rfl g9 f9 (n+1) c9 (fun k=>if k=n then Value.slice B r d else R k) rfl z.out (some a) (0) 0 (fun k=>R (n+k)) rfl E.out s.out v.out u.out o.out ?_); intro v10 w10 o1 o2))
     have l:=hid o1
     have F:=hid (K9.out.grown o2 o.out fun q e=>by
      injection e with e
      subst e
      exact (z.out.lt _ rfl).1)
     obtain ⟨A10,c10,y⟩:=o1.shape
     subst y
     clear o1 o2 E s v u o z K9
     go_wp2
     go_ret
     have J:=Own.capL l.out
     have m:(L.take n ++ x :: L.drop n).length=n+1:=by
      rw [List.length_append,List.length_take,List.length_cons,List.length_drop,<-HN.out]
      omega
     have e10:n+1+(0)=n+1:=by omega
     refine ⟨onS K.out F.out,_,L.take n ++ x :: L.drop n,rfl,⟨n,H.out,.inr ⟨V.out,rfl⟩⟩,by rw [m,HN.out]; exact Nat.le_refl _,⟨fun k=>if k<n+1 then (if k=n then Value.slice B r d else R k) else R (n+(k - (n+1))),?_,?_⟩,.inr fun q e=>Nat.le_trans K.out.size (l.out.lt q e).1⟩
     ·rw [m]
      have h9:=l.out.mono (Nat.zero_le _)
      first | exact h9 | (rw [<-e10]; exact h9)
     ·rw [m]
      intro k hk
      have Q:∀ j,((L.take n ++ x :: L.drop n).getD k []).getD j 0=(if k<n then L.getD k [] else if k=n then x else L.getD (k - 1) []).getD j 0:=fun j=>by rw [zbt (by rw [<-HN.out]; omega)]
      have kb:=onS K.out F.out
      have C:(fun j=>((L.take n ++ x :: L.drop n).getD k []).getD j 0)=fun j=>(if k<n then L.getD k [] else if k=n then x else L.getD (k - 1) []).getD j 0:=funext Q
      rw [C]
      by_cases h1:k<n
      ·simp only [if_pos h1,if_pos (show k<n+1 by omega),if_neg (show ¬ k=n by omega)]
       exact (D.out k (by omega)).on kb
      ·by_cases h2:k=n
       ·subst h2
        simp only [if_pos (Nat.lt_succ_self _),if_true,Nat.lt_irrefl,if_false]
        exact U.out.on kb
       ·simp only [if_neg (show ¬ k<n+1 by omega),if_neg h1,if_neg h2,show n+(k - (n+1))=k - 1 by omega]
        exact (D.out (k - 1) (by omega)).on kb
    ·have E:Hid (Rd w9 w9.heap.size (some (a.add i)) (n - i) 1 (fun k _=>R (i+k))):=hid fun k hk=>by
      obtain ⟨b,off,e1,hb,N⟩:=HR.out (i+k) (by omega)
      have kb:=onS K.out K9.out
      refine ⟨b,off+i,by injection e1 with e1; subst e1; unfold Addr.add; simp; omega,Nat.lt_of_lt_of_le hb kb.size,fun j hj=>?_⟩
      have h9:=(kb.cell (p:=⟨b,_,none⟩) hb).trans (N j hj)
      rw [show off+i+k*1+j=off+(i+k)*1+j by omega]
      exact h9
     have s:Hid (∀ k,k<n - i->(R (i+k)).oneCell'=true):=hid fun k hk=>(D.out (i+k) (by omega)).one
     have v:Hid (i+1+(n - i)<=maxLen):=hid (by unfold maxLen; omega)
     have u:Hid ((i+1+(n - i))*24<=140737488355328):=hid (by omega)
     have o:Hid (w1.heap.size<=w9.heap.size):=hid K9.out.size
     go_wp2_with (first | (at_builtin; (refine zaC _ rfl (.tmp 25) (.tmp 28) _ rfl w1.heap.size 22 i0 _ 24 Tryz.underlying25 qi0 qz0 qz1 qz2 rfl g9 f9 (i+1) c9 (fun k=>if k=i then Value.slice B r d else R k) rfl z.out (some (a.add i)) (n - i) (c - i) (fun k=>R (i+k)) rfl E.out s.out v.out u.out o.out ?_); intro v10 w10 o1 o2))
     have l:=hid o1
     have F:=hid (K9.out.grown o2 o.out fun q e=>by
      injection e with e
      subst e
      exact (z.out.lt _ rfl).1)
     obtain ⟨A10,c10,y⟩:=o1.shape
     subst y
     clear o1 o2 E s v u o z K9
     go_wp2
     go_ret
     have J:=Own.capL l.out
     have m:(L.take i ++ x :: L.drop i).length=n+1:=by
      rw [List.length_append,List.length_take,List.length_cons,List.length_drop,<-HN.out]
      omega
     have e10:i+1+(n - i)=n+1:=by omega
     refine ⟨onS K.out F.out,_,L.take i ++ x :: L.drop i,rfl,⟨i,H.out,.inr ⟨V.out,rfl⟩⟩,by rw [m,HN.out]; exact Nat.le_refl _,⟨fun k=>if k<i+1 then (if k=i then Value.slice B r d else R k) else R (i+(k - (i+1))),?_,?_⟩,.inr fun q e=>Nat.le_trans K.out.size (l.out.lt q e).1⟩
     ·rw [m]
      have h9:=l.out.mono (Nat.zero_le _)
      first | exact h9 | (rw [<-e10]; exact h9)
     ·rw [m]
      intro k hk
      have Q:∀ j,((L.take i ++ x :: L.drop i).getD k []).getD j 0=(if k<i then L.getD k [] else if k=i then x else L.getD (k - 1) []).getD j 0:=fun j=>by rw [zbt (by rw [<-HN.out]; omega)]
      have kb:=onS K.out F.out
      have C:(fun j=>((L.take i ++ x :: L.drop i).getD k []).getD j 0)=fun j=>(if k<i then L.getD k [] else if k=i then x else L.getD (k - 1) []).getD j 0:=funext Q
      rw [C]
      by_cases h1:k<i
      ·simp only [if_pos h1,if_pos (show k<i+1 by omega),if_neg (show ¬ k=i by omega)]
       exact (D.out k (by omega)).on kb
      ·by_cases h2:k=i
       ·subst h2
        simp only [if_pos (Nat.lt_succ_self _),if_true,Nat.lt_irrefl,if_false]
        exact U.out.on kb
       ·simp only [if_neg (show ¬ k<i+1 by omega),if_neg h1,if_neg h2,show i+(k - (i+1))=k - 1 by omega]
        exact (D.out (k - 1) (by omega)).on kb
theorem zkO (r:Nat) (x y:List Int):ltL r x y∨ltL r y x∨∀ j,j<r->x.getD j 0=y.getD j 0:=by
 induction r with
 | zero=>exact .inr (.inr fun j hj=>absurd hj (by omega))
 | succ r ih =>
  rcases ih with ⟨i,hi,h1,h2⟩ | ⟨i,hi,h1,h2⟩ | h
  ·exact .inl ⟨i,by omega,h1,h2⟩
  ·exact .inr (.inl ⟨i,by omega,h1,h2⟩)
  ·rcases Int.lt_trichotomy (x.getD r 0) (y.getD r 0) with e | e | e
   ·exact .inl ⟨r,by omega,h,e⟩
   ·exact .inr (.inr fun j hj=>by
     by_cases e2:j=r
     ·rw [e2]; exact e
     ·exact h j (by omega))
   ·exact .inr (.inl ⟨r,by omega,fun t ht=>(h t ht).symm,e⟩)
theorem zhU {r:Nat} {x y:List Int} (hx:x.length=r) (hy:y.length=r) (h:∀ j,j<r->x.getD j 0=y.getD j 0):x=y:=by
 refine List.ext_getElem (by omega) fun i h1 h2=>?_
 have:=h i (by omega)
 rw [List.getD_eq_getElem?_getD,List.getD_eq_getElem?_getD,List.getElem?_eq_getElem h1,List.getElem?_eq_getElem h2] at this
 exact this
structure SetL (r:Nat) (L:List (List Int)) (S:List Int->Prop):Prop where
 ord:∀ p q,p<q->q<L.length->ltL r (L.getD p []) (L.getD q [])
 mem:∀ p,p<L.length->S (L.getD p [])
 all:∀ l,S l->∃ p,p<L.length/\L.getD p []=l
 len:∀ l,S l->l.length=r
theorem SetL.nil (r:Nat):SetL r [] (fun _=>False):=⟨fun p q _ h=>absurd h (by simp),fun p h=>absurd h (by simp),fun _ h=>h.elim,fun _ h=>h.elim⟩
theorem SetL.one (r:Nat) (x:List Int) (hx:x.length=r):SetL r [x] (fun l=>l=x) :=
 ⟨fun p q h1 h2=>by simp at h2; omega,fun p h=>(by
  have e:p=0:=by simpa using h
  rw [e]
  rfl),fun l h=>⟨0,by simp,h.symm⟩,fun l h=>by rw [h,hx]⟩
theorem SetL.congr {r:Nat} {L:List (List Int)} {S S':List Int->Prop} (h:SetL r L S) (e:∀ l,S l↔S' l):SetL r L S' :=
 ⟨h.ord,fun p hp=>(e _).1 (h.mem p hp),fun l hl=>h.all l ((e l).2 hl),fun l hl=>h.len l ((e l).2 hl)⟩
theorem SetL.pos {r:Nat} {L:List (List Int)} {S:List Int->Prop} (h:SetL r L S) {p:Nat} (hp:p<L.length):IsPos r L (L.getD p []) p :=
 ⟨by omega,fun j hj=>h.ord j p hj hp,fun _=>ltL.irr⟩
theorem SetL.ins {r:Nat} {L L':List (List Int)} {S:List Int->Prop} {x:List Int} (h:SetL r L S) (hx:x.length=r) (hi:InsR r L x L'):SetL r L' (fun l=>S l∨l=x):=by
 obtain ⟨i,hp,⟨⟨h1,h2⟩,rfl⟩ | ⟨c,rfl⟩⟩:=hi
 ·have b:L'.getD i []=x:=zhU (h.len _ (h.mem i h1)) hx h2
  refine h.congr fun l=>⟨.inl,?_⟩
  rintro (hl | rfl)
  ·exact hl
  ·rw [<-b]; exact h.mem i h1
 have a:(L.take i ++ x :: L.drop i).length=L.length+1:=by
  have:=hp.1
  rw [List.length_append,List.length_take,List.length_cons,List.length_drop]
  omega
 have d:∀ j,i<=j->j<L.length->ltL r x (L.getD j []):=fun j hj hjl=>by
  have h1:ltL r x (L.getD i []):=by
   rcases zkO r x (L.getD i []) with h1 | h1 | h1
   ·exact h1
   ·exact absurd h1 (hp.2.2 (by omega))
   ·exact absurd ⟨by omega,fun j hj=>(h1 j hj).symm⟩ c
  by_cases e:i=j
  ·rw [<-e]; exact h1
  ·exact h1.trans (h.ord i j (by omega) hjl)
 refine ⟨fun p q hpq hq=>?_,fun p hpl=>?_,fun l hl=>?_,fun l hl=>?_⟩
 rotate_left
 ·rw [a] at hpl
  rw [zbt hp.1]
  by_cases b1:p<i
  ·rw [if_pos b1]; exact .inl (h.mem p (by have:=hp.1; omega))
  rw [if_neg b1]
  by_cases b2:p=i
  ·rw [if_pos b2]; exact .inr rfl
  ·rw [if_neg b2]; exact .inl (h.mem (p - 1) (by omega))
 ·rcases hl with hl | rfl
  ·obtain ⟨p,h1,h2⟩:=h.all l hl
   by_cases b1:p<i
   ·exact ⟨p,by omega,by rw [zbt hp.1,if_pos b1]; exact h2⟩
   ·exact ⟨p+1,by omega,by rw [zbt hp.1,if_neg (by omega),if_neg (by omega)]; exact h2⟩
  ·exact ⟨i,by have:=hp.1; omega,by rw [zbt hp.1,if_neg (Nat.lt_irrefl _),if_pos rfl]⟩
 ·rcases hl with hl | rfl
  ·exact h.len l hl
  ·exact hx
 rw [a] at hq;rw [zbt hp.1,zbt hp.1]
 by_cases a1:q<i
 ·rw [if_pos (by omega),if_pos a1]; exact h.ord p q hpq (by have:=hp.1; omega)
 rw [if_neg a1]
 by_cases a2:q=i
 ·rw [if_pos a2,if_pos (by omega)]; exact hp.2.1 p (by omega)
 rw [if_neg a2]
 by_cases b1:p<i
 ·rw [if_pos b1]; exact h.ord p (q - 1) (by omega) (by omega)
 rw [if_neg b1]
 by_cases b2:p=i
 ·rw [if_pos b2]; exact d (q - 1) (by omega) (by omega)
 ·rw [if_neg b2]; exact h.ord (p - 1) (q - 1) (by omega) (by omega)
noncomputable def posOf (r:Nat) (L:List (List Int)) (x:List Int):Nat:=by
 classical exact if h:∃ i,IsPos r L x i then h.choose else 0
theorem zdj {r:Nat} {L:List (List Int)} {x:List Int} {i:Nat} (h:IsPos r L x i):posOf r L x=i:=by
 unfold posOf
 have h2:∃ i,IsPos r L x i:=⟨i,h⟩
 rw [dif_pos h2]
 exact h2.choose_spec.unique h
theorem SetL.posOf_lt {r:Nat} {L:List (List Int)} {S:List Int->Prop} (h:SetL r L S) {x:List Int} (hx:S x):posOf r L x<L.length/\L.getD (posOf r L x) []=x:=by
 obtain ⟨p,h1,rfl⟩:=h.all x hx
 rw [zdj (h.pos h1)]
 exact ⟨h1,rfl⟩
theorem SetL.posOf_inj {r:Nat} {L:List (List Int)} {S:List Int->Prop} (h:SetL r L S) {x y:List Int} (hx:S x) (hy:S y) (e:posOf r L x=posOf r L y):x=y:=by
 rw [<-(h.posOf_lt hx).2,e,(h.posOf_lt hy).2]
def syP (P M:Nat) (m:Nat->Nat) (wd:Nat->Nat) (H:Nat->Nat->Nat):Nat->Nat->Nat
 | 0,_=>0
 | i+1,k=>atF P M m (wd i) (syP P M m wd H i) (fun k=>H k i) k
def keyS (r:Nat) (s:Nat->Nat):List Int:=(List.range r).map fun k=>((s k:Nat):Int)
theorem zec (r:Nat) (s:Nat->Nat):(keyS r s).length=r:=by simp [keyS]
theorem za9 {r:Nat} {s:Nat->Nat} {k:Nat} (hk:k<r):(keyS r s).getD k 0=((s k:Nat):Int):=by
 rw [List.getD_eq_getElem?_getD,keyS,List.getElem?_map,List.getElem?_range hk]
 rfl
theorem zdk {r:Nat} {s s':Nat->Nat} (h:keyS r s=keyS r s') {k:Nat} (hk:k<r):s k=s' k:=by
 have h1:=za9 (s:=s) hk
 rw [h,za9 hk] at h1
 omega
theorem zbk {r:Nat} {s s':Nat->Nat} (h:∀ k,k<r->s k=s' k):keyS r s=keyS r s' :=
 zhU (zec _ _) (zec _ _) fun j hj=>by rw [za9 hj,za9 hj,h j hj]
structure FsRel (r mw:Nat) (key:Nat->Nat->List Int) (wd:Nat->Nat->Nat) (i:Nat) (St Tr:Nat->List (List Int)):Prop where
 st:∀ j,j<=i->SetL r (St j) (fun l=>∃ t,t<mw/\l=key t j)
 tr:∀ j,j<i->SetL 3 (Tr j) (fun l=>∃ t,t<mw/\l=[((posOf r (St j) (key t j):Nat):Int),((wd t j:Nat):Int),((posOf r (St (j+1)) (key t (j+1)):Nat):Int)])
def fsT (N:Nat) (St Tr:Nat->List (List Int)):Trel :=
 ⟨N+1,fun i=>((St i).length:Nat),N,fun i=>(Tr i).length,fun i j=>((Tr i).getD j []).getD 0 0,fun i j=>((Tr i).getD j []).getD 1 0,fun i j=>((Tr i).getD j []).getD 2 0⟩
theorem zeV {P M:Nat} {m wd:Nat->Nat} {H:Nat->Nat->Nat} (hL:FieldLaws (P ^ M) (addF P M) (mulF P M m)) (hw:∀ j,wd j<P ^ M) {k:Nat}:∀ i,syP P M m wd H i k=dotN (addF P M) (mulF P M m) wd (H k) i
 | 0=>rfl
 | i+1=>by
  have ih:=zeV (H:=H) hL hw (k:=k) i
  show atF P M m (wd i) (syP P M m wd H i) (fun k=>H k i) k=addF P M (dotN (addF P M) (mulF P M m) wd (H k) i) (mulF P M m (wd i) (H k i))
  rw [zkz hL (hw i) (by rw [ih]; exact zeA hL _ _ _),ih]
theorem zkP {P M:Nat} {m wd:Nat->Nat} {H:Nat->Nat->Nat} (hL:FieldLaws (P ^ M) (addF P M) (mulF P M m)) (hw:∀ j,wd j<P ^ M) (i k:Nat):syP P M m wd H i k<P ^ M:=by
 rw [zeV hL hw]
 exact zeA hL _ _ _
def Says (p:Prop) (w:World) (e:Ending) (w':World):Prop:=∃ b:Bool,e=.returned (.bool b)/\(b=true↔p)/\Below w.heap.size w w'
theorem Says.yes {p:Prop} {w w':World} (h:p) (hb:Below w.heap.size w w'):Says p w (.returned (.bool true)) w':=⟨true,rfl,by simpa using h,hb⟩
theorem Says.no {p:Prop} {w w':World} (h:¬ p) (hb:Below w.heap.size w w'):Says p w (.returned (.bool false)) w':=⟨false,rfl,by simpa using h,hb⟩
theorem zhV (A B:Option Addr) (n m c d:Nat) (f g:Nat->Int) (w:World) (ha:IntsR w w.heap.size A n f) (hb:IntsR w w.heap.size B m g) (hn:n<=140737488351232) (hm:m<=140737488351232) :
  Calls Tryz.prog 24 #[.slice A n c,.slice B m d] w (Says (EqRow n m f g) w):=by
 go_enter Tryz.func24, Tryz.ntmps24
 go_wp2_with fail
 refine (zeP A B n m c d f g w ha hb hn hm).mono ?_
 rintro e w1 ⟨r,rfl,hr,a⟩
 by_cases h0:r=0
 ·have hc:(r == 0)=true:=by simp [h0]
  go_wp2
  go_ret
  exact Says.yes (hr.1 h0) a
 have hc:(r == 0)=false:=by simp [h0]
 go_wp2
 go_ret
 exact Says.no (fun h=>h0 (hr.2 h)) a
theorem zeW (A B:Option Addr) (n m c d:Nat) (f g:Nat->Int) (w:World) (ha:IntsR w w.heap.size A n f) (hb:IntsR w w.heap.size B m g) (hn:n<=140737488351232) :
  Calls Tryz.prog 92 #[.slice A n c,.slice B m d] w (Says (EqRow n m f g) w):=by
 have HA:=hid ha
 have HB:=hid hb
 clear ha hb
 go_enter Tryz.func92, Tryz.ntmps92
 by_cases hnm:n=m
 rotate_left
 ·have hc:((n:Int) != (m:Int))=true:=by simp; omega
  go_wp2
  go_ret
  exact Says.no (fun h=>hnm h.1) (Below.refl _ _)
 subst hnm
 have hc:((n:Int) != (n:Int))=false:=by simp
 go_wp2
 go_loopg [13] n (fun gg iv wx=>∃ k:Nat,iv=.int .i64 (k:Nat)/\k<=n/\n<=k+gg/\(∀ i,i<k->f i=g i)/\Below w.heap.size w wx)
 case atStart=>exact ⟨0,rfl,by omega,by omega,fun i hi=>absurd hi (by omega),Below.refl _ _⟩
 obtain ⟨k,rfl,hk,o,b,hW⟩:=hrel
 have p:(0:Int)<=(k:Int):=by omega
 have j:=hid b
 clear b
 by_cases hlt:k<n
 rotate_left
 ·have a:¬ (k:Int)<(n:Int):=by omega
  go_wp2
  go_ret
  exact Says.yes ⟨rfl,fun i hi=>j.out i (by omega)⟩ hW
 have a:(k:Int)<(n:Int):=by omega
 obtain ⟨ab,ao,rfl,r,x0⟩:=(HA.out.on hW).at hlt
 obtain ⟨bb,bo,rfl,q,y0⟩:=(HB.out.on hW).at hlt
 obtain ⟨x,hx⟩:=exx (f k)
 obtain ⟨y,hy⟩:=exx (g k)
 rw [<-hx] at x0;rw [<-hy] at y0
 have HX:=hid hx
 have HY:=hid hy
 clear hx hy
 by_cases h1:x=y
 ·have l:(x != y)=false:=by simp [h1]
  go_wp2
  go_quiet (fail)
  go_wp2
  go_roundg (gk - 1)
  case measure=>omega
  refine ⟨k+1,by go_num,by omega,by omega,fun i hi=>?_,zac hW _⟩
  by_cases e:i=k
  ·subst e; rw [<-HX.out,<-HY.out]; exact h1
  ·exact j.out i (by omega)
 have l:(x != y)=true:=by simpa using h1
 go_wp2
 go_quiet (fail)
 go_wp2
 go_ret
 exact Says.no (fun h=>h1 (by rw [HX.out,HY.out]; exact h.2 k hlt)) (zac hW _)
theorem neqEdge (a0 a1 a2 b0 b1 b2:Int) (w:World):(binOp .neq 90 (.agg #[.int .i64 a0,.int .i64 a1,.int .i64 a2]) (.agg #[.int .i64 b0,.int .i64 b1,.int .i64 b2])).run Tryz.prog w=.ok (.bool (!decide (a0=b0/\a1=b1/\a2=b2))) w:=by
 have u3:=Tryz.underlying3
 have hS:Tryz.prog.underlying 90 = some (.struct (Tryz.prog.fieldsOf 90)):=by kernel_rfl
 have hp:Tryz.prog.stoodInHeld 90 = false:=by kernel_rfl
 rw [run_neq_struct,show (10000:Nat)=9999+1 from rfl,run_equalIn_agg w 9999 90 _ _ hS hp]
 simp only [Program.fieldsOf,Tryz.underlying90]
 go_simp
 by_cases h1:a0=b0 <;> by_cases h2:a1=b1 <;> by_cases h3:a2=b2 <;> simp [h1,h2,h3]
theorem guardEdge:Tryz.prog.eqGuardType Tryz.prog.depth 90 = false:=by kernel_rfl
def EqEdges (n m:Nat) (x y:Nat->Int × Int × Int):Prop:=n=m/\∀ i,i<n->x i=y i
theorem zed (A B:Option Addr) (n m c d:Nat) (x y:Nat->Int × Int × Int) (w:World) (ha:Rd w w.heap.size A n 3 (edgeCell x)) (hb:Rd w w.heap.size B m 3 (edgeCell y)) (hn:n<=140737488351232) :
  Calls Tryz.prog 94 #[.slice A n c,.slice B m d] w (Says (EqEdges n m x y) w):=by
 have HA:=hid ha
 have HB:=hid hb
 clear ha hb
 go_enter Tryz.func94, Tryz.ntmps94
 by_cases hnm:n=m
 rotate_left
 ·have hc:((n:Int) != (m:Int))=true:=by simp; omega
  go_wp2
  go_ret
  exact Says.no (fun h=>hnm h.1) (Below.refl _ _)
 subst hnm
 have hc:((n:Int) != (n:Int))=false:=by simp
 go_wp2
 go_loopg [13] n (fun gg iv wx=>∃ k:Nat,iv=.int .i64 (k:Nat)/\k<=n/\n<=k+gg/\(∀ i,i<k->x i=y i)/\Below w.heap.size w wx)
 case atStart=>exact ⟨0,rfl,by omega,by omega,fun i hi=>absurd hi (by omega),Below.refl _ _⟩
 obtain ⟨k,rfl,hk,p,l,hW⟩:=hrel
 have q:(0:Int)<=(k:Int):=by omega
 have o:=hid l
 clear l
 by_cases hlt:k<n
 rotate_left
 ·have g:¬ (k:Int)<(n:Int):=by omega
  go_wp2
  go_ret
  exact Says.yes ⟨rfl,fun i hi=>o.out i (by omega)⟩ hW
 have g:(k:Int)<(n:Int):=by omega
 obtain ⟨ab,ao,rfl,t,x0,x1,x2⟩:=Rd.at3 ((Rd.below HA.out hW (Nat.le_refl _)).mono hW.size) hlt
 obtain ⟨bb,bo,rfl,s,y0,y1,y2⟩:=Rd.at3 ((Rd.below HB.out hW (Nat.le_refl _)).mono hW.size) hlt
 change wr.cell? _=some (.int .i64 (x k).1) at x0
 change wr.cell? _=some (.int .i64 (x k).2.1) at x1
 change wr.cell? _=some (.int .i64 (x k).2.2) at x2
 change wr.cell? _=some (.int .i64 (y k).1) at y0
 change wr.cell? _=some (.int .i64 (y k).2.1) at y1
 change wr.cell? _=some (.int .i64 (y k).2.2) at y2
 have b:Hid (x k=y k↔(x k).1=(y k).1/\(x k).2.1=(y k).2.1/\(x k).2.2=(y k).2.2):=by
  show _↔_
  constructor
  ·intro e; rw [e]; exact ⟨rfl,rfl,rfl⟩
  ·rintro ⟨e1,e2,e3⟩
   exact Prod.ext e1 (Prod.ext e2 e3)
 generalize (x k).1=a0 at *
 generalize (x k).2.1=a1 at *
 generalize (x k).2.2=a2 at *
 generalize (y k).1=b0 at *
 generalize (y k).2.1=b1 at *
 generalize (y k).2.2=b2 at *
 have j:=fun W=>neqEdge a0 a1 a2 b0 b1 b2 W
 have r:=guardEdge
 by_cases h1:a0=b0/\a1=b1/\a2=b2
 ·have hq:=b.out.2 h1
  have HQ:=hid hq
  have a:decide (a0=b0/\a1=b1/\a2=b2)=true:=decide_eq_true h1
  rw [a] at j;clear hq b h1 a
  go_wp2
  go_quiet (fail)
  go_wp2
  go_roundg (gk - 1)
  case measure=>omega
  refine ⟨k+1,by go_num,by omega,by omega,fun i hi=>?_,zac hW _⟩
  by_cases e:i=k
  ·subst e; exact HQ.out
  ·exact o.out i (by omega)
 have hq:¬ x k=y k:=fun e=>h1 (b.out.1 e)
 have HQ:=hid hq
 have a:decide (a0=b0/\a1=b1/\a2=b2)=false:=decide_eq_false h1
 rw [a] at j;clear hq b h1 a
 go_wp2
 go_quiet (fail)
 go_wp2
 go_ret
 exact Says.no (fun h=>HQ.out (h.2 k hlt)) (zac hW _)
def Trel.ed (T:Trel) (i j:Nat):Int × Int × Int:=(T.fr i j,T.lb i j,T.to i j)
def EqSecs (T U:Trel):Prop:=T.n=U.n/\∀ i,i<T.n->EqEdges (T.el i) (U.el i) (T.ed i) (U.ed i)
def SameT (T U:Trel):Prop:=EqRow T.nw U.nw T.W U.W/\EqSecs T U
theorem Trel.Reads.sec' {T:Trel} {w:World} {A B:Option Addr} (h:T.Reads w A B) {i:Nat} (hi:i<T.n):∃ b off E c,B=some ⟨b,off,none⟩/\b<w.heap.size/\w.cell? ⟨b,off+i,none⟩=some (.slice E (T.el i) c)/\Rd w w.heap.size E (T.el i) 3 (edgeCell (T.ed i)):=by
 obtain ⟨b,off,E,c,e,h1,h2,_,_,h3,_⟩:=h.sec hi
 exact ⟨b,off,E,c,e,h1,h2,h3⟩
theorem zeX (T U:Trel) (A B A' B':Option Addr) (d d':Nat) (w:World) (hT:T.Reads w A B) (hU:U.Reads w A' B') :
  Calls Tryz.prog 93 #[.slice B T.n d,.slice B' U.n d',.func (.func 94) #[] #[]] w (Says (EqSecs T U) w):=by
 have HT:=hid hT
 have HU:=hid hU
 have hn:=hT.2.2.2.2.1
 have u:∀ args w,(callFunc 94 args).run Tryz.prog w=.ok (.enter 94 args) w:=enters_of Tryz.func94 (by kernel_rfl) rfl
 clear hT hU
 go_enter Tryz.func93, Tryz.ntmps93
 by_cases hnm:T.n=U.n
 rotate_left
 ·have hc:((T.n:Int) != (U.n:Int))=true:=by simp; omega
  go_wp2
  go_ret
  exact Says.no (fun h=>hnm h.1) (Below.refl _ _)
 have p:=hid hnm
 rw [<-hnm];clear hnm
 have hc:((T.n:Int) != (T.n:Int))=false:=by simp
 go_wp2
 go_loopg [17] T.n (fun gg iv wx=>∃ k:Nat,iv=.int .i64 (k:Nat)/\k<=T.n/\T.n<=k+gg/\(∀ i,i<k->EqEdges (T.el i) (U.el i) (T.ed i) (U.ed i))/\Below w.heap.size w wx)
 case atStart=>exact ⟨0,rfl,by omega,by omega,fun i hi=>absurd hi (by omega),Below.refl _ _⟩
 obtain ⟨k,rfl,hk,s,j,hW⟩:=hrel
 have t:(0:Int)<=(k:Int):=by omega
 have q:=hid j
 clear j
 by_cases hlt:k<T.n
 rotate_left
 ·have g:¬ (k:Int)<(T.n:Int):=by omega
  go_wp2
  go_ret
  exact Says.yes ⟨p.out,fun i hi=>q.out i (by omega)⟩ hW
 have g:(k:Int)<(T.n:Int):=by omega
 obtain ⟨ab,ao,E,ec,rfl,x,x0,x1⟩:=(HT.out.on hW).sec' hlt
 obtain ⟨bb,bo,F,fc,rfl,v,y0,y1⟩:=(HU.out.on hW).sec' (by rw [<-p.out]; exact hlt)
 have l:=HT.out.2.2.2.2.2 k hlt
 obtain ⟨el,c⟩:=exx (T.el k)
 obtain ⟨fl,a⟩:=exx (U.el k)
 have HE:=hid c
 have HF:=hid a
 rw [<-c] at x0 x1 l;rw [<-a] at y0 y1;clear c a
 go_wp2_with fail
 refine (zed E F el fl ec fc (T.ed k) (U.ed k) wr x1 y1 l).mono ?_
 rintro e w1 ⟨b,rfl,hb,m⟩
 have o:=onS hW m
 cases b
 ·go_wp2
  go_ret
  exact Says.no (fun h=>absurd (hb.2 (by rw [HE.out,HF.out]; exact h.2 k hlt)) (by decide)) o
 have r:Hid (EqEdges (T.el k) (U.el k) (T.ed k) (U.ed k)):=by rw [<-HE.out,<-HF.out]; exact hb.1 rfl
 clear hb m x0 x1 y0 y1
 go_wp2
 go_roundg (gk - 1)
 case measure=>omega
 refine ⟨k+1,by go_num,by omega,by omega,fun i hi=>?_,o⟩
 by_cases e:i=k
 ·subst e; exact r.out
 ·exact q.out i (by omega)
theorem zeY (T U:Trel) (A B A' B':Option Addr) (c d c' d':Nat) (w:World) (hT:T.Reads w A B) (hU:U.Reads w A' B') :
  Calls Tryz.prog 34 #[.agg #[.slice A T.nw c,.slice B T.n d],.agg #[.slice A' U.nw c',.slice B' U.n d']] w (Says (SameT T U) w):=by
 obtain ⟨R1,y⟩:=exx ((Obj.cells #[.slice A T.nw c,.slice B T.n d] 53))
 obtain ⟨R2,x⟩:=exx ((Obj.cells #[.slice A' U.nw c',.slice B' U.n d'] 53))
 have C:Below (w.heap.size+2) ((w.alloc R1).alloc R2) ((w.alloc R1).alloc R2):=Below.refl _ _
 have HS:Hid (∀ w',Below (w.heap.size+2) ((w.alloc R1).alloc R2) w'->(w'.cell? ⟨w.heap.size,0,none⟩=some (.slice A T.nw c)/\w'.cell? ⟨w.heap.size,1,none⟩=some (.slice B T.n d)/\w'.cell? ⟨w.heap.size+1,0,none⟩=some (.slice A' U.nw c')/\w'.cell? ⟨w.heap.size+1,1,none⟩=some (.slice B' U.n d'))/\Below w.heap.size w w'):=fun w' hB=>by
  have k1:=zgR hB
  have k2:w'.rowIs (w.heap.size+1) 53 2 (fun i=>(#[Value.slice A' U.nw c',.slice B' U.n d']:Array Value).getD i undef):=by subst x; exact zdS hB
  have R:=zaL k1
  subst y
  exact ⟨⟨tbox k1 rfl,tbox k1 rfl,k2.cell (i:=0) (by omega),k2.cell (i:=1) (by omega)⟩,R⟩
 have HT:=hid hT
 have HU:=hid hU
 have hn:=hT.2.2.2.2.1
 have N:=hT.2.2.2.1
 have u:=hU.2.2.2.1
 clear hT hU
 obtain ⟨⟨p0,p1,p2,p3⟩,hW⟩:=HS.out _ C
 go_enter Tryz.func34, Tryz.ntmps34
 go_wp2_with fail
 rw [<-y,<-x]
 refine (zhV A A' T.nw U.nw c c' T.W U.W _ (HT.out.on hW).1 (HU.out.on hW).1 N u).mono ?_
 rintro e w1 ⟨b,rfl,hb,H⟩
 have z:=C.trans (H.mono (by simp))
 have K:=hid hb
 clear hW p0 p1 p2 p3 C hb H y x
 obtain ⟨⟨p0,p1,p2,p3⟩,hW⟩:=HS.out _ z
 cases b
 ·go_wp2
  go_ret
  exact Says.no (fun h=>absurd (K.out.2 h.1) (by decide)) hW
 by_cases hnm:T.n=U.n
 rotate_left
 ·have hc:((T.n:Int) != (U.n:Int))=true:=by simp; omega
  go_wp2
  go_ret
  exact Says.no (fun h=>hnm h.2.1) hW
 have s:=hid hnm
 rw [<-hnm] at p3 ⊢;clear hnm
 have hc:((T.n:Int) != (T.n:Int))=false:=by simp
 go_wp2
 go_loopg [5] T.n (fun gg iv wx=>∃ i:Nat,iv=.int .i64 (i:Nat)/\i<=T.n/\T.n<=i+gg/\(∀ k,k<i->EqEdges (T.el k) (U.el k) (T.ed k) (U.ed k))/\Below (w.heap.size+2) ((w.alloc R1).alloc R2) wx)
 case atStart=>exact ⟨0,rfl,by omega,by omega,fun i hi=>absurd hi (by omega),z⟩
 clear p0 p1 p2 p3 hW z
 obtain ⟨gI,O⟩:=exx gk
 subst O
 obtain ⟨i,rfl,hi,a4,m,hB⟩:=hrel
 have a5:(0:Int)<=(i:Int):=by omega
 have L:=hid m
 clear m
 obtain ⟨⟨p0,p1,p2,p3⟩,hW⟩:=HS.out _ hB
 rw [<-s.out] at p3
 by_cases hlt:i<T.n
 rotate_left
 ·have v:¬ (i:Int)<(T.n:Int):=by omega
  go_wp2
  go_ret
  exact Says.yes ⟨K.out.1 (by first | rfl | trivial),s.out,fun k hk=>L.out k (by omega)⟩ hW
 have v:(i:Int)<(T.n:Int):=by omega
 obtain ⟨ab,ao,E,ec,rfl,I,x0,x1⟩:=HT.out.sec' hlt
 obtain ⟨bb,bo,F,fc,rfl,G,y0,y1⟩:=HU.out.sec' (by rw [<-s.out]; exact hlt)
 have P:=HT.out.2.2.2.2.2 i hlt
 obtain ⟨el,g⟩:=exx (T.el i)
 obtain ⟨fl,a⟩:=exx (U.el i)
 have HE:=hid g
 have HF:=hid a
 rw [<-g] at x0 x1 P;rw [<-a] at y0 y1
 have X:=hid x1
 have S:=hid y1
 have Y:=hid x0
 have V:=hid y0
 have xr:=(hW.cell (p:=⟨ab,ao+i,none⟩) I).trans x0
 have yr:=(hW.cell (p:=⟨bb,bo+i,none⟩) G).trans y0
 clear g a x0 x1 y0 y1
 by_cases hlen:el=fl
 rotate_left
 ·have Q:((el:Int) != (fl:Int))=true:=by simp; omega
  go_wp2
  go_quiet (fail)
  go_wp2
  go_ret
  exact Says.no (fun h=>hlen (by rw [HE.out,HF.out]; exact (h.2.2 i hlt).1)) (zac hW _)
 subst hlen
 have Q:((el:Int) != (el:Int))=false:=by simp
 go_wp2
 go_quiet (fail)
 have HB:=hid (zac hB nq)
 have J:=HB.out
 clear hB hW p0 p1 p2 p3 xr yr
 go_wp2
 go_loopg [6] el (fun gg jv wx=>∃ j:Nat,jv=.int .i64 (j:Nat)/\j<=el/\el<=j+gg/\(∀ k,k<j->T.ed i k=U.ed i k)/\Below (w.heap.size+2) ((w.alloc R1).alloc R2) wx)
 case atStart=>exact ⟨0,rfl,by omega,by omega,fun i hi=>absurd hi (by omega),J⟩
 clear J HB
 obtain ⟨j,rfl,hj,Z,m,hB⟩:=hrel
 have a3:(0:Int)<=(j:Int):=by omega
 have M:=hid m
 clear m
 obtain ⟨⟨p0,p1,p2,p3⟩,hW⟩:=HS.out _ hB
 rw [<-s.out] at p3
 have xr:=(hW.cell (p:=⟨ab,ao+i,none⟩) I).trans Y.out
 have yr:=(hW.cell (p:=⟨bb,bo+i,none⟩) G).trans V.out
 by_cases hltj:j<el
 rotate_left
 ·have l:¬ (j:Int)<(el:Int):=by omega
  go_wp2
  go_roundg (gI - 1)
  case measure=>omega
  refine ⟨i+1,by go_num,by omega,by omega,fun k hk=>?_,hB⟩
  by_cases e:k=i
  ·subst e; exact ⟨by rw [<-HE.out,<-HF.out],fun q hq=>M.out q (by rw [<-HE.out] at hq; omega)⟩
  ·exact L.out k (by omega)
 have l:(j:Int)<(el:Int):=by omega
 obtain ⟨cb,co,rfl,a8,x0,x1,x2⟩:=Rd.at3 ((Rd.below X.out hW (Nat.le_refl _)).mono hW.size) hltj
 obtain ⟨db,dof,rfl,a7,y0,y1,y2⟩:=Rd.at3 ((Rd.below S.out hW (Nat.le_refl _)).mono hW.size) hltj
 change wr.cell? _=some (.int .i64 (T.ed i j).1) at x0
 change wr.cell? _=some (.int .i64 (T.ed i j).2.1) at x1
 change wr.cell? _=some (.int .i64 (T.ed i j).2.2) at x2
 change wr.cell? _=some (.int .i64 (U.ed i j).1) at y0
 change wr.cell? _=some (.int .i64 (U.ed i j).2.1) at y1
 change wr.cell? _=some (.int .i64 (U.ed i j).2.2) at y2
 have r:Hid (T.ed i j=U.ed i j↔(T.ed i j).1=(U.ed i j).1/\(T.ed i j).2.1=(U.ed i j).2.1/\(T.ed i j).2.2=(U.ed i j).2.2):=by
  show _↔_
  constructor
  ·intro e; rw [e]; exact ⟨rfl,rfl,rfl⟩
  ·rintro ⟨e1,e2,e3⟩
   exact Prod.ext e1 (Prod.ext e2 e3)
 generalize (T.ed i j).1=a0 at *
 generalize (T.ed i j).2.1=a1 at *
 generalize (T.ed i j).2.2=a2 at *
 generalize (U.ed i j).1=b0 at *
 generalize (U.ed i j).2.1=b1 at *
 generalize (U.ed i j).2.2=b2 at *
 have D:=fun W=>neqEdge a0 a1 a2 b0 b1 b2 W
 have a6:=guardEdge
 by_cases h1:a0=b0/\a1=b1/\a2=b2
 ·have HQ:=hid (r.out.2 h1)
  have o:decide (a0=b0/\a1=b1/\a2=b2)=true:=decide_eq_true h1
  rw [o] at D;clear r h1 o
  go_wp2
  go_quiet (fail)
  go_wp2
  go_roundg (gk - 1)
  case measure=>omega
  refine ⟨j+1,by go_num,by omega,by omega,fun k hk=>?_,zac hB _⟩
  by_cases e:k=j
  ·subst e; exact HQ.out
  ·exact M.out k (by omega)
 have HQ:Hid (¬ T.ed i j=U.ed i j):=fun e=>h1 (r.out.1 e)
 have o:decide (a0=b0/\a1=b1/\a2=b2)=false:=decide_eq_false h1
 rw [o] at D;clear r h1 o
 go_wp2
 go_quiet (fail)
 go_wp2
 go_ret
 exact Says.no (fun h=>HQ.out ((h.2.2 i hlt).2 j (by rw [<-HE.out]; exact hltj))) (zac hW _)
theorem zjj {r mw N:Nat} {key:Nat->Nat->List Int} {wd:Nat->Nat->Nat} {St Tr:Nat->List (List Int)} (h:FsRel r mw key wd N St Tr) (hst:∀ i,i<N->∀ t t',t<mw->t'<mw->key t i=key t' i->wd t i=wd t' i->key t (i+1)=key t' (i+1)) :
  Cov (fsT N St Tr) mw wd (fun t i=>posOf r (St i) (key t i)) where
 lt i hi t ht:=by
  have:=((h.st i hi).posOf_lt (x:=key t i) ⟨t,ht,rfl⟩).1
  show ((posOf r (St i) (key t i):Nat):Int)<(((St i).length:Nat):Int)
  omega
 onto i hi v hv:=by
  have hv:(v:Int)<(((St i).length:Nat):Int):=hv
  have a:v<(St i).length:=by omega
  obtain ⟨t,ht,e⟩:=(h.st i hi).mem v a
  exact ⟨t,ht,by show posOf r (St i) (key t i)=v; rw [<-e]; exact zdj ((h.st i hi).pos a)⟩
 out i hi t ht:=by
  obtain ⟨p,hp,e⟩:=(h.tr i hi).all _ ⟨t,ht,rfl⟩
  refine ⟨p,hp,?_,?_,?_⟩
  ·show ((Tr i).getD p []).getD 0 0=_
   rw [e]
   rfl
  ·show ((Tr i).getD p []).getD 1 0=_
   rw [e]
   rfl
  ·show ((Tr i).getD p []).getD 2 0=_
   rw [e]
   rfl
 inn i hi j hj:=by
  obtain ⟨t,ht,e⟩:=(h.tr i hi).mem j hj
  refine ⟨t,ht,?_,?_,?_⟩
  ·show ((Tr i).getD j []).getD 0 0=_
   rw [e]
   rfl
  ·show ((Tr i).getD j []).getD 1 0=_
   rw [e]
   rfl
  ·show ((Tr i).getD j []).getD 2 0=_
   rw [e]
   rfl
 srt i hi p q hpq hq:=by
  have hi:i<N:=hi
  have d:q<(Tr i).length:=hq
  obtain ⟨t,ht,e⟩:=(h.tr i hi).mem p (by omega)
  obtain ⟨t',c,e'⟩:=(h.tr i hi).mem q d
  obtain ⟨k,hk,h1,h2⟩:=(h.tr i hi).ord p q hpq d
  show ((Tr i).getD p []).getD 0 0<((Tr i).getD q []).getD 0 0∨((Tr i).getD p []).getD 0 0=((Tr i).getD q []).getD 0 0/\((Tr i).getD p []).getD 1 0<((Tr i).getD q []).getD 1 0
  match k,hk with
  | 0,_=>exact .inl h2
  | 1,_=>exact .inr ⟨h1 0 (by omega),h2⟩
  | 2,_ =>
   exfalso
   have a0:=h1 0 (by omega)
   have a1:=h1 1 (by omega)
   rw [e,e'] at a0 a1 h2
   have a0:((posOf r (St i) (key t i):Nat):Int)=((posOf r (St i) (key t' i):Nat):Int):=a0
   have a1:((wd t i:Nat):Int)=((wd t' i:Nat):Int):=a1
   have a2:((posOf r (St (i+1)) (key t (i+1)):Nat):Int)<((posOf r (St (i+1)) (key t' (i+1)):Nat):Int):=h2
   have b:=(h.st i (by omega)).posOf_inj (x:=key t i) (y:=key t' i) ⟨t,ht,rfl⟩ ⟨t',c,rfl⟩ (by omega)
   rw [hst i hi t t' ht c b (by omega)] at a2
   omega
theorem zlb {P M n N r:Nat} {m:Nat->Nat} {pv:Nat->Nat} {R V H:Nat->Nat->Nat} {T:Trel} {St Tr:Nat->List (List Int)} (hL:FieldLaws (P ^ M) (addF P M) (mulF P M m)) (hneg:∀ x,x<P ^ M->negF P M x<P ^ M/\addF P M x (negF P M x)=0)
  (hV:RrefN (P ^ M) n N V) (hp:NullRel (P ^ M) (addF P M) (mulF P M m) (negF P M) n N V r H) (hsp:SameSp (P ^ M) (addF P M) (mulF P M m) N n n V R) (h:SpanF (P ^ M) n N pv R) (hdis:∀ i j,i<j->j<n->lE (R i) N≠lE (R j) N)
  (hM:MinT (P ^ M) (addF P M) (mulF P M m) n N pv R T) (hP:T.Proper)
  (hrel:FsRel r ((P ^ M) ^ n) (fun t i=>keyS r (syP P M m (spE (addF P M) (mulF P M m) V (msgD (P ^ M) n t) n) H i)) (fun t=>spE (addF P M) (mulF P M m) V (msgD (P ^ M) n t) n) N St Tr) :
  (fsT N St Tr).Proper/\(∀ i,i<=N->(fsT N St Tr).W i=T.W i)/\(∀ i,i<N->(fsT N St Tr).el i=T.el i)/\∀ z,IsRen (fsT N St Tr) z->IsRen T z:=by
 have hn:=hM.nN
 subst hn
 obtain ⟨C,hC,hW⟩:=MinT.coefs hL hsp
 have b:=fun {i:Nat} (hi:i<=T.n) t t'=>MinT.ker hL hneg hV hp hsp h hdis hC hW hi t t'
 have hT:=hM.cov hL h hsp hC hW
 have a:∀ t i k,syP P M m (spE (addF P M) (mulF P M m) V (msgD (P ^ M) n t) n) H i k=dotN (addF P M) (mulF P M m) (spE (addF P M) (mulF P M m) V (msgD (P ^ M) n t) n) (H k) i:=fun t i k=>zeV hL (fun j=>za0 hL _ _ _) i
 have hU:=zjj hrel fun i hi t t' _ _ e1 e2=>zbk fun k hk=>by
  have e3:=zdk e1 hk
  rw [a,a] at e3 ⊢
  show addF P M (dotN _ _ _ (H k) i) (mulF P M m (spE _ _ V (msgD (P ^ M) n t) n i) (H k i))=addF P M (dotN _ _ _ (H k) i) (mulF P M m (spE _ _ V (msgD (P ^ M) n t') n i) (H k i))
  rw [e3,e2]
 have hk:∀ i,i<=T.n->∀ t t',t<(P ^ M) ^ n->t'<(P ^ M) ^ n->(posOf r (St i) (keyS r (syP P M m (spE (addF P M) (mulF P M m) V (msgD (P ^ M) n t) n) H i))=posOf r (St i) (keyS r (syP P M m (spE (addF P M) (mulF P M m) V (msgD (P ^ M) n t') n) H i)) ↔
   packB (P ^ M) (actA pv R T.n i) (C t) n=packB (P ^ M) (actA pv R T.n i) (C t') n):=fun i hi t t' ht ht'=>by
  rw [<-b hi]
  constructor
  ·intro e k hk
   have e2:=(hrel.st i hi).posOf_inj (x:=keyS r (syP P M m (spE (addF P M) (mulF P M m) V (msgD (P ^ M) n t) n) H i)) (y:=keyS r (syP P M m (spE (addF P M) (mulF P M m) V (msgD (P ^ M) n t') n) H i)) ⟨t,ht,rfl⟩ ⟨t',ht',rfl⟩ e
   have e3:=zdk e2 hk
   rw [a,a] at e3
   exact e3
  ·intro e
   have e2:keyS r (syP P M m (spE (addF P M) (mulF P M m) V (msgD (P ^ M) n t) n) H i)=keyS r (syP P M m (spE (addF P M) (mulF P M m) V (msgD (P ^ M) n t') n) H i):=zbk fun k hk=>by
    rw [a,a]
    exact e k hk
   rw [e2]
 obtain ⟨hw,he,c⟩:=Cov.proper hP hT hU rfl hk (by show T.n+1=T.nw; rw [hP.shape.nw]) (fun i _=>by show (0:Int)<=((St i).length:Nat); omega)
 exact ⟨c,hw,he,fun z hz=>Cov.ren hP c hT hU rfl hk hw he hz⟩
theorem zlc {q n N r:Nat} {add mul:Nat->Nat->Nat} {neg:Nat->Nat} {pv:Nat->Nat} {R V H:Nat->Nat->Nat} {T:Trel} {y:Nat->Nat->Int × Int × Int} (hL:FieldLaws q add mul) (hneg:∀ x,x<q->neg x<q/\add x (neg x)=0)
  (hV:RrefN q n N V) (hp:NullRel q add mul neg n N V r H) (hsp:SameSp q add mul N n n V R) (h:SpanF q n N pv R) (hdis:∀ i j,i<j->j<n->lE (R i) N≠lE (R j) N)
  (hM:MinT q add mul n N pv R T) (hP:T.Proper) (hy:IsRen T y):IsTr q r add mul H (T.re y) n:=by
 have hn:=hM.nN
 subst hn
 obtain ⟨C,hC,hW⟩:=MinT.coefs hL hsp
 have hT:=hM.cov hL h hsp hC hW
 exact Cov.isTr (T:=T.re y) hL hneg hV hp (hy.proper hP) (hy.cov hP hT) fun i hi t t' ht ht' e k hk=>by
  have hi:i<=T.n:=hi
  have h1:=hT.lt i hi t ht
  have h2:=hT.lt i hi t' ht'
  exact (MinT.ker hL hneg hV hp hsp h hdis hC hW hi t t').2 (hP.nm_inj hi _ _ (by omega) (by omega) e) k hk
theorem zj5 {T U:Trel} {y z:Nat->Nat->Int × Int × Int} (hn:U.n=T.n) (hnw:U.nw=T.nw) (hT:T.nw=T.n+1) (hw:∀ i,i<=T.n->U.W i=T.W i) (he:∀ i,i<T.n->U.el i=T.el i) (hy:IsRen T y) (hz:IsRen T z):SameT (T.re y) (U.re z) :=
 ⟨⟨hnw.symm,fun i hi=>(hw i (by have hi:i<T.nw:=hi; omega)).symm⟩,hn.symm,fun i hi=>⟨(he i hi).symm,fun j hj=>SecRen.unique (hy i hi) (hz i hi) hj⟩⟩
def keyV (q:Nat) (s:Nat->Nat):Nat->Nat
 | 0=>0
 | r+1=>keyV q s r*q+s r
theorem zdl {q:Nat} {s s':Nat->Nat} (h:∀ k,s k<q) (h':∀ k,s' k<q):∀ r,(keyV q s r<keyV q s' r↔LexLt (fun j=>((s j:Nat):Int)) (fun j=>((s' j:Nat):Int)) r)/\(keyV q s r=keyV q s' r↔∀ j,j<r->s j=s' j):=by
 intro r
 induction r with
 | zero =>
  refine ⟨⟨fun h=>absurd h (Nat.lt_irrefl 0),?_⟩,⟨fun _ j hj=>absurd hj (by omega),fun _=>rfl⟩⟩
  rintro ⟨i,hi,_⟩
  omega
 | succ r ih =>
  obtain ⟨i1,i2⟩:=ih
  have hx:=h r
  have hy:=h' r
  have e1:keyV q s (r+1)=keyV q s r*q+s r:=rfl
  have e2:keyV q s' (r+1)=keyV q s' r*q+s' r:=rfl
  have cmp:∀ a b x y:Nat,x<q->y<q->((a*q+x<b*q+y↔a<b∨(a=b/\x<y))/\(a*q+x=b*q+y↔a=b/\x=y)):=fun a b x y hx hy=>by
   rcases Nat.lt_trichotomy a b with g | g | g
   ·have h1:a*q+q<=b*q:=by have:=Nat.mul_le_mul_right q (show a+1<=b by omega); rw [Nat.add_mul,Nat.one_mul] at this; exact this
    exact ⟨⟨fun _=>.inl g,fun _=>by omega⟩,⟨fun e=>by omega,fun e=>by omega⟩⟩
   ·subst g
    exact ⟨⟨fun e=>.inr ⟨rfl,by omega⟩,fun e=>by omega⟩,⟨fun e=>⟨rfl,by omega⟩,fun e=>by omega⟩⟩
   ·have h1:b*q+q<=a*q:=by have:=Nat.mul_le_mul_right q (show b+1<=a by omega); rw [Nat.add_mul,Nat.one_mul] at this; exact this
    exact ⟨⟨fun e=>by omega,fun e=>by omega⟩,⟨fun e=>by omega,fun e=>by omega⟩⟩
  obtain ⟨c1,c2⟩:=cmp (keyV q s r) (keyV q s' r) (s r) (s' r) hx hy
  rw [e1,e2]
  refine ⟨c1.trans ?_,c2.trans ?_⟩
  ·rw [i1, i2]
   constructor
   ·rintro (⟨i,hi,k1,k2⟩ | ⟨k1,k2⟩)
    ·exact ⟨i,by omega,k1,k2⟩
    ·refine ⟨r,by omega,fun j hj=>?_,?_⟩
     ·show ((s j:Nat):Int)=((s' j:Nat):Int)
      rw [k1 j hj]
     ·show ((s r:Nat):Int)<((s' r:Nat):Int)
      omega
   ·rintro ⟨i,hi,k1,k2⟩
    by_cases e:i=r
    ·subst e
     refine .inr ⟨fun j hj=>?_,?_⟩
     ·have k1:((s j:Nat):Int)=((s' j:Nat):Int):=k1 j hj
      omega
     ·have k2:((s i:Nat):Int)<((s' i:Nat):Int):=k2
      omega
    ·exact .inl ⟨i,by omega,k1,k2⟩
  ·rw [i2]
   constructor
   ·rintro ⟨k1,k2⟩ j hj
    by_cases e:j=r
    ·rw [e,k2]
    ·exact k1 j (by omega)
   ·intro k
    exact ⟨fun j hj=>k j (by omega),k r (by omega)⟩
theorem zkQ {q r:Nat} {s s':Nat->Nat} (h:∀ k,s k<q) (h':∀ k,s' k<q) (hl:ltL r (keyS r s) (keyS r s')):keyV q s r<keyV q s' r:=by
 rw [(zdl h h' r).1]
 obtain ⟨i,hi,k1,k2⟩:=hl
 dsimp only at k1 k2
 refine ⟨i,hi,fun j hj=>?_,?_⟩
 ·have:=k1 j hj
  rw [za9 (by omega),za9 (by omega)] at this
  exact this
 ·rw [za9 hi,za9 hi] at k2
  exact k2
theorem zj6 {r n q:Nat} {L:List (List Int)} {S:Nat->Nat->Nat} (hS:∀ v k,S v k<q) (hL:SetL r L (fun l=>∃ v,v<n/\l=keyS r (S v))) (hinj:∀ u v,u<n->v<n->(∀ k,k<r->S u k=S v k)->u=v) {u:Nat} (hu:u<n) :
  posOf r L (keyS r (S u))=rankOf (fun v=>keyV q (S v) r) n u:=by
 have hs:∀ p,∃ v,p<L.length->v<n/\L.getD p []=keyS r (S v):=fun p=>by
  by_cases g:p<L.length
  ·obtain ⟨v,hv,e⟩:=hL.mem p g
   exact ⟨v,fun _=>⟨hv,e⟩⟩
  ·exact ⟨0,fun k=>absurd k g⟩
 obtain ⟨V,hV⟩:=Classical.axiomOfChoice hs
 obtain ⟨M,hM⟩:∃ M,M=(List.range L.length).map V:=⟨_,rfl⟩
 have h:M.length=L.length:=by rw [hM]; simp
 have i:∀ p,p<L.length->M.getD p 0=V p:=fun p hp=>by rw [hM]; simp [hp]
 have j:∀ p q',p<q'->q'<L.length->keyV q (S (V p)) r<keyV q (S (V q')) r:=fun p q' hpq hq=>by
  have h1:=hL.ord p q' hpq hq
  rw [(hV p (by omega)).2,(hV q' hq).2] at h1
  exact zkQ (hS _) (hS _) h1
 have m:M.Nodup:=by
  rw [hM]
  exact zag.2 fun p q' hpq hq e=>by
   have:=j p q' hpq hq
   rw [e] at this
   exact absurd this (Nat.lt_irrefl _)
 have f:∀ x,x ∈ M->x ∈ List.range n:=fun x hx=>by
  rw [hM] at hx
  obtain ⟨p,hp,rfl⟩:=List.mem_map.1 hx
  exact List.mem_range.2 (hV p (List.mem_range.1 hp)).1
 have c:∀ v,v<n->∃ p,p<L.length/\V p=v:=fun v hv=>by
  obtain ⟨p,hp,e⟩:=hL.all _ ⟨v,hv,rfl⟩
  have h1:=hV p hp
  refine ⟨p,hp,hinj _ _ h1.1 hv fun k hk=>?_⟩
  rw [h1.2] at e
  exact zdk e hk
 have o:n<=L.length:=zj4 (mw:=L.length) (a:=V) (b:=fun p=>p) (fun t ht=>ht) c fun t t' _ _ e=>by rw [show t=t' from e]
 have hp:M.Perm (List.range n):=zcI m f (by rw [h]; simpa using o)
 obtain ⟨p,d,e⟩:=c u hu
 have h1:=zb4 (k:=fun v=>keyV q (S v) r) hp (fun a b hab hb=>by
  rw [h] at hb
  rw [i a (by omega),i b hb]
  exact j a b hab hb) (p:=p) (by rw [h]; exact d)
 rw [i p d,e] at h1;rw [h1]
 have h2:=hL.pos d
 rw [(hV p d).2,e] at h2
 exact zdj h2
section
variable {T U:Trel} {mw:Nat} {x b:Nat->Nat->Nat}
theorem Cov.eq (hT:Cov T mw x b) (hU:Cov U mw x b) (hn:U.n=T.n) (he:∀ i,i<T.n->U.el i=T.el i) {i:Nat} (hi:i<T.n) {j:Nat} (hj:j<T.el i):T.eD i j=U.eD i j:=by
 have mem:∀ {W:Trel},Cov W mw x b->i<W.n->∀ y,y ∈ (List.range (W.el i)).map (W.eD i)↔∃ t,t<mw/\y=(((b t i:Nat):Int),((x t i:Nat):Int),((b t (i+1):Nat):Int)):=fun {W} h hi y=>by
  constructor
  ·intro hy
   obtain ⟨j,hj,rfl⟩:=List.mem_map.1 hy
   obtain ⟨t,ht,h1,h2,h3⟩:=h.inn i hi j (List.mem_range.1 hj)
   exact ⟨t,ht,by unfold Trel.eD; rw [h1,h2,h3]⟩
  rintro ⟨t,ht,rfl⟩
  obtain ⟨j,hj,h1,h2,h3⟩:=h.out i hi t ht
  exact List.mem_map.2 ⟨j,List.mem_range.2 hj,by unfold Trel.eD; rw [h1,h2,h3]⟩
 have srt:∀ {W:Trel},Cov W mw x b->i<W.n->((List.range (W.el i)).map (W.eD i)).Pairwise ltE:=fun {W} h hi=>zag.2 fun p q hpq hq=>h.srt i hi p q hpq hq
 have nd:∀ {l:List (Int × Int × Int)},l.Pairwise ltE->l.Nodup:=fun h=>h.imp fun {a c} hac e=>by subst e; exact zhE _ hac
 have hp:((List.range (T.el i)).map (T.eD i)).Perm ((List.range (U.el i)).map (U.eD i)):=(List.perm_ext_iff_of_nodup (nd (srt hT hi)) (nd (srt hU (by omega)))).2 fun y=>by rw [mem hT hi,mem hU (by omega)]
 have e:=List.Perm.eq_of_pairwise (le:=ltE) (fun a c _ _ k1 k2=>absurd k2 (zfZ k1)) (srt hT hi) (srt hU (by omega)) hp
 have e2:=congrArg (fun l=>l[j]?) e
 simpa [hj,he i hi] using e2
theorem Cov.same (hT:Cov T mw x b) (hU:Cov U mw x b) (hn:U.n=T.n) (hnw:U.nw=T.nw) (hT1:T.nw=T.n+1) (hw:∀ i,i<=T.n->U.W i=T.W i) (he:∀ i,i<T.n->U.el i=T.el i):SameT T U :=
 ⟨⟨hnw.symm,fun i hi=>(hw i (by omega)).symm⟩,hn.symm,fun i hi=>⟨(he i hi).symm,fun j hj=>hT.eq hU hn he hi hj⟩⟩
end
theorem IsF.cov {T:Trel} {mw:Nat} {x a b:Nat->Nat->Nat} {nf:Nat->Nat->Nat} {z:Nat->Nat->Int × Int × Int} (hT:Cov T mw x a) (hz:IsF T nf z) (hb:∀ i,i<=T.n->∀ t,t<mw->nf i (a t i)=b t i) (hlt:∀ i,i<=T.n->∀ t,t<mw->((b t i:Nat):Int)<T.W i) (honto:∀ i,i<=T.n->∀ v:Nat,(v:Int)<T.W i->∃ t,t<mw/\b t i=v):Cov (T.re z) mw x b where
 lt:=hlt
 onto:=honto
 out i hi t ht:=by
  have hi:i<T.n:=hi
  obtain ⟨j,hj,h1,h2,h3⟩:=hT.out i hi t ht
  have hm:=(hz i hi).1.mem_iff.2 (List.mem_map.2 ⟨j,List.mem_range.2 hj,rfl⟩)
  obtain ⟨p,hp,e⟩:=List.mem_map.1 hm
  have e:z i p=(((nf i (T.fr i j).toNat:Nat):Int),T.lb i j,((nf (i+1) (T.to i j).toNat:Nat):Int)):=e
  rw [h1,h2,h3,Int.toNat_natCast,Int.toNat_natCast,hb i (by omega) t ht,hb (i+1) hi t ht] at e
  exact ⟨p,List.mem_range.1 hp,congrArg Prod.fst e,congrArg (fun t=>t.2.1) e,congrArg (fun t=>t.2.2) e⟩
 inn i hi p hp:=by
  have hi:i<T.n:=hi
  have hp:p<T.el i:=hp
  have hm:=(hz i hi).1.mem_iff.1 (List.mem_map.2 ⟨p,List.mem_range.2 hp,rfl⟩)
  obtain ⟨j,hj,e⟩:=List.mem_map.1 hm
  obtain ⟨t,ht,h1,h2,h3⟩:=hT.inn i hi j (List.mem_range.1 hj)
  have e:(((nf i (T.fr i j).toNat:Nat):Int),T.lb i j,((nf (i+1) (T.to i j).toNat:Nat):Int))=z i p:=e
  rw [h1,h2,h3,Int.toNat_natCast,Int.toNat_natCast,hb i (by omega) t ht,hb (i+1) hi t ht] at e
  exact ⟨t,ht,(congrArg Prod.fst e).symm,(congrArg (fun t=>t.2.1) e).symm,(congrArg (fun t=>t.2.2) e).symm⟩
 srt i hi p q hpq hq:=(hz i hi).2 p q hpq hq
noncomputable def synN (q r:Nat) (T:Trel) (S:Nat->Nat->Nat->Nat) (i v:Nat):Nat:=rankOf (fun u=>keyV q (S i u) r) (T.W i).toNat v
def IsoT (T U:Trel):Prop:=T.properE=0/\U.properE=0/\∃ y z,IsRen T y/\IsRen U z/\SameT (T.re y) (U.re z)
theorem EqSecs.of_unique {T U:Trel} {y y' z z':Nat->Nat->Int × Int × Int} (h1:IsRen T y) (h1':IsRen T y') (h2:IsRen U z) (h2':IsRen U z') (h:SameT (T.re y') (U.re z')):SameT (T.re y) (U.re z):=by
 obtain ⟨h3,h4,h5⟩:=h
 refine ⟨h3,h4,fun i hi=>⟨(h5 i hi).1,fun j hj=>?_⟩⟩
 have b:i<T.n:=hi
 have a:i<U.n:=by have:T.n=U.n:=h4; omega
 have d:j<T.el i:=hj
 have c:j<U.el i:=by have:T.el i=U.el i:=(h5 i hi).1; omega
 have e:=(h5 i hi).2 j hj
 have e1:(T.re y').ed i j=y' i j:=rfl
 have e2:(U.re z').ed i j=z' i j:=rfl
 show y i j=z i j
 rw [e1,e2] at e;rw [(h1 i b).unique (h1' i b) d,e,(h2' i a).unique (h2 i a) c]
theorem IsoT.iff {T U:Trel} (hT:T.properE=0) (hU:U.properE=0) {y z:Nat->Nat->Int × Int × Int} (h1:IsRen T y) (h2:IsRen U z):IsoT T U↔SameT (T.re y) (U.re z):=by
 constructor
 ·rintro ⟨_,_,y',z',k1,k2,k3⟩
  exact EqSecs.of_unique h1 k1 h2 k2 k3
 ·intro h
  exact ⟨hT,hU,y,z,h1,h2,h⟩
theorem RenumPost.both {T:Trel} {w w':World} {e:Ending} (h:RenumPost T w e w'):∃ A B n m c d,e=.returned (.tuple #[.agg #[.slice A n c,.slice B m d],.int .i64 T.properE])/\Below w.heap.size w w'/\(T.properE=0->n=T.nw/\m=T.n/\∃ y,IsRen T y/\RenOut T y w' A B c d):=by
 obtain ⟨hb,h | h⟩:=h
 ·obtain ⟨h1,h2⟩:=h
  exact ⟨none,none,0,0,0,0,h2,hb,fun h3=>absurd h3 h1⟩
 ·obtain ⟨h1,y,A,B,c,d,h2,h3,h4⟩:=h
  exact ⟨A,B,T.nw,T.n,c,d,by rw [h1]; exact h2,hb,fun _=>⟨rfl,rfl,y,h3,h4⟩⟩
theorem zkR (T U:Trel) (A B A' B':Option Addr) (c d c' d':Nat) (w:World) (hT:T.Reads w A B) (hU:U.Reads w A' B') (hc:T.nw<=c) (hc':U.nw<=c') :
  Calls Tryz.prog 36 #[.agg #[.slice A T.nw c,.slice B T.n d],.agg #[.slice A' U.nw c',.slice B' U.n d']] w (Says (IsoT T U) w):=by
 obtain ⟨R1,C⟩:=exx ((Obj.cells #[.slice A T.nw c,.slice B T.n d] 53))
 obtain ⟨R2,x⟩:=exx ((Obj.cells #[.slice A' U.nw c',.slice B' U.n d'] 53))
 have D:Below (w.heap.size+2) ((w.alloc R1).alloc R2) ((w.alloc R1).alloc R2):=Below.refl _ _
 have HS:Hid (∀ w',Below (w.heap.size+2) ((w.alloc R1).alloc R2) w'->(w'.cell? ⟨w.heap.size,0,none⟩=some (.slice A T.nw c)/\w'.cell? ⟨w.heap.size,1,none⟩=some (.slice B T.n d)/\w'.cell? ⟨w.heap.size+1,0,none⟩=some (.slice A' U.nw c')/\w'.cell? ⟨w.heap.size+1,1,none⟩=some (.slice B' U.n d'))/\Below w.heap.size w w'):=fun w' hB=>by
  have k1:=zgR hB
  have k2:w'.rowIs (w.heap.size+1) 53 2 (fun i=>(#[Value.slice A' U.nw c',.slice B' U.n d']:Array Value).getD i undef):=by subst x; exact zdS hB
  have a5:=zaL k1
  subst C
  exact ⟨⟨tbox k1 rfl,tbox k1 rfl,k2.cell (i:=0) (by omega),k2.cell (i:=1) (by omega)⟩,a5⟩
 have HT:=hid hT
 have HU:=hid hU
 clear hT hU
 obtain ⟨⟨p0,p1,p2,p3⟩,hW⟩:=HS.out _ D
 go_enter Tryz.func36, Tryz.ntmps36
 go_upto_region 1 with fail
 rw [<-C,<-x];clear C x
 obtain ⟨w1,l⟩:∃ W,W=(w.alloc R1).alloc R2:=⟨_,rfl⟩
 have K:w.heap.size+2<=w1.heap.size:=by rw [l]; simp
 rw [<-l] at p0 p1 p2 p3 hW ⊢
 have a0:Hid (Below (w.heap.size+2) ((w.alloc R1).alloc R2) w1):=by rw [l]; exact D
 clear l D
 go_wp2_with fail
 refine (zea T A B c d w1 (HT.out.on hW) hc).mono ?_
 rintro e w2 a
 obtain ⟨A1,B1,n1,m1,c1,d1,rfl,hb,hk⟩:=a.both
 have H:=hid (a0.out.trans (hb.mono K))
 have J:w.heap.size+2<=w2.heap.size:=Nat.le_trans K hb.size
 clear p0 p1 p2 p3 hW hb a0
 obtain ⟨⟨p0,p1,p2,p3⟩,hW⟩:=HS.out _ H.out
 obtain ⟨e1,u⟩:=exx T.properE
 have p:=hid u
 have HK:=hid hk
 rw [<-u];clear u hk a
 go_upto_region 2 with fail
 have k:=aly w2 (Obj.cells #[.slice A1 n1 c1,.slice B1 m1 d1] 53)
 have b5:(w2.alloc (Obj.cells #[.slice A1 n1 c1,.slice B1 m1 d1] 53)).cell? ⟨w2.heap.size,0,none⟩=some (.slice A1 n1 c1):=tbox (Below.refl _ _) rfl
 have b6:(w2.alloc (Obj.cells #[.slice A1 n1 c1,.slice B1 m1 d1] 53)).cell? ⟨w2.heap.size,1,none⟩=some (.slice B1 m1 d1):=tbox (Below.refl _ _) rfl
 obtain ⟨w3,M⟩:=exx (w2.alloc (Obj.cells #[.slice A1 n1 c1,.slice B1 m1 d1] 53))
 rw [<-M] at k b5 b6 ⊢
 obtain ⟨q1,O⟩:=exx w2.heap.size
 rw [<-O] at b5 b6 ⊢
 have G:=hid (H.out.trans (k.mono J))
 have Y:Hid (T.properE=0->n1=T.nw/\m1=T.n/\∃ y,IsRen T y/\RenOut T y w3 A1 B1 c1 d1):=fun h=>by
  obtain ⟨k1,k2,y,k3,k4⟩:=HK.out h
  exact ⟨k1,k2,y,k3,k4.on k⟩
 have I:w.heap.size+2<=w3.heap.size:=Nat.le_trans J k.size
 clear p0 p1 p2 p3 hW H HK k M O
 obtain ⟨⟨p0,p1,p2,p3⟩,hW⟩:=HS.out _ G.out
 go_wp2_with fail
 refine (zea U A' B' c' d' w3 (HU.out.on hW) hc').mono ?_
 rintro e w4 a
 obtain ⟨A2,B2,n2,m2,c2,d2,rfl,hb,hk⟩:=a.both
 have Z:=hid (G.out.trans (hb.mono I))
 have a1:w.heap.size+2<=w4.heap.size:=Nat.le_trans I hb.size
 have X:Hid (T.properE=0->n1=T.nw/\m1=T.n/\∃ y,IsRen T y/\RenOut T y w4 A1 B1 c1 d1):=fun h=>by
  obtain ⟨k1,k2,y,k3,k4⟩:=Y.out h
  exact ⟨k1,k2,y,k3,k4.on hb⟩
 replace b5:=cellS hb b5;replace b6:=cellS hb b6
 obtain ⟨e2,q⟩:=exx U.properE
 have o:=hid q
 have V:=hid hk
 rw [<-q];clear p0 p1 p2 p3 hW hb G Y q hk a
 go_upto_region 3 with fail
 have g:=aly w4 (Obj.cells #[.slice A2 n2 c2,.slice B2 m2 d2] 53)
 have b7:(w4.alloc (Obj.cells #[.slice A2 n2 c2,.slice B2 m2 d2] 53)).cell? ⟨w4.heap.size,0,none⟩=some (.slice A2 n2 c2):=tbox (Below.refl _ _) rfl
 have b8:(w4.alloc (Obj.cells #[.slice A2 n2 c2,.slice B2 m2 d2] 53)).cell? ⟨w4.heap.size,1,none⟩=some (.slice B2 m2 d2):=tbox (Below.refl _ _) rfl
 obtain ⟨w5,L⟩:=exx (w4.alloc (Obj.cells #[.slice A2 n2 c2,.slice B2 m2 d2] 53))
 rw [<-L] at g b7 b8 ⊢
 obtain ⟨q2,N⟩:=exx w4.heap.size
 rw [<-N] at b7 b8 ⊢;replace b5:=cellS g b5;replace b6:=cellS g b6
 have m:=(HS.out _ (Z.out.trans (g.mono a1))).2
 clear L N
 by_cases ht:e1=0
 rotate_left
 ·have a3:(e1 == 0)=false:=by simp [ht]
  go_wp2
  go_ret
  exact Says.no (fun h=>ht (by rw [p.out]; exact h.1)) m
 have a3:(e1 == 0)=true:=by simp [ht]
 by_cases hu:e2=0
 rotate_left
 ·have a2:(e2 == 0)=false:=by simp [hu]
  go_wp2
  go_ret
  exact Says.no (fun h=>hu (by rw [o.out]; exact h.2.1)) m
 have a2:(e2 == 0)=true:=by simp [hu]
 obtain ⟨rfl,rfl,y,hy,ho⟩:=X.out (by rw [<-p.out]; exact ht)
 obtain ⟨rfl,rfl,z,hz,P⟩:=V.out (by rw [<-o.out]; exact hu)
 have hP:=Trel.proper_of (T:=T) (by rw [<-p.out]; exact ht)
 have hQ:=Trel.proper_of (T:=U) (by rw [<-o.out]; exact hu)
 have F:=hid ((ho.on g).reads hP hy).1
 have E:=hid ((P.on g).reads hQ hz).1
 have j:=hid (IsoT.iff (by rw [<-p.out]; exact ht) (by rw [<-o.out]; exact hu) hy hz)
 have a4:T.nw<=140737488351232:=by have:=hP.shape.nw; have:=hP.shape.n64; omega
 clear hy hz ho P g Z X V
 go_wp2_with fail
 refine (zeW A1 A2 T.nw U.nw c1 c2 T.W U.W w5 F.out.1 E.out.1 a4).mono ?_
 rintro e w6 ⟨r,rfl,hr,b⟩
 have HR:=hid hr
 have v:=onS m b
 replace b5:=cellS b b5;replace b6:=cellS b b6;replace b7:=cellS b b7;replace b8:=cellS b b8
 have a7:=hid (F.out.on b)
 have a6:=hid (E.out.on b)
 clear hr b m F E
 cases r
 ·go_wp2
  go_ret
  exact Says.no (fun h=>absurd (HR.out.2 (j.out.1 h).1) (by decide)) v
 go_wp2_with fail
 refine (zeX (T.re y) (U.re z) A1 B1 A2 B2 d1 d2 w6 a7.out a6.out).mono ?_
 rintro e w7 ⟨s,rfl,hs,Q⟩
 have S:=hid hs
 have R:=onS v Q
 clear hs Q v b5 b6 b7 b8
 cases s
 ·go_wp2
  go_ret
  exact Says.no (fun h=>absurd (S.out.2 (j.out.1 h).2) (by decide)) R
 go_wp2
 go_ret
 exact Says.yes (j.out.2 ⟨HR.out.1 (by first | rfl | trivial),S.out.1 (by first | rfl | trivial)⟩) R
theorem zjk {q n N r:Nat} {add mul:Nat->Nat->Nat} {neg:Nat->Nat} {pv:Nat->Nat} {R V H:Nat->Nat->Nat} {T:Trel} {y:Nat->Nat->Int × Int × Int} (hL:FieldLaws q add mul) (hneg:∀ x,x<q->neg x<q/\add x (neg x)=0)
  (hV:RrefN q n N V) (hp:NullRel q add mul neg n N V r H) (hsp:SameSp q add mul N n n V R) (h:SpanF q n N pv R) (hdis:∀ i j,i<j->j<n->lE (R i) N≠lE (R j) N)
  (hM:MinT q add mul n N pv R T) (hP:T.Proper) (hy:IsRen T y) {i:Nat} (hi:i<=N) {u v:Nat} (hu:u<((T.re y).W i).toNat) (hv:v<((T.re y).W i).toNat) (he:∀ k,k<r->(T.re y).syn add mul H i u k=(T.re y).syn add mul H i v k):u=v:=by
 have hn:=hM.nN
 subst hn
 obtain ⟨C,hC,hW⟩:=MinT.coefs hL hsp
 have hT:=hM.cov hL h hsp hC hW
 have hR:=hy.cov hP hT
 have hs:∀ i,i<=(T.re y).n->∀ t t',t<q ^ n->t'<q ^ n->T.nm i (packB q (actA pv R T.n i) (C t) n)=T.nm i (packB q (actA pv R T.n i) (C t') n)->∀ k,k<r->dotN add mul (spE add mul V (msgD q n t) n) (H k) i=dotN add mul (spE add mul V (msgD q n t') n) (H k) i:=fun i hi t t' ht a e k hk=>by
  have hi:i<=T.n:=hi
  have h1:=hT.lt i hi t ht
  have h2:=hT.lt i hi t' a
  exact (MinT.ker hL hneg hV hp hsp h hdis hC hW hi t t').2 (hP.nm_inj hi _ _ (by omega) (by omega) e) k hk
 obtain ⟨t,ht,rfl⟩:=hR.onto i hi u (by omega)
 obtain ⟨t',a,rfl⟩:=hR.onto i hi v (by omega)
 have b:=Cov.syn (H:=H) (add:=add) (mul:=mul) hR hs i hi
 rw [(MinT.ker hL hneg hV hp hsp h hdis hC hW hi t t').1 fun k hk=>by rw [<-b t ht k hk,<-b t' a k hk]; exact he k hk]
section
variable {P M n N r:Nat} {m:Nat->Nat} {pv:Nat->Nat} {R V H:Nat->Nat->Nat} {T:Trel} {y:Nat->Nat->Int × Int × Int} {St Tr:Nat->List (List Int)}
theorem zf5 (hL:FieldLaws (P ^ M) (addF P M) (mulF P M m)) (hneg:∀ x,x<P ^ M->negF P M x<P ^ M/\addF P M x (negF P M x)=0)
  (hV:RrefN (P ^ M) n N V) (hp:NullRel (P ^ M) (addF P M) (mulF P M m) (negF P M) n N V r H) (hsp:SameSp (P ^ M) (addF P M) (mulF P M m) N n n V R) (h:SpanF (P ^ M) n N pv R) (hdis:∀ i j,i<j->j<n->lE (R i) N≠lE (R j) N)
  (hM:MinT (P ^ M) (addF P M) (mulF P M m) n N pv R T) (hP:T.Proper) (hy:IsRen T y)
  (hrel:FsRel r ((P ^ M) ^ n) (fun t i=>keyS r (syP P M m (spE (addF P M) (mulF P M m) V (msgD (P ^ M) n t) n) H i)) (fun t=>spE (addF P M) (mulF P M m) V (msgD (P ^ M) n t) n) N St Tr) :
  ∃ a:Nat->Nat->Nat,Cov (T.re y) ((P ^ M) ^ n) (fun t=>spE (addF P M) (mulF P M m) V (msgD (P ^ M) n t) n) a /\
   (∀ i,i<=N->∀ t t',t<(P ^ M) ^ n->t'<(P ^ M) ^ n->(posOf r (St i) (keyS r (syP P M m (spE (addF P M) (mulF P M m) V (msgD (P ^ M) n t) n) H i))=posOf r (St i) (keyS r (syP P M m (spE (addF P M) (mulF P M m) V (msgD (P ^ M) n t') n) H i))↔a t i=a t' i)) /\
   ∀ i,i<=N->∀ t,t<(P ^ M) ^ n->keyS r ((T.re y).syn (addF P M) (mulF P M m) H i (a t i))=keyS r (syP P M m (spE (addF P M) (mulF P M m) V (msgD (P ^ M) n t) n) H i):=by
 have hn:=hM.nN
 subst hn
 obtain ⟨C,hC,hW⟩:=MinT.coefs hL hsp
 have c:=fun {i:Nat} (hi:i<=T.n) t t'=>MinT.ker hL hneg hV hp hsp h hdis hC hW hi t t'
 have hT:=hM.cov hL h hsp hC hW
 have hR:=hy.cov hP hT
 have d:∀ i,i<=T.n->∀ t t',t<(P ^ M) ^ n->t'<(P ^ M) ^ n->(T.nm i (packB (P ^ M) (actA pv R T.n i) (C t) n)=T.nm i (packB (P ^ M) (actA pv R T.n i) (C t') n)↔packB (P ^ M) (actA pv R T.n i) (C t) n=packB (P ^ M) (actA pv R T.n i) (C t') n):=fun i hi t t' ht ht'=>by
  have h1:=hT.lt i hi t ht
  have h2:=hT.lt i hi t' ht'
  exact ⟨fun e=>hP.nm_inj hi _ _ (by omega) (by omega) e,fun e=>by rw [e]⟩
 have b:∀ t i k,syP P M m (spE (addF P M) (mulF P M m) V (msgD (P ^ M) n t) n) H i k=dotN (addF P M) (mulF P M m) (spE (addF P M) (mulF P M m) V (msgD (P ^ M) n t) n) (H k) i:=fun t i k=>zeV hL (fun j=>za0 hL _ _ _) i
 refine ⟨_,hR,fun i hi t t' ht ht'=>?_,fun i hi t ht=>zbk fun k hk=>?_⟩
 rotate_left
 ·rw [b]
  exact Cov.syn (H:=H) (add:=addF P M) (mul:=mulF P M m) hR (fun i hi t t' ht ht' e=>(c hi t t').2 ((d i hi t t' ht ht').1 e)) i hi t ht k hk
 rw [d i hi t t' ht ht',<-c hi]
 constructor
 ·intro e k hk
  have e2:=(hrel.st i hi).posOf_inj (x:=keyS r (syP P M m (spE (addF P M) (mulF P M m) V (msgD (P ^ M) n t) n) H i)) (y:=keyS r (syP P M m (spE (addF P M) (mulF P M m) V (msgD (P ^ M) n t') n) H i)) ⟨t,ht,rfl⟩ ⟨t',ht',rfl⟩ e
  have e3:=zdk e2 hk
  rw [b,b] at e3
  exact e3
 intro e
 have e2:keyS r (syP P M m (spE (addF P M) (mulF P M m) V (msgD (P ^ M) n t) n) H i)=keyS r (syP P M m (spE (addF P M) (mulF P M m) V (msgD (P ^ M) n t') n) H i):=zbk fun k hk=>by
  rw [b,b]
  exact e k hk
 rw [e2]
theorem zld {z:Nat->Nat->Int × Int × Int} (hL:FieldLaws (P ^ M) (addF P M) (mulF P M m)) (hneg:∀ x,x<P ^ M->negF P M x<P ^ M/\addF P M x (negF P M x)=0)
  (hV:RrefN (P ^ M) n N V) (hp:NullRel (P ^ M) (addF P M) (mulF P M m) (negF P M) n N V r H) (hsp:SameSp (P ^ M) (addF P M) (mulF P M m) N n n V R) (h:SpanF (P ^ M) n N pv R) (hdis:∀ i j,i<j->j<n->lE (R i) N≠lE (R j) N)
  (hM:MinT (P ^ M) (addF P M) (mulF P M m) n N pv R T) (hP:T.Proper) (hy:IsRen T y)
  (hrel:FsRel r ((P ^ M) ^ n) (fun t i=>keyS r (syP P M m (spE (addF P M) (mulF P M m) V (msgD (P ^ M) n t) n) H i)) (fun t=>spE (addF P M) (mulF P M m) V (msgD (P ^ M) n t) n) N St Tr)
  (hz:IsF (T.re y) (synN (P ^ M) r (T.re y) ((T.re y).syn (addF P M) (mulF P M m) H)) z) :
  Cov ((T.re y).re z) ((P ^ M) ^ n) (fun t=>spE (addF P M) (mulF P M m) V (msgD (P ^ M) n t) n) (fun t i=>posOf r (St i) (keyS r (syP P M m (spE (addF P M) (mulF P M m) V (msgD (P ^ M) n t) n) H i)))/\((T.re y).re z).Proper/\SameT ((T.re y).re z) (fsT N St Tr):=by
 have hn:=hM.nN
 obtain ⟨_,hw,he,_⟩:=zlb hL hneg hV hp hsp h hdis hM hP hrel
 have f:=fun {i u v:Nat}=>zjk (i:=i) (u:=u) (v:=v) hL hneg hV hp hsp h hdis hM hP hy
 obtain ⟨a,hR,p,b⟩:=zf5 hL hneg hV hp hsp h hdis hM hP hy hrel
 subst hn
 have g:∀ t i k,syP P M m (spE (addF P M) (mulF P M m) V (msgD (P ^ M) n t) n) H i k=dotN (addF P M) (mulF P M m) (spE (addF P M) (mulF P M m) V (msgD (P ^ M) n t) n) (H k) i:=fun t i k=>zeV hL (fun j=>za0 hL _ _ _) i
 have hU:=zjj hrel fun i hi t t' _ _ e1 e2=>zbk fun k hk=>by
  have e3:=zdk e1 hk
  rw [g,g] at e3 ⊢
  show addF P M (dotN _ _ _ (H k) i) (mulF P M m (spE _ _ V (msgD (P ^ M) n t) n i) (H k i))=addF P M (dotN _ _ _ (H k) i) (mulF P M m (spE _ _ V (msgD (P ^ M) n t') n i) (H k i))
  rw [e3,e2]
 have hb:∀ i,i<=T.n->∀ t,t<(P ^ M) ^ n->synN (P ^ M) r (T.re y) ((T.re y).syn (addF P M) (mulF P M m) H) i (a t i)=posOf r (St i) (keyS r (syP P M m (spE (addF P M) (mulF P M m) V (msgD (P ^ M) n t) n) H i)):=fun i hi t ht=>by
  have hv:=hR.lt i hi t ht
  have d:SetL r (St i) (fun l=>∃ v,v<((T.re y).W i).toNat/\l=keyS r ((T.re y).syn (addF P M) (mulF P M m) H i v)):=(hrel.st i hi).congr fun l=>by
   constructor
   ·rintro ⟨s,c,rfl⟩
    exact ⟨_,by have:=hR.lt i hi s c; omega,(b i hi s c).symm⟩
   rintro ⟨v,A,rfl⟩
   obtain ⟨s,c,e⟩:=hR.onto i hi v (by omega)
   refine ⟨s,c,?_⟩
   rw [<-e]
   exact b i hi s c
  have h1:=zj6 (q:=P ^ M) (S:=fun v=>(T.re y).syn (addF P M) (mulF P M m) H i v) (fun v k=>Trel.syn_lt hL i v k) d (fun u v hu hv he=>f hi hu hv he) (u:=a t i) (by omega)
  have h2:=b i hi t ht
  rw [h2] at h1
  exact h1.symm
 have hZ:=IsF.cov hR hz hb (fun i hi t ht=>by have:=hU.lt i hi t ht; rw [hw i hi] at this; exact this) (fun i hi v hv=>hU.onto i hi v (by rw [hw i hi]; exact hv))
 have o:=hy.proper hP
 obtain ⟨_,_,w⟩:=Cov.proper (U:=(T.re y).re z) o hR hZ rfl p rfl (fun i hi=>by have:=(o.shape.wid (i:=i) hi).1; show 0<=(T.re y).W i; omega)
 exact ⟨hZ,w,hZ.same hU rfl (by show T.n+1=T.nw; rw [hP.shape.nw]) hP.shape.nw (fun i hi=>hw i hi) (fun i hi=>he i hi)⟩
theorem zle {Z:Trel} (hL:FieldLaws (P ^ M) (addF P M) (mulF P M m)) (hneg:∀ x,x<P ^ M->negF P M x<P ^ M/\addF P M x (negF P M x)=0)
  (hV:RrefN (P ^ M) n N V) (hp:NullRel (P ^ M) (addF P M) (mulF P M m) (negF P M) n N V r H) (hsp:SameSp (P ^ M) (addF P M) (mulF P M m) N n n V R) (h:SpanF (P ^ M) n N pv R) (hdis:∀ i j,i<j->j<n->lE (R i) N≠lE (R j) N)
  (hM:MinT (P ^ M) (addF P M) (mulF P M m) n N pv R T) (hP:T.Proper) (hy:IsRen T y)
  (hrel:FsRel r ((P ^ M) ^ n) (fun t i=>keyS r (syP P M m (spE (addF P M) (mulF P M m) V (msgD (P ^ M) n t) n) H i)) (fun t=>spE (addF P M) (mulF P M m) V (msgD (P ^ M) n t) n) N St Tr)
  (hZ:Cov Z ((P ^ M) ^ n) (fun t=>spE (addF P M) (mulF P M m) V (msgD (P ^ M) n t) n) (fun t i=>posOf r (St i) (keyS r (syP P M m (spE (addF P M) (mulF P M m) V (msgD (P ^ M) n t) n) H i)))) (hPZ:Z.Proper) (hZn:Z.n=N):IsoT Z (T.re y):=by
 have hn:=hM.nN
 obtain ⟨a,hR,e,_⟩:=zf5 hL hneg hV hp hsp h hdis hM hP hy hrel
 subst hn
 have b:=hy.proper hP
 have d:Z.nw=(T.re y).nw:=by rw [hPZ.shape.nw,b.shape.nw,hZn]; rfl
 obtain ⟨c,f,_⟩:=Cov.proper (U:=Z) b hR hZ hZn e d (fun i hi=>by
  have hi:i<=T.n:=hi
  have:=(hPZ.shape.wid (i:=i) (by omega)).1
  omega)
 have r1:IsRen Z fun i p=>Z.tri i ((Z.vis i).getD p 0):=fun i hi=>hPZ.vis_ren hi
 have r2:=Cov.ren b hPZ hR hZ hZn e c f r1
 exact ⟨hPZ.E0,b.E0,_,_,r1,r2,zj5 (T:=Z) (U:=T.re y) hZn.symm d.symm hPZ.shape.nw (fun i hi=>(c i (by show i<=T.n; omega)).symm) (fun i hi=>(f i (by show i<T.n; omega)).symm) r1 r1⟩
end
theorem zlf (a b:Int) (w:World):Calls Tryz.prog 157 #[.int .i64 a,.int .i64 b] w fun e w'=>e=.returned (.int .i64 (cmpI a b))/\w'=w :=
 (show Calls Tryz.prog 157 _ _ _ from AnyG.cmp_Compare_int Tryz.cmpInt a b w).mono fun _ _ ⟨he,hw⟩=>⟨by rw [he,zjf],hw⟩
noncomputable def cmpL (n:Nat) (f g:Nat->Int):Int:=by
 classical exact if LexLt f g n then -1 else if LexLt g f n then 1 else 0
theorem zj7 {n:Nat} {f g:Nat->Int}:cmpL n f g<0↔LexLt f g n:=by
 unfold cmpL
 constructor
 ·intro h
  by_cases h1:LexLt f g n
  ·exact h1
  rw [if_neg h1] at h
  by_cases h2:LexLt g f n
  ·rw [if_pos h2] at h; omega
  ·rw [if_neg h2] at h; omega
 intro h
 rw [if_pos h]
 omega
theorem ziU {n:Nat} {f g:Nat->Int} (h:LexLt f g n) (h':LexLt g f n):False:=by
 obtain ⟨i,hi,h1,h2⟩:=h
 obtain ⟨j,hj,h3,h4⟩:=h'
 rcases Nat.lt_trichotomy i j with e | e | e
 ·have:=h3 i e; omega
 ·subst e; omega
 ·have:=h1 j e; omega
theorem zkS {n k:Nat} {f g:Nat->Int} (hk:k<n) (he:∀ i,i<k->f i=g i) (h:f k<g k):cmpL n f g = -1:=by
 unfold cmpL
 exact if_pos ⟨k,hk,he,h⟩
theorem zkT {n k:Nat} {f g:Nat->Int} (hk:k<n) (he:∀ i,i<k->f i=g i) (h:g k<f k):cmpL n f g=1:=by
 unfold cmpL
 have h1:LexLt g f n:=⟨k,hk,fun i hi=>(he i hi).symm,h⟩
 rw [if_neg fun h2=>ziU h1 h2,if_pos h1]
theorem zkU {n:Nat} {f g:Nat->Int} (he:∀ i,i<n->f i=g i):cmpL n f g=0:=by
 unfold cmpL
 rw [if_neg,if_neg]
 ·rintro ⟨i,hi,_,h⟩
  have:=he i hi
  omega
 rintro ⟨i,hi,_,h⟩
 have:=he i hi
 omega
theorem ziV (A B:Option Addr) (n c d:Nat) (f g:Nat->Int) (w:World) (ha:IntsR w w.heap.size A n f) (hb:IntsR w w.heap.size B n g) (hn:n<=140737488351232) :
  Calls Tryz.prog 83 #[.slice A n c,.slice B n d] w fun e w'=>e=.returned (.int .i64 (cmpL n f g))/\w'=w:=by
 have HA:=hid ha
 have HB:=hid hb
 clear ha hb
 go_enter Tryz.func83, Tryz.ntmps83
 go_wp2
 go_loopg [11] n (fun gg iv wx=>∃ k:Nat,iv=.int .i64 (k:Nat)/\k<=n/\n<=k+gg/\(∀ i,i<k->f i=g i)/\wx=w)
 case atStart=>exact ⟨0,rfl,by omega,by omega,fun i hi=>absurd hi (by omega),rfl⟩
 obtain ⟨k,rfl,hk,o,j,rfl⟩:=hrel
 have p:(0:Int)<=(k:Int):=by omega
 have b:=hid j
 clear j
 by_cases hlt:k<n
 rotate_left
 ·have h:¬ (k:Int)<(n:Int):=by omega
  have m:¬ (n:Int)<(n:Int):=by omega
  obtain rfl:k=n:=by omega
  have a:cmpL k f g=0:=zkU b.out
  go_wp2
  go_ret
  exact ⟨rfl,rfl⟩
 have h:(k:Int)<(n:Int):=by omega
 have q:¬ (k:Int) ≥ (n:Int):=by omega
 obtain ⟨ab,ao,rfl,s,x0⟩:=HA.out.at hlt
 obtain ⟨bb,bo,rfl,r,y0⟩:=HB.out.at hlt
 obtain ⟨x,hx⟩:=exx (f k)
 obtain ⟨y,hy⟩:=exx (g k)
 rw [<-hx] at x0;rw [<-hy] at y0
 have HX:=hid hx
 have HY:=hid hy
 clear hx hy
 go_wp2_with fail
 refine (zlf x y _).mono ?_
 rintro e w1 ⟨rfl,rfl⟩
 by_cases h1:x<y
 ·have hc:cmpI x y = -1:=if_pos h1
  have a:cmpL n f g = -1:=zkS hlt b.out (by rw [<-HX.out,<-HY.out]; exact h1)
  rw [hc]
  have l:((-1:Int) != 0)=true:=by simp
  go_wp2
  go_ret
  exact ⟨by rw [a]; rfl,rfl⟩
 by_cases h2:y<x
 ·have hc:cmpI x y=1:=by unfold cmpI; rw [if_neg h1,if_pos h2]
  have a:cmpL n f g=1:=zkT hlt b.out (by rw [<-HX.out,<-HY.out]; exact h2)
  rw [hc]
  have l:((1:Int) != 0)=true:=by simp
  go_wp2
  go_ret
  exact ⟨by rw [a]; rfl,rfl⟩
 have hc:cmpI x y=0:=by unfold cmpI; rw [if_neg h1,if_neg h2]
 rw [hc]
 have l:((0:Int) != 0)=false:=by simp
 go_wp2
 go_roundg (gk - 1)
 case measure=>omega
 refine ⟨k+1,by go_num,by omega,by omega,fun i hi=>?_,rfl⟩
 by_cases e:i=k
 ·subst e; rw [<-HX.out,<-HY.out]; omega
 ·exact b.out i (by omega)
theorem zhW (bx:Nat) (A:Option Addr) (m c r:Nat) (L:Nat->Nat->Int) (W:World) (p:W.cell? ⟨bx,0,none⟩=some (.slice A m c)) (hx:IntRows W A m (fun _=>r) L) (hr:r<=1048576) (u v:Nat) (hu:u<m) (hv:v<m) :
  Calls Tryz.prog 82 #[.int .i64 (u:Nat),.int .i64 (v:Nat),.pointer (some ⟨bx,0,none⟩)] W fun e w'=>e=.returned (.int .i64 (cmpL r (L u) (L v)))/\GG W w':=by
 obtain ⟨b,o,RA,ra,hA,hb,x0,_,_,g,_⟩:=hx u hu
 obtain ⟨b2,o2,RB,rb,a,k,y0,_,_,d,_⟩:=hx v hv
 subst hA
 injection a with a
 injection a with e1 e2
 subst e1 e2
 have j:(u:Int)<(m:Int):=by omega
 have i:(v:Int)<(m:Int):=by omega
 have HU:=hid g
 have HV:=hid d
 clear g d hx
 go_enter Tryz.func82, Tryz.ntmps82
 go_upto_region 1 with fail
 have kd:Below W.heap.size W (World.drew W):=(Below.refl _ _).drew
 have hg:GG W (World.drew W):=(GG.refl W).drew
 refine wp_region_held_drew (S:=fun X=>X.cell? ⟨bx,0,none⟩=some (.slice (some ⟨b,o,none⟩) m c)/\X.cell? ⟨b,o+u,none⟩=some (.slice RA r ra)/\X.cell? ⟨b,o+v,none⟩=some (.slice RB r rb)) (by kernel_rfl) ⟨cellS kd p,cellS kd x0,cellS kd y0⟩ (fun hHeld=>?_)
 obtain ⟨w1,hw⟩:=exx (World.drew W)
 rw [<-hw] at hHeld kd hg ⊢;clear hw;replace p:=cellS kd p;replace x0:=cellS kd x0;replace y0:=cellS kd y0
 refine tkq 0 (h:=tkq 1 (h:=tkq 2 (h:=tkq 3 (h:=tkq 4 (h:=tkq 5 (h:=tkq 6 (h:=tkq 7 (h:=?_))))))))
 clear hHeld
 refine rdq 8 (h:=fun K hK=>?_)
 go_simp
 go_wp2_with fail
 refine (ziV RA RB r ra rb (L u) (L v) w1 (HU.out.on kd) (HV.out.on kd) (by omega)).mono ?_
 rintro e w2 ⟨rfl,rfl⟩
 refine bkq hK ⟨p,x0,y0⟩ (h:=fun hHeld=>?_)
 clear hK K
 refine tkq 9 (h:=?_)
 clear hHeld
 refine wpAnyH_done (by kernel_rfl) ?_ _
 go_wp2_with fail
 go_ret
 exact ⟨rfl,hg⟩
theorem zj8 {P M:Int} {A:Option Addr} {k:Nat} {f:Nat->Int} {N:Int} {TC:Option Addr} {n:Nat} {ln:Nat->Nat} {V:Nat->Nat->Int} {w0 w w' w2 w3:World} {e e2:Ending} (hr:IntsR w0 w0.heap.size A k f) (h:IntRows w0 TC n ln V)
  (h1:MinPost P M k f N n ln V w e w') (h2:Size47Post P M k f N n ln V w2 e2 w3):∃ x v:Int,e2=.returned (.tuple #[.int .i64 x,.int .i64 v]) /\
  ((v≠0/\e=.returned (.tuple #[.agg #[.slice none 0 0,.slice none 0 0],.int .i64 v]))∨(v=0/\FirstErr (CodeErrs P M k f N n ln V) 0/\∃ P' M' N':Nat,P=P'/\M=M'/\N=N'/\∃ pv R,SpanF (P' ^ M') n N' pv R/\SameSp (P' ^ M') (addF P' M') (mulF P' M' fun i=>(f i).toNat) N' n n (natT V) R/\(∀ i j,i<j->j<n->lE (R i) N'≠lE (R j) N')/\SizeIn (P' ^ M') n N' pv R /\
   ∃ T y A B c d,MinT (P' ^ M') (addF P' M') (mulF P' M' fun i=>(f i).toNat) n N' pv R T/\T.Proper/\IsRen T y/\RenOut T y w' A B c d/\e=.returned (.tuple #[.agg #[.slice A T.nw c,.slice B T.n d],.int .i64 0]))):=by
 obtain ⟨_,u,hu,h1⟩:=h1
 obtain ⟨_,u2,m,h2⟩:=h2
 obtain rfl:u=u2:=FirstErr.unique hu m
 rcases h1 with ⟨h0,rfl⟩ | ⟨rfl,P',M',N',rfl,rfl,rfl,pv,R,g,b,l,h1⟩
 ·rcases h2 with ⟨_,rfl⟩ | ⟨h3,_⟩
  ·exact ⟨_,_,rfl,.inl ⟨h0,rfl⟩⟩
  ·exact absurd h3 h0
 rcases h2 with ⟨h3,_⟩ | ⟨_,P2,M2,N2,e1,e2,e3,pr,se,hp,hs,h2⟩
 ·exact absurd rfl h3
 obtain ⟨P3,M3,N3,g1,g2,g3,hC⟩:=zbB hr h hu
 obtain rfl:P'=P2:=by omega
 obtain rfl:M'=M2:=by omega
 obtain rfl:N'=N2:=by omega
 obtain rfl:P'=P3:=by omega
 obtain rfl:M'=M3:=by omega
 obtain rfl:N'=N3:=by omega
 have a:=zfu (fieldLaws hC.fld) g hC.rref.choose_spec.lt b l hp hs
 rcases h1 with ⟨h5,rfl⟩ | ⟨h5,h6⟩
 ·rcases h2 with ⟨h7,_⟩ | ⟨_,rfl⟩
  ·exact absurd (a.1 h7) h5
  ·exact ⟨_,_,rfl,.inl ⟨by omega,rfl⟩⟩
 rcases h2 with ⟨_,rfl⟩ | ⟨h7,_⟩
 ·exact ⟨_,_,rfl,.inr ⟨rfl,hu,P',M',N',rfl,rfl,rfl,pv,R,g,b,l,h5,h6⟩⟩
 ·exact absurd (a.2 h5) h7
theorem zlg {P M:Int} {k:Nat} {f:Nat->Int} {N:Int} {n:Nat} {ln:Nat->Nat} {V:Nat->Nat->Int} {w w':World} {GA HA:Option Addr} {gn gc hn hc:Nat} (h1:MinPost P M k f N n ln V w (.returned (.tuple #[.agg #[.slice GA gn gc,.slice HA hn hc],.int .i64 0])) w') :
  FirstErr (CodeErrs P M k f N n ln V) 0/\∃ P' M' N':Nat,P=P'/\M=M'/\N=N'/\∃ pv R,SpanF (P' ^ M') n N' pv R/\SameSp (P' ^ M') (addF P' M') (mulF P' M' fun i=>(f i).toNat) N' n n (natT V) R/\(∀ i j,i<j->j<n->lE (R i) N'≠lE (R j) N')/\SizeIn (P' ^ M') n N' pv R /\
   ∃ T y,MinT (P' ^ M') (addF P' M') (mulF P' M' fun i=>(f i).toNat) n N' pv R T/\T.Proper/\IsRen T y/\RenOut T y w' GA HA gc hc/\gn=T.nw/\hn=T.n:=by
 obtain ⟨_,u,hu,h1⟩:=h1
 rcases h1 with ⟨h0,he⟩ | ⟨rfl,P',M',N',rfl,rfl,rfl,pv,R,e,b,g,⟨_,he⟩ | ⟨h5,T,y,A,B,c,d,h6,h7,h8,h9,he⟩⟩
 ·have:(0:Int)=u:=by simp at he; exact he.2
  exact absurd this.symm h0
 ·simp at he
 have a:((GA=A/\gn=T.nw/\gc=c)/\HA=B/\hn=T.n/\hc=d):=by simpa using he
 obtain ⟨⟨rfl,rfl,rfl⟩,rfl,rfl,rfl⟩:=a
 exact ⟨hu,P',M',N',rfl,rfl,rfl,pv,R,e,b,g,h5,T,y,h6,h7,h8,h9,rfl,rfl⟩
end Go.Proofs.YtgekjfpapmlndaaGreat