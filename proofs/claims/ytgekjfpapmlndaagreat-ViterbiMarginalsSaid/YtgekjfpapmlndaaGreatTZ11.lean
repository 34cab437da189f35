/- Merged texts of a claim: Order, VisMem, RenameMem, RenumMem, Section. -/
import Derived.Test.YtgekjfpapmlndaaGreatTZ10
namespace Go.Proofs.YtgekjfpapmlndaaGreat
set_option maxRecDepth 100000
set_option maxHeartbeats 32000000
open KA KB KC KD KE KF
open Go.RowKit
theorem zeE {l:List Nat} (h:l.Nodup) {i j:Nat} (hi:i<l.length) (hj:j<l.length) (e:l[i]=l[j]):i=j:=by
 have h1:=List.pairwise_iff_getElem.1 h
 rcases Nat.lt_trichotomy i j with h2 | h2 | h2
 ·exact absurd e (h1 i j hi hj h2)
 ·exact h2
 ·exact absurd e.symm (h1 j i hj hi h2)
def posIn (l:List Nat):Nat->Nat->Nat
 | 0,_=>0
 | k+1,u=>if l.getD k 0=u then k else posIn l k u
theorem zhL {l:List Nat} (hn:l.Nodup) {p:Nat}:∀ {k:Nat},p<k->k<=l.length->posIn l k (l.getD p 0)=p:=by
 intro k
 induction k with
 | zero=>intro h; omega
 | succ k ih =>
  intro hp hk
  unfold posIn
  by_cases e:l.getD k 0=l.getD p 0
  ·rw [if_pos e]
   rw [List.getD_eq_getElem?_getD,List.getD_eq_getElem?_getD,List.getElem?_eq_getElem (by omega),List.getElem?_eq_getElem (by omega)] at e
   exact zeE hn (by omega) (by omega) e
  ·rw [if_neg e]
   exact ih (by
    by_cases h:p=k
    ·subst h; exact absurd rfl e
    ·omega) (by omega)
theorem zfU {key:Nat->Nat} {n:Nat} {l:List Nat} (hp:l.Perm (List.range n)) (hs:∀ p q,p<q->q<n->key (l.getD p 0)<=key (l.getD q 0)) (hk:∀ a b,a<n->b<n->key a=key b->a=b) {u:Nat} (hu:u<n):posIn l n u=rankOf key n u:=by
 have j:l.length=n:=by have:=hp.length_eq; simpa using this
 have f:l.Nodup:=hp.nodup_iff.2 List.nodup_range
 have c:u ∈ l:=hp.mem_iff.2 (List.mem_range.2 hu)
 obtain ⟨p,d,i⟩:=List.getElem_of_mem c
 have hg:∀ q (h:q<l.length),l.getD q 0=l[q]:=fun q h=>by rw [List.getD_eq_getElem?_getD,List.getElem?_eq_getElem h]; rfl
 have g:∀ q,q<n->l.getD q 0<n:=fun q hq=>by
  rw [hg q (by omega)]
  exact List.mem_range.1 (hp.mem_iff.1 (List.getElem_mem _))
 have e:l.getD p 0=u:=by rw [hg p d,i]
 have h1:=zcv (k:=key) hp (fun p q hpq hq=>by
  have h1:=hs p q hpq (by omega)
  rcases Nat.lt_or_ge (key (l.getD p 0)) (key (l.getD q 0)) with h2 | h2
  ·exact h2
  have h3:=hk _ _ (g p (by omega)) (g q (by omega)) (by omega)
  rw [hg p (by omega),hg q (by omega)] at h3
  exact absurd (zeE f (by omega) (by omega) h3) (by omega)) d
 rw [<-e,h1]
 exact zhL f (by omega) (by omega)
theorem zhM (n:Nat) (w:World) (hn:n<=1048576) :
  Calls Tryz.prog 132 #[.int .i64 0,.int .i64 (n:Nat)] w fun e w'=>Below w.heap.size w w'/\∃ v,e=.returned v/\Own w' w.heap.size 3 1 v n (fun i _=>.int .i64 (i:Nat)):=by
 have H0:Hid (Own w w.heap.size 3 1 (.slice none 0 0) 0 (fun i _=>.int .i64 (i:Nat))):=Own.nil _ _ _ _ _
 go_enter Tryz.func132, Tryz.ntmps132
 go_wp2
 obtain ⟨n1,b⟩:∃ x:Value,x=.slice none 0 0:=⟨_,rfl⟩
 rw [<-b] at H0 ⊢;clear b
 go_loopg [5,6] n (fun gg sv iv wx=>∃ k:Nat,iv=.int .i64 (k:Nat)/\k<=n/\n<=k+gg/\Hid (Own wx w.heap.size 3 1 sv k (fun i _=>.int .i64 (i:Nat)))/\Below w.heap.size w wx)
 case atStart=>exact ⟨0,rfl,by omega,by omega,H0,Below.refl _ _⟩
 clear H0
 obtain ⟨k,rfl,hk,p,HO,hB⟩:=hrel
 by_cases hlt:k<n
 rotate_left
 ·have a:¬ (k:Int)<(n:Int):=by omega
  obtain rfl:k=n:=by omega
  have HB:=hid hB
  clear hB
  go_wp2
  go_ret
  exact ⟨HB.out,_,rfl,HO.out⟩
 have a:(k:Int)<(n:Int):=by omega
 have HZ:=hid hB.size
 have kb:=aly wr (Obj.cells #[Value.int .i64 (k:Nat)] 3)
 have h:=hid (onS hB kb)
 have g:=hid (HO.out.on kb)
 have m:Hid ((wr.alloc (Obj.cells #[Value.int .i64 (k:Nat)] 3)).cell? ⟨wr.heap.size,0,none⟩=some (.int .i64 (k:Nat))):=by show _=_; simp
 have d:=hid h.out.size
 have l:Hid (k<=1048576):=by show _<=_; omega
 clear kb hB
 go_wp2_with (first | (at_builtin; (refine zbb rfl (.tmp 13) (.tmp 15) rfl (f:=fun i=>(i:Nat)) g.out rfl (ad:=⟨wr.heap.size,0,none⟩) (c:=1) rfl m.out d.out l.out ?_); intro v17 w17 o1 o2 o3))
 have j:=hid o1
 have o:=hid (h.out.grown o2 d.out fun q e=>(Own.lt g.out q e).1)
 clear o1 o2 o3
 go_wp2
 go_roundg (gk - 1)
 case measure=>omega
 case rel=>exact ⟨k+1,by go_num,by omega,by omega,j,o.out⟩
def eRow (x:Nat->Int × Int × Int) (k:Nat):Value:=edgeCell x (k / 3) (k % 3)
theorem zfV {w:World} {b n:Nat} {t:TypeId} {x:Nat->Int × Int × Int} (h:w.rowIs b t (n*3) (eRow x)) {u:Nat} (hu:u<n) :
  w.cell? ⟨b,u*3,none⟩=some (.int .i64 (x u).1)/\w.cell? ⟨b,u*3+1,none⟩=some (.int .i64 (x u).2.1)/\w.cell? ⟨b,u*3+2,none⟩=some (.int .i64 (x u).2.2):=by
 have h0:=h.cell (i:=u*3) (by omega)
 have h1:=h.cell (i:=u*3+1) (by omega)
 have h2:=h.cell (i:=u*3+2) (by omega)
 unfold eRow at h0 h1 h2
 rw [show u*3 / 3=u by omega,show u*3 % 3=0 by omega] at h0
 rw [show (u*3+1) / 3=u by omega,show (u*3+1) % 3=1 by omega] at h1
 rw [show (u*3+2) / 3=u by omega,show (u*3+2) % 3=2 by omega] at h2
 exact ⟨h0,h1,h2⟩
theorem zha (f l t f' l' t':Int) (W:World) :
  Calls Tryz.prog 151 #[.agg #[.int .i64 f,.int .i64 l,.int .i64 t],.agg #[.int .i64 f',.int .i64 l',.int .i64 t']] W fun e w'=>e=.returned (.int .i64 (lessV f l f' l'))/\∃ q os',w'=Go.Sort.grow (W.drewN q) os' :=
 (zg9 f l t f' l' t' W).mono fun _ _ ⟨he,_,hg⟩=>⟨he,hg⟩
theorem zee (bx lb n c:Nat) (x:Nat->Int × Int × Int) (W:World) (p:W.cell? ⟨bx,0,none⟩=some (.slice (some ⟨lb,0,none⟩) n c)) (hx:W.rowIs lb 90 (n*3) (eRow x)) (u v:Nat) (hu:u<n) (hv:v<n) :
  Calls Tryz.prog 152 #[.int .i64 (u:Nat),.int .i64 (v:Nat),.pointer (some ⟨bx,0,none⟩)] W fun e w'=>e=.returned (.int .i64 (lessV (x u).1 (x u).2.1 (x v).1 (x v).2.1))/\GG W w':=by
 have a:=World.block_lt_of_cell? W _ p
 obtain ⟨u0,u1,u2⟩:=zfV hx hu
 obtain ⟨v0,v1,v2⟩:=zfV hx hv
 have q:=fun k os=>_root_.Go.cell_grown a p k os
 have a0:=fun k os=>_root_.Go.cell_grown (World.block_lt_of_cell? W _ u0) u0 k os
 have a1:=fun k os=>_root_.Go.cell_grown (World.block_lt_of_cell? W _ u1) u1 k os
 have a2:=fun k os=>_root_.Go.cell_grown (World.block_lt_of_cell? W _ u2) u2 k os
 have b0:=fun k os=>_root_.Go.cell_grown (World.block_lt_of_cell? W _ v0) v0 k os
 have b1:=fun k os=>_root_.Go.cell_grown (World.block_lt_of_cell? W _ v1) v1 k os
 have b2:=fun k os=>_root_.Go.cell_grown (World.block_lt_of_cell? W _ v2) v2 k os
 have d:(u:Int)<(n:Int):=by omega
 have b:(v:Int)<(n:Int):=by omega
 have mixed:Tryz.prog.follows .mixedOrders=true:=by kernel_rfl
 have hc:=fun W=>zha (x u).1 (x u).2.1 (x u).2.2 (x v).1 (x v).2.1 (x v).2.2 W
 clear p hx u0 u1 u2 v0 v1 v2 a hu hv
 generalize (x u).1=f at *
 generalize (x u).2.1=l at *
 generalize (x u).2.2=t at *
 generalize (x v).1=f' at *
 generalize (x v).2.1=l' at *
 generalize (x v).2.2=t' at *
 generalize lessV f l f' l'=r at *
 go_enter Tryz.func152, Tryz.ntmps152
 go_upto_region 1 with fail
 go_quiet_grown (first | (go_at_call 151; refine Calls.grown_of (hc _)))
 go_wp2_with fail
 go_ret
 exact ⟨rfl,_,_,rfl⟩
def CmpB (bx n:Nat) (cf:Nat->Nat->Int) (w:World):Prop :=
 ∀ W,Below w.heap.size w W->∀ u v,u<n->v<n->Calls Tryz.prog 152 #[.int .i64 (u:Nat),.int .i64 (v:Nat),.pointer (some ⟨bx,0,none⟩)] W fun e w'=>e=.returned (.int .i64 (cf u v))/\GG W w'
def CmpG (fn:Nat) (cb:Array Value) (n:Nat) (cf:Nat->Nat->Int) (w:World):Prop :=
 ∀ W,Below w.heap.size w W->∀ u v,u<n->v<n->Calls Tryz.prog fn (#[.int .i64 (u:Nat),.int .i64 (v:Nat)] ++ cb) W fun e w'=>e=.returned (.int .i64 (cf u v))/\GG W w'
theorem ze6 (fn:Nat) (cb:Array Value) (n:Nat) (cf:Nat->Nat->Int) (key:Nat->Nat) (w:World) (eg:∀ args w,(callFunc fn args).run Tryz.prog w=.ok (.enter fn args) w) (hc:CmpG fn cb n cf w) (hlt:∀ u v,u<n->v<n->(cf u v<0↔key u<key v)) (hk:∀ a b,a<n->b<n->key a=key b->a=b) (hn:0<n) (hn2:n<=1048576) :
  Calls Tryz.prog 81 #[.int .i64 (n:Nat),.func (.func fn) #[] cb] w fun e w' =>
   ∃ go,e=.returned (.slice (some ⟨go,0,none⟩) n n)/\w'.rowIs go 3 n (fun u=>.int .i64 (rankOf key n u:Nat))/\w.heap.size<=go/\Below w.heap.size w w':=by
 have HC:=hid hc
 have S:=hid hlt
 have HK:=hid hk
 have T:=hid eg
 clear hc hlt hk eg
 go_enter Tryz.func81, Tryz.ntmps81
 go_wp2_with fail
 refine (zhM n w hn2).mono ?_
 rintro e w1 ⟨hB,v,rfl,hv⟩
 obtain ⟨lb,lo,lc,rfl,X,z,_⟩:=hv.form hn
 go_wp2_with fail
 refine (zed fn cb n cf key w1 w.heap.size _ T.out (fun W hg u v hu hv2=>HC.out W (hB.grown hg hB.size (fun k e=>(Own.lt hv k e).1)) u v hu hv2) S.out hv hn hn2).mono ?_
 rintro e w2 ⟨rfl,l,o,I,B,J⟩
 have C:Below w.heap.size w w2:=hB.grown J hB.size (fun k e=>(Own.lt hv k e).1)
 have y:l.length=n:=by have:=o.length_eq; simpa using this
 have d:∀ i,i<n->l.getD i 0<n:=fun i hi=>by
  rw [List.getD_eq_getElem?_getD,List.getElem?_eq_getElem (by omega)]
  exact List.mem_range.1 (o.mem_iff.1 (List.getElem_mem _))
 have HM:=hid d
 have R:Hid (∀ u,u<n->posIn l n u=rankOf key n u):=fun u hu=>zfU o I HK.out hu
 have HL:=hid B
 have g:=(B.lt lb rfl).2
 have a0:Hid (lb<w2.heap.size):=g
 have O:=hid C
 have D:=C.size
 have H:=fun W=>zaf (P:=Tryz.prog) 22 3 _ 8 Tryz.underlying22 Tryz.infoInt rfl (n:Int) (by omega) (by omega) (by omega) W
 simp only [Int.toNat_natCast] at H
 clear hv hB o I B J d y z
 go_upto_region 4 with fail
 have j:=World.rowIs_made w2 (.int .i64 0) n 3
 have r:=aly w2 (Obj.cells (madeCells #[Value.int .i64 0] n) 3)
 obtain ⟨w3,E⟩:=exx (w2.alloc (Obj.cells (madeCells #[Value.int .i64 0] n) 3))
 obtain ⟨go,q⟩:=exx w2.heap.size
 have N:=hid q
 rw [<-q] at j;rw [<-E] at j r ⊢;rw [<-q]
 have G:w3.rowIs go 3 n (fun u=>.int .i64 (posIn l 0 u:Nat)):=j
 clear E q H j C g
 go_wp2
 go_loopg [18] n (fun gg iv wx=>∃ k:Nat,iv=.int .i64 (k:Nat)/\k<=n/\n<=k+gg/\wx.rowIs go 3 n (fun u=>.int .i64 (posIn l k u:Nat))/\Below w2.heap.size w2 wx)
 case atStart=>exact ⟨0,rfl,by omega,by omega,G,r⟩
 clear G r
 obtain ⟨k,rfl,hk,Y,c,hB⟩:=hrel
 have Z:(0:Int)<=(k:Int):=by omega
 by_cases hlt:k<n
 rotate_left
 ·have x:¬ (k:Int)<(n:Int):=by omega
  obtain rfl:k=n:=by omega
  have HB:=hid hB
  have HR:=hid c
  clear hB c
  go_wp2
  go_ret
  refine ⟨go,rfl,HR.out.congr fun u hu=>?_,by rw [N.out]; exact D,O.out.trans (HB.out.mono D)⟩
  show Value.int .i64 (posIn l k u:Nat)=_
  rw [R.out u hu]
 have x:(k:Int)<(n:Int):=by omega
 obtain ⟨b5,o5,c5,h5,_,_,_,_,K⟩:=(HL.out.on hB).form hn
 injection h5 with h5 _ h7
 injection h5 with h5
 injection h5 with h5 h6
 subst h5 h6 h7
 have x0:=K k hlt 0 (by omega)
 rw [Nat.mul_one,Nat.add_zero] at x0
 have hm:=HM.out k hlt
 obtain ⟨m,s⟩:=exx (l.getD k 0)
 have M:=hid s
 rw [<-s] at x0 hm
 have V:(m:Int)<(n:Int):=by omega
 have z0:=c.frozen m
 have y0:=c.cell hm
 clear K s
 have F:=c.set m (.int .i64 (k:Nat))
 have L:=hB.setCell (p:=⟨go,m,none⟩) (by have:=N.out; show _<=go; omega) (.int .i64 (k:Nat))
 have Q:=hid F
 have U:=hid L
 clear F L c hB
 go_wp2
 go_roundg (gk - 1)
 case measure=>omega
 refine ⟨k+1,by go_num,by omega,by omega,Q.out.congr fun u _=>?_,U.out⟩
 show (if u=m then _ else _)=Value.int .i64 ((if l.getD k 0=u then k else posIn l k u:Nat):Int)
 by_cases e:u=m
 ·rw [if_pos e,if_pos (by rw [e,<-M.out])]
 ·rw [if_neg e,if_neg (by rw [<-M.out]; exact fun h=>e h.symm)]
theorem zfW (bx n:Nat) (cf:Nat->Nat->Int) (key:Nat->Nat) (w:World) (hc:CmpB bx n cf w) (hlt:∀ u v,u<n->v<n->(cf u v<0↔key u<key v)) (hk:∀ a b,a<n->b<n->key a=key b->a=b) (hn:0<n) (hn2:n<=1048576) :
  Calls Tryz.prog 81 #[.int .i64 (n:Nat),.func (.func 152) #[] #[.pointer (some ⟨bx,0,none⟩)]] w fun e w' =>
   ∃ go,e=.returned (.slice (some ⟨go,0,none⟩) n n)/\w'.rowIs go 3 n (fun u=>.int .i64 (rankOf key n u:Nat))/\w.heap.size<=go/\Below w.heap.size w w' :=
 ze6 152 #[.pointer (some ⟨bx,0,none⟩)] n cf key w (enters_of Tryz.func152 (by kernel_rfl) rfl) (fun W hW u v hu hv=>hc W hW u v hu hv) hlt hk hn hn2
def Trel.re (T:Trel) (y:Nat->Nat->Int × Int × Int):Trel:=⟨T.nw,T.W,T.n,T.el,fun i j=>(y i j).1,fun i j=>(y i j).2.1,fun i j=>(y i j).2.2⟩
theorem IsRen.in64 {T:Trel} (hP:T.Proper) {y:Nat->Nat->Int × Int × Int} (h:IsRen T y) {i:Nat} (hi:i<T.n) {j:Nat} (hj:j<T.el i):InI64 (y i j).1/\InI64 (y i j).2.1/\InI64 (y i j).2.2:=by
 have hm:y i j ∈ (List.range (T.el i)).map (y i):=List.mem_map.2 ⟨j,List.mem_range.2 hj,rfl⟩
 obtain ⟨q,hq,e⟩:=List.mem_map.1 ((h i hi).1.mem_iff.1 hm)
 rw [List.mem_range] at hq;rw [<-e]
 have h1:=hP.nm_lt (by omega) (hP.frL hi hq).1
 have h2:=hP.nm_lt (i:=i+1) (by omega) (hP.toL hi hq).1
 have h3:=(hP.shape.wid (i:=i) (by omega)).2
 have h4:=(hP.shape.wid (i:=i+1) (by omega)).2
 have h5:=hP.lbL hi hq
 refine ⟨⟨?_,?_⟩,⟨?_,?_⟩,⟨?_,?_⟩⟩
 ·show (-9223372036854775808:Int)<=(T.nm i (T.fr i q).toNat:Nat); omega
 ·show ((T.nm i (T.fr i q).toNat:Nat):Int)<=9223372036854775807; omega
 ·show (-9223372036854775808:Int)<=T.lb i q; omega
 ·show T.lb i q<=(9223372036854775807:Int); omega
 ·show (-9223372036854775808:Int)<=(T.nm (i+1) (T.to i q).toNat:Nat); omega
 ·show ((T.nm (i+1) (T.to i q).toNat:Nat):Int)<=9223372036854775807; omega
theorem IsRen.reads {T:Trel} (hP:T.Proper) {y:Nat->Nat->Int × Int × Int} (h:IsRen T y) {w:World} {base:Nat} {v wv:Value} (hE:ETab w base v T.n T.el y) (hA:Own w base 3 1 wv T.nw (fun k _=>.int .i64 (T.W k))) :
  ∃ A B c d,wv=.slice A T.nw c/\v=.slice B T.n d/\(T.re y).Reads w A B/\T.nw<=c/\c<=maxLen/\T.n<=d/\d<=maxLen:=by
 have a:=hP.shape.nw
 have hn:=hP.shape.n64
 refine ETab.reads (T:=T.re y) hE hA (fun i hi=>?_) (fun i hi j hj=>h.in64 hP hi hj) (by show T.nw<=_; omega) (by show T.n<=_; omega) (fun i hi=>by have:=hP.shape.elb hi; show T.el i<=_; omega)
 have b:i<T.nw:=hi
 have:=hP.shape.wid (i:=i) (by omega)
 refine ⟨?_,?_⟩
 ·show (-9223372036854775808:Int)<=T.W i; omega
 ·show T.W i<=(9223372036854775807:Int); omega
def RenOut (T:Trel) (y:Nat->Nat->Int × Int × Int) (w:World) (A B:Option Addr) (c d:Nat):Prop:=ETab w 0 (.slice B T.n d) T.n T.el y/\Own w 0 3 1 (.slice A T.nw c) T.nw (fun k _=>.int .i64 (T.W k))
theorem RenOut.setCell {T:Trel} {y:Nat->Nat->Int × Int × Int} {w:World} {A B:Option Addr} {c d:Nat} (h:RenOut T y w A B c d) {t:TypeId} {m:Nat} {F:Nat->Value} {b i:Nat} (hr:w.rowIs b t m F) (h1:t ≠ 86) (h2:t ≠ 90) (h3:t ≠ 3) (u:Value):RenOut T y (w.setCell ⟨b,i,none⟩ u) A B c d :=
 ⟨h.1.setCell hr h1 h2 u,h.2.setCell (zam hr h.2 h3) u⟩
theorem RenOut.reads {T:Trel} (hP:T.Proper) {y:Nat->Nat->Int × Int × Int} (hy:IsRen T y) {w:World} {A B:Option Addr} {c d:Nat} (h:RenOut T y w A B c d):(T.re y).Reads w A B/\T.nw<=c/\c<=maxLen/\T.n<=d/\d<=maxLen:=by
 obtain ⟨A',B',c',d',e1,e2,hR,k1,k2,k3,k4⟩:=hy.reads hP h.1 h.2
 injection e1 with e1 _ e1'
 subst e1 e1'
 injection e2 with e2 _ e2'
 subst e2 e2'
 exact ⟨hR,k1,k2,k3,k4⟩
theorem zdM {w:World} {b n base:Nat} {t:TypeId} {F:Nat->Value} (h:w.rowIs b t n F) (hb:base<=b) (hn:n<=maxLen):Own w base t 1 (.slice (some ⟨b,0,none⟩) n n) n (fun i _=>F i):=by
 obtain ⟨cs,h1,h2,h3⟩:=h
 refine .inr ⟨b,0,n,cs,rfl,hb,h1,Nat.le_refl _,hn,by omega,fun i hi j hj=>?_⟩
 obtain rfl:j=0:=by omega
 rw [Nat.zero_add,Nat.mul_one,Nat.add_zero]
 exact h3 i hi
theorem zaG {w:World} {b b' n n':Nat} {t t':TypeId} {F F':Nat->Value} (h:w.rowIs b t n F) (h':w.rowIs b' t' n' F') (hne:t≠t'):b≠b':=by
 intro e
 subst e
 obtain ⟨cs,h1,_⟩:=h
 obtain ⟨cs',a,_⟩:=h'
 rw [h1] at a
 injection a with a
 injection a with _ a
 exact hne a
section
variable {w w':World} {g base te e s m:Nat} {F:Nat->Value} {n n':Nat->Nat} {f f':Nat->Nat->Nat->Value}
theorem TabOwn.same (h:TabOwn w g base te e s m F n f) (hn:∀ v,v<m->n v=n' v) (hf:∀ v,v<m->∀ i,i<n v->∀ j,j<s->f v i j=f' v i j):TabOwn w g base te e s m F n' f' :=
 ⟨h.row,fun v hv=>by rw [<-hn v hv]; exact (h.own v hv).congr (hf v hv),h.apart⟩
theorem TabOwn.touch (h:TabOwn w g base te e s m F n f) (hgb:g<base) {v:Nat} (hv:v<m) {n1:Nat} {f1:Nat->Nat->Value} (hown:Own w' base e s (F v) n1 f1) (hg:w.grownBy w' (F v).ownBlock) :
  TabOwn w' g base te e s m F (fun u=>if u=v then n1 else n u) (fun u=>if u=v then f1 else f u):=by
 refine ⟨h.row.of_block (hg.block g h.row.lt (fun e=>by have:=((h.own v hv).lt _ e.symm).1; omega)),fun u hu=>?_,h.apart⟩
 by_cases e:u=v
 ·subst e
  simp only [if_true]
  exact hown
 ·simp only [if_neg e]
  exact (h.own u hu).kept hg (h.apart u v hu hv e)
theorem TabOwn.stays (h:TabOwn w g base te e s m F n f) (hb:Below w.heap.size w w'):TabOwn w' g base te e s m F n f:=⟨h.row.of_block (hb.block g h.row.lt),fun v hv=>(h.own v hv).on hb,h.apart⟩
end
theorem Trel.Proper.el_pos {T:Trel} (h:T.Proper) {i:Nat} (hi:i<T.n):0<T.el i:=by
 have h1:=(h.shape.wid (i:=i) (by omega)).1
 obtain ⟨j,hj,_⟩:=za7.1 ((h.sec i hi).2.1 0 (by omega))
 omega
def Trel.triF (T:Trel) (nf:Nat->Nat->Nat) (i j:Nat):Int × Int × Int:=((nf i (T.fr i j).toNat:Nat),T.lb i j,(nf (i+1) (T.to i j).toNat:Nat))
def SecF (T:Trel) (nf:Nat->Nat->Nat) (i:Nat) (y:Nat->Int × Int × Int):Prop :=
 ((List.range (T.el i)).map y).Perm ((List.range (T.el i)).map (T.triF nf i))/\∀ p q,p<q->q<T.el i->ltE (y p) (y q)
def IsF (T:Trel) (nf:Nat->Nat->Nat) (y:Nat->Nat->Int × Int × Int):Prop:=∀ i,i<T.n->SecF T nf i (y i)
theorem Trel.Proper.triF_inj {T:Trel} {nf:Nat->Nat->Nat} (h:T.Proper) {i:Nat} (hi:i<T.n) (hf:∀ u v,u<(T.W i).toNat->v<(T.W i).toNat->nf i u=nf i v->u=v) {j q:Nat} (hj:j<T.el i) (hq:q<T.el i) (e1:(T.triF nf i j).1=(T.triF nf i q).1) (e2:(T.triF nf i j).2.1=(T.triF nf i q).2.1):j=q:=by
 have e1:((nf i (T.fr i j).toNat:Nat):Int)=(nf i (T.fr i q).toNat:Nat):=e1
 have e2:T.lb i j=T.lb i q:=e2
 have h3:=h.frL hi hj
 have h4:=h.frL hi hq
 have e3:=hf _ _ h3.1 h4.1 (by omega)
 rcases Nat.lt_trichotomy j q with h5 | h5 | h5
 ·have:=Trel.ord (h.sec i hi) q j h5 hq; omega
 ·exact h5
 ·have:=Trel.ord (h.sec i hi) j q h5 hj; omega
theorem SecF.of_sort {T:Trel} {nf:Nat->Nat->Nat} (h:T.Proper) {i:Nat} (hi:i<T.n) (hf:∀ u v,u<(T.W i).toNat->v<(T.W i).toNat->nf i u=nf i v->u=v) {y:Nat->Int × Int × Int} (hp:((List.range (T.el i)).map y).Perm ((List.range (T.el i)).map (T.triF nf i))) (hs:∀ p q,p<q->q<T.el i->¬ ltE (y q) (y p)):SecF T nf i y:=by
 refine ⟨hp,fun p q hpq hq=>?_⟩
 have h1:(((List.range (T.el i)).map (T.triF nf i)).map fun t=>(t.1,t.2.1)).Nodup:=by
  rw [List.map_map]
  refine zaE.2 fun a b hab hb e=>?_
  simp only [Function.comp,Prod.mk.injEq] at e
  have:=h.triF_inj hi hf (by omega) hb e.1 e.2
  omega
 have h2:=((hp.map fun t=>(t.1,t.2.1)).nodup_iff).2 h1
 rw [List.map_map] at h2
 have h3:=zaE.1 h2 p q hpq hq
 have h4:=hs p q hpq hq
 simp only [Function.comp,ne_eq,Prod.mk.injEq] at h3
 unfold ltE at *
 omega
structure RnSt (T:Trel) (nf:Nat->Nat->Nat) (g base ob rb i j:Nat) (wv:Value) (y:Nat->Nat->Int × Int × Int) (F:Nat->Value) (w:World):Prop where
 res:w.rowIs rb 53 2 (fun _=>.slice none 0 0)
 box:w.rowIs ob 53 2 (fun k=>if k=0 then wv else .slice (some ⟨g,0,none⟩) T.n T.n)
 wid:Own w 0 3 1 wv T.nw (fun k _=>.int .i64 (T.W k))
 tab:TabOwn w g base 86 90 3 T.n F (fun v=>if v<i then T.el v else if v=i then j else 0) (fun v=>edgeCell (if v<i then y v else T.triF nf v))
 hrb:rb<base
 hob:ob<base
 hg:g<base
 hwv:∀ q,wv.ownBlock=some q->q<base
section
variable {T:Trel} {nf:Nat->Nat->Nat} {g base ob rb i j:Nat} {wv:Value} {y:Nat->Nat->Int × Int × Int} {F:Nat->Value} {w w':World}
theorem RnSt.on (h:RnSt T nf g base ob rb i j wv y F w) (hb:Below w.heap.size w w'):RnSt T nf g base ob rb i j wv y F w' :=
 ⟨h.res.of_block (hb.block _ h.res.lt),h.box.of_block (hb.block _ h.box.lt),h.wid.on hb,h.tab.stays hb,h.hrb,h.hob,h.hg,h.hwv⟩
theorem RnSt.row (h:RnSt T nf g base ob rb i j wv y F w) (hi:i<T.n):Own w base 90 3 (F i) j (edgeCell (T.triF nf i)):=by
 have:=h.tab.own i hi
 simpa using this
theorem RnSt.put (h:RnSt T nf g base ob rb i j wv y F w) (hi:i<T.n) {v':Value} (ho:Own w' base 90 3 v' (j+1) (edgeCell (T.triF nf i))) (hgr:w.grownBy w' (F i).ownBlock) (hat:v'.ownBlock=(F i).ownBlock∨v'.ownBlock=some w.heap.size) :
  RnSt T nf g base ob rb i (j+1) wv y (fun u=>if u=i then v' else F u) (w'.setCell ⟨g,i,none⟩ v'):=by
 have hF:=(h.tab.own i hi).lt
 have c:∀ b,b<base->(F i).ownBlock≠some b:=fun b hb e=>by have:=(hF b e).1; omega
 have r1:=h.res.of_block (hgr.block rb h.res.lt fun e=>c rb h.hrb e.symm)
 have r2:=h.box.of_block (hgr.block ob h.box.lt fun e=>c ob h.hob e.symm)
 have r3:w'.rowIs g 86 T.n F:=h.tab.row.of_block (hgr.block g h.tab.row.lt fun e=>c g h.hg e.symm)
 have r4:=h.wid.kept hgr (by
  cases e:wv.ownBlock with
  | none=>exact .inl rfl
  | some q=>exact .inr fun e2=>c q (h.hwv q e) e2.symm)
 refine ⟨r1.setOther (a:=⟨g,i,none⟩) (by simpa using zaG r1 r3 (by decide)) v',r2.setOther (a:=⟨g,i,none⟩) (by simpa using zaG r2 r3 (by decide)) v',r4.setCell (zam r3 r4 (by decide)) v',?_,h.hrb,h.hob,h.hg,h.hwv⟩
 refine (h.tab.put h.hg hi ho hgr hat).same (fun v _=>?_) (fun v _ k _ q _=>?_)
 ·by_cases e:v=i
  ·subst e; rw [if_pos rfl,if_neg (by omega),if_pos rfl]
  rw [if_neg e,if_neg e]
  by_cases e2:v<i
  ·rw [if_pos e2,if_pos e2]
  ·rw [if_neg e2,if_neg e2,if_neg e]
 by_cases e:v=i
 ·subst e; rw [if_pos rfl,if_neg (by omega)]
 ·rw [if_neg e]
theorem RnSt.sort (h:RnSt T nf g base ob rb i (T.el i) wv y F w) (hi:i<T.n) {z:Nat->Int × Int × Int} (ho:Own w' base 90 3 (F i) (T.el i) (edgeCell z)) (hgr:w.grownBy w' (F i).ownBlock) :
  RnSt T nf g base ob rb (i+1) 0 wv (fun u=>if u=i then z else y u) F w':=by
 have hF:=(h.tab.own i hi).lt
 have a:∀ b,b<base->(F i).ownBlock≠some b:=fun b hb e=>by have:=(hF b e).1; omega
 refine ⟨h.res.of_block (hgr.block rb h.res.lt fun e=>a rb h.hrb e.symm),h.box.of_block (hgr.block ob h.box.lt fun e=>a ob h.hob e.symm),h.wid.kept hgr (by
  cases e:wv.ownBlock with
  | none=>exact .inl rfl
  | some q=>exact .inr fun e2=>a q (h.hwv q e) e2.symm),?_,h.hrb,h.hob,h.hg,h.hwv⟩
 refine (h.tab.touch h.hg hi ho hgr).same (fun v _=>?_) (fun v _ k _ q _=>?_)
 ·by_cases e:v=i
  ·subst e; rw [if_pos rfl,if_pos (by omega)]
  rw [if_neg e]
  by_cases e2:v<i
  ·rw [if_pos e2,if_pos (by omega)]
  ·rw [if_neg e2,if_neg e,if_neg (by omega)]
   split <;> rfl
 by_cases e:v=i
 ·subst e; rw [if_pos rfl,if_pos (by omega),if_pos rfl]
 rw [if_neg e]
 by_cases e2:v<i
 ·rw [if_pos e2,if_pos (by omega),if_neg e]
 ·rw [if_neg e2,if_neg (by omega)]
theorem RnSt.etab (h:RnSt T nf g base ob rb T.n 0 wv y F w) (hn:T.n<=maxLen):ETab w 0 (.slice (some ⟨g,0,none⟩) T.n T.n) T.n T.el y:=by
 refine ⟨F,zdM h.tab.row (Nat.zero_le _) hn,fun i hi=>?_⟩
 have:=h.tab.own i hi
 simp only [if_pos hi] at this
 exact this.mono (Nat.zero_le _)
theorem RnSt.start (h0:w.rowIs rb 53 2 (fun _=>.slice none 0 0)) (h1:w.rowIs ob 53 2 (fun k=>if k=0 then wv else .slice (some ⟨g,0,none⟩) T.n T.n)) (h2:Own w 0 3 1 wv T.nw (fun k _=>.int .i64 (T.W k)))
  (h3:w.rowIs g 86 T.n (fun _=>.slice none 0 0)):RnSt T nf g w.heap.size ob rb 0 0 wv y (fun _=>.slice none 0 0) w :=
 ⟨h0,h1,h2,⟨h3,fun v _=>by
  have e:(if v<0 then T.el v else if v=0 then 0 else 0)=0:=by
   rw [if_neg (by omega)]
   split <;> rfl
  rw [e]
  exact Own.nil _ _ _ _ _,fun _ _ _ _ _=>.inl rfl⟩,h0.lt,h1.lt,h3.lt,fun q e=>(h2.lt q e).2⟩
end
def Trel.lx (T:Trel) (f:Nat->Nat) (i j v:Nat):Int × Int × Int:=if T.kt f i j v<1099511627776 then (((T.kt f i j v / 256:Nat):Int),((T.kt f i j v % 256:Nat):Int),0) else (0,0,0)
def Trel.sn (T:Trel) (f:Nat->Nat) (i j v:Nat):Bool:=decide (T.kt f i j v<1099511627776)
section
variable {T:Trel} {f:Nat->Nat} {i j tn:Nat}
theorem Trel.kt_take (ht:(T.to i j).toNat=tn) (h:T.code f i j<T.kt f i j tn) (v:Nat):T.kt f i (j+1) v=if v=tn then T.code f i j else T.kt f i j v:=by
 show (if (T.to i j).toNat=v/\T.code f i j<T.kt f i j v then T.code f i j else T.kt f i j v)=_
 by_cases e:v=tn
 ·subst e
  rw [if_pos rfl,if_pos ⟨ht,h⟩]
 ·rw [if_neg e,if_neg (fun h=>e (by omega))]
variable {a1:Nat} {lv:Int}
theorem Trel.lx_less (hl:0<=lv/\lv<256) (hc:T.code f i j=a1*256+lv.toNat) (hk:T.sn f i j tn=true):lessV (a1:Nat) lv (T.lx f i j tn).1 (T.lx f i j tn).2.1<0↔T.code f i j<T.kt f i j tn:=by
 have hk:T.kt f i j tn<1099511627776:=of_decide_eq_true hk
 rw [zbM]
 unfold Trel.lx
 rw [if_pos hk,hc]
 show ((a1:Nat):Int)<((T.kt f i j tn / 256:Nat):Int)∨((a1:Nat):Int)=((T.kt f i j tn / 256:Nat):Int)/\lv<((T.kt f i j tn % 256:Nat):Int)↔_
 omega
theorem Trel.lx_take (ht:(T.to i j).toNat=tn) (hl:0<=lv/\lv<256) (hc:T.code f i j=a1*256+lv.toNat) (ha:a1<65536) (h:T.code f i j<T.kt f i j tn) (v:Nat):T.lx f i (j+1) v=if v=tn then (((a1:Nat):Int),lv,0) else T.lx f i j v:=by
 unfold Trel.lx
 rw [Trel.kt_take ht h]
 by_cases e:v=tn
 ·rw [if_pos e,if_pos e,if_pos (by omega),hc]
  have e1:(a1*256+lv.toNat) / 256=a1:=by omega
  have e2:(a1*256+lv.toNat) % 256=lv.toNat:=by omega
  rw [e1,e2]
  have:((lv.toNat:Nat):Int)=lv:=by omega
  rw [this]
 ·rw [if_neg e,if_neg e]
theorem Trel.sn_take (ht:(T.to i j).toNat=tn) (hl:0<=lv/\lv<256) (hc:T.code f i j=a1*256+lv.toNat) (ha:a1<65536) (h:T.code f i j<T.kt f i j tn) (v:Nat):T.sn f i (j+1) v=if v=tn then true else T.sn f i j v:=by
 unfold Trel.sn
 rw [Trel.kt_take ht h]
 by_cases e:v=tn
 ·rw [if_pos e,if_pos e,decide_eq_true_iff]
  omega
 ·rw [if_neg e,if_neg e]
theorem Trel.kt_new (hl:0<=lv/\lv<256) (hc:T.code f i j=a1*256+lv.toNat) (ha:a1<65536) (h:T.sn f i j tn=false):T.code f i j<T.kt f i j tn:=by
 have h1:¬ T.kt f i j tn<1099511627776:=of_decide_eq_false h
 omega
end
section
variable {T:Trel} {f:Nat->Nat} {i j tn:Nat} (ht:(T.to i j).toNat=tn) (h:¬ T.code f i j<T.kt f i j tn)
include ht h
theorem Trel.kt_skip (v:Nat):T.kt f i (j+1) v=T.kt f i j v:=by
 show (if (T.to i j).toNat=v/\T.code f i j<T.kt f i j v then T.code f i j else T.kt f i j v)=_
 rw [if_neg]
 rintro ⟨e,h2⟩
 rw [ht] at e
 subst e
 exact h h2
theorem Trel.lx_skip (v:Nat):T.lx f i (j+1) v=T.lx f i j v:=by unfold Trel.lx; rw [Trel.kt_skip ht h]
theorem Trel.sn_skip (v:Nat):T.sn f i (j+1) v=T.sn f i j v:=by unfold Trel.sn; rw [Trel.kt_skip ht h]
end
theorem Trel.lx_zero (T:Trel) (f:Nat->Nat) (i v:Nat):T.lx f i 0 v=(0,0,0):=by
 unfold Trel.lx Trel.kt
 rw [if_neg (by omega)]
theorem Trel.sn_zero (T:Trel) (f:Nat->Nat) (i v:Nat):T.sn f i 0 v=false:=by
 unfold Trel.sn Trel.kt
 exact decide_eq_false (by omega)
theorem Trel.Proper.lx_key {T:Trel} (h:T.Proper) {i:Nat} (hi:i<T.n) (u v:Nat) (hu:u<(T.W (i+1)).toNat) (hv:v<(T.W (i+1)).toNat) :
  lessV (T.lx (T.nm i) i (T.el i) u).1 (T.lx (T.nm i) i (T.el i) u).2.1 (T.lx (T.nm i) i (T.el i) v).1 (T.lx (T.nm i) i (T.el i) v).2.1<0↔T.kt (T.nm i) i (T.el i) u<T.kt (T.nm i) i (T.el i) v:=by
 obtain ⟨p,hp,_,e1⟩:=h.kt_hit hi hu
 obtain ⟨q,hq,_,e2⟩:=h.kt_hit hi hv
 have h1:=h.code_lt hi hp
 have h2:=h.code_lt hi hq
 rw [zbM]
 unfold Trel.lx
 rw [if_pos (by omega),if_pos (by omega)]
 show ((T.kt (T.nm i) i (T.el i) u / 256:Nat):Int)<((T.kt (T.nm i) i (T.el i) v / 256:Nat):Int)∨((T.kt (T.nm i) i (T.el i) u / 256:Nat):Int)=((T.kt (T.nm i) i (T.el i) v / 256:Nat):Int)/\((T.kt (T.nm i) i (T.el i) u % 256:Nat):Int)<((T.kt (T.nm i) i (T.el i) v % 256:Nat):Int)↔_
 omega
theorem zef (n:Nat) (hn:n<=1048576) (w:World) :
  (Instr.makeSlice 86 (.int .i64 (n:Int)) (.int .i64 (n:Int))).run Tryz.prog w=.ok (.slice (some ⟨w.heap.size,0,none⟩) n n) (w.alloc (.cells (madeCells #[.int .i64 0,.int .i64 0,.int .i64 0] (n*3)) 90)):=by
 obtain ⟨i,hi,hz,hs,hb⟩:=info_parts Tryz.infoEdge
 have h:=run_make (P:=Tryz.prog) w 86 90 i _ Tryz.underlying86 hi hz .i64 .i64 (n:Int) (n:Int) (by omega) (by omega) (by rw [hb]; omega) (by omega)
 rw [h,hs,Int.toNat_natCast]
 rfl
theorem zdh (w:World) (n:Nat):(w.alloc (.cells (madeCells #[.int .i64 0,.int .i64 0,.int .i64 0] (n*3)) 90)).rowIs w.heap.size 90 (n*3) (eRow fun _=>(0,0,0)):=by
 refine ⟨_,zaw rfl,size_madeCells _ _,fun i hi=>?_⟩
 have e:eRow (fun _=>(0,0,0)) i=.int .i64 0:=by
  unfold eRow edgeCell
  split
  ·rfl
  ·split <;> rfl
 rw [e]
 have h3:i % 3=0∨i % 3=1∨i % 3=2:=by omega
 rcases h3 with h3 | h3 | h3 <;> simp [madeCells,hi,h3]
theorem zfX {w:World} {b n u:Nat} {t:TypeId} {x x':Nat->Int × Int × Int} (h:w.rowIs b t (n*3) (eRow x)) {p q r:Int} (hx:∀ v,x' v=if v=u then (p,q,r) else x v) :
  (((w.setCell ⟨b,u*3,none⟩ (.int .i64 p)).setCell ⟨b,u*3+1,none⟩ (.int .i64 q)).setCell ⟨b,u*3+2,none⟩ (.int .i64 r)).rowIs b t (n*3) (eRow x'):=by
 refine (((h.set (u*3) (.int .i64 p)).set (u*3+1) (.int .i64 q)).set (u*3+2) (.int .i64 r)).congr fun k _=>?_
 unfold eRow edgeCell
 rw [hx]
 by_cases e:k / 3=u
 ·rw [if_pos e]
  have h3:k % 3=0∨k % 3=1∨k % 3=2:=by omega
  rcases h3 with h3 | h3 | h3
  ·rw [if_neg (by omega),if_neg (by omega),if_pos (by omega),if_pos h3]
  ·rw [if_neg (by omega),if_pos (by omega),if_neg (by omega),if_pos h3]
  ·rw [if_pos (by omega),if_neg (by omega),if_neg (by omega)]
 ·rw [if_neg e,if_neg (by omega),if_neg (by omega),if_neg (by omega)]
def Trel.nrow (T:Trel) (k:Nat):List Int:=(List.range (T.W k).toNat).map fun u=>((T.nm k u:Nat):Int)
def Trel.names (T:Trel) (i:Nat):List (List Int):=(List.range i).map T.nrow
theorem Trel.names_succ (T:Trel) (i:Nat):T.names (i+1)=T.names i ++ [T.nrow i]:=by
 unfold Trel.names
 rw [List.range_succ,List.map_append]
 rfl
theorem Trel.names_len (T:Trel) (i:Nat):(T.names i).length=i:=by simp [Trel.names]
theorem Trel.names_get (T:Trel) {i k:Nat} (h:k<i):(T.names i).getD k []=T.nrow k:=by
 unfold Trel.names
 rw [List.getD_eq_getElem?_getD,List.getElem?_map,List.getElem?_range h]
 rfl
theorem Trel.nrow_len (T:Trel) (k:Nat):(T.nrow k).length=(T.W k).toNat:=by simp [Trel.nrow]
theorem Trel.nrow_get (T:Trel) {k u:Nat} (h:u<(T.W k).toNat):(T.nrow k).getD u 0=(T.nm k u:Nat):=by
 unfold Trel.nrow
 rw [List.getD_eq_getElem?_getD,List.getElem?_map,List.getElem?_range h]
 rfl
theorem Trel.names_one {T:Trel} (h:T.Proper):T.names 1=[[0]]:=by
 have:(T.W 0).toNat=1:=by rw [h.w0]; rfl
 unfold Trel.names Trel.nrow
 simp [this,Trel.nm]
theorem Trel.names_rows {T:Trel} (h:T.Proper) {w:World} {base:Nat} {v:Value} (hT:TabL w base v (T.names (T.n+1))) :
  ∃ O c,v=.slice O (T.n+1) c/\IntRows w O (T.n+1) (fun i=>(T.W i).toNat) (fun i k=>(T.nm i k:Nat)):=by
 obtain ⟨O,c,e,h1,h2,h3⟩:=hT.rows (fun l hl x hx=>by
  obtain ⟨k,hk,rfl⟩:=List.mem_map.1 hl
  obtain ⟨u,hu,rfl⟩:=List.mem_map.1 hx
  rw [List.mem_range] at hk hu
  have:=h.nm_lt (by omega) hu
  have:=(h.shape.wid (i:=k) (by omega)).2
  omega)
 rw [T.names_len] at e h3
 refine ⟨O,c,e,fun i hi=>?_⟩
 obtain ⟨b,off,A,c',e1,k1,k2,k3,k4,k5,k6⟩:=h3 i hi
 simp only [T.names_get hi,T.nrow_len] at k2 k3 k5 k6
 refine ⟨b,off,A,c',e1,k1,k2,k3,k4,k5.congr fun u hu=>T.nrow_get hu,fun u hu=>?_⟩
 have:=k6 u hu
 rwa [T.nrow_get hu] at this
theorem TabL.readR {w:World} {base N c k:Nat} {A:Option Addr} {L:List (List Int)} (h:TabL w base (.slice A N c) L) (hk:k<L.length) :
  ∃ b o RA rc,A=some ⟨b,o,none⟩/\b<w.heap.size/\w.cell? ⟨b,o+k,none⟩=some (.slice RA (L.getD k []).length rc)/\OwnL w base (.slice RA (L.getD k []).length rc) (L.getD k []):=by
 obtain ⟨R,hA,hB⟩:=h
 obtain ⟨A1,c1,e1⟩:=hA.shape
 injection e1 with e1 e2 e3
 subst e1 e2 e3
 obtain ⟨b,o,e,d,a⟩:=hA.rd rfl k hk
 have g1:=a 0 (by omega)
 rw [Nat.mul_one,Nat.add_zero] at g1
 have hr:=hB k hk
 obtain ⟨RA,rc,hR⟩:=Own.shape hr
 rw [hR] at hr
 exact ⟨b,o,RA,rc,e,d,by rw [g1,<-hR],hr⟩
theorem ze7 {w:World} {g m base:Nat} {f:Nat->Int} (h:w.rowIs g 3 m (fun u=>.int .i64 (f u))) (hb:base<=g) (hm:m<=maxLen):OwnL w base (.slice (some ⟨g,0,none⟩) m m) ((List.range m).map f):=by
 have hl:((List.range m).map f).length=m:=by simp
 unfold OwnL
 rw [hl]
 refine (zdM h hb hm).congr fun u hu _ _=>?_
 unfold listCell
 rw [List.getD_eq_getElem?_getD,List.getElem?_map,List.getElem?_range hu]
 rfl
theorem ze8 (w:World):TabL ((w.alloc (Obj.cells #[.int .i64 0] 3)).alloc (Obj.cells #[.slice (some ⟨w.heap.size,0,none⟩) 1 1] 22)) w.heap.size (.slice (some ⟨w.heap.size+1,0,none⟩) 1 1) [[0]]:=by
 have h0:=Own.new (w:=w) (base:=w.heap.size) (e := 3) (s:=1) (m:=1) (cap:=1) (cur:=#[.int .i64 0]) (f:=listCell [0]) (Nat.le_refl _) (Nat.le_refl _) (by unfold maxLen; omega) (by simp) (fun k hk j hj=>by
  obtain rfl:k=0:=by omega
  obtain rfl:j=0:=by omega
  rfl)
 have h1:=Own.new (w:=w.alloc (Obj.cells #[.int .i64 0] 3)) (base:=w.heap.size) (e := 22) (s:=1) (m:=1) (cap:=1) (cur:=#[.slice (some ⟨w.heap.size,0,none⟩) 1 1]) (f:=fun _ _=>.slice (some ⟨w.heap.size,0,none⟩) 1 1) (by simp) (by omega) (by unfold maxLen; omega) (by simp) (fun k hk j hj=>by
  obtain rfl:k=0:=by omega
  obtain rfl:j=0:=by omega
  rfl)
 have e1:(w.alloc (Obj.cells #[.int .i64 0] 3)).heap.size=w.heap.size+1:=by simp
 rw [e1] at h1
 refine ⟨fun _=>.slice (some ⟨w.heap.size,0,none⟩) 1 1,h1,fun i hi=>?_⟩
 obtain rfl:i=0:=by simp at hi; omega
 exact h0.alloc _
open Go.ChangeShapes Go.WideShapes Go.ChangeAt
theorem zgN {w:World} {base:Nat} (hb:base<=w.heap.size) (x:Int × Int × Int):Own (w.alloc (.cells #[.int .i64 x.1,.int .i64 x.2.1,.int .i64 x.2.2] 90)) base 90 3 (.slice (some ⟨w.heap.size,0,none⟩) 1 1) 1 (edgeCell fun _=>x) :=
 Own.new (cur:=#[.int .i64 x.1,.int .i64 x.2.1,.int .i64 x.2.2]) hb (Nat.le_refl _) (by unfold maxLen; omega) (by simp) (fun k hk j hj=>by
  obtain rfl:k=0:=by omega
  match j,hj with
  | 0,_=>rfl
  | 1,_=>rfl
  | 2,_=>rfl)
theorem zbO (D:Nat->Bool) (n:Nat):cntB D (n+1)=cntB D n+if D n then 1 else 0:=rfl
def SectPost (q:Nat) (add mul:Nat->Nat->Nat) (n N:Nat) (pv:Nat->Nat) (R:Nat->Nat->Nat) (i:Nat) (w:World) (e:Ending) (w':World):Prop :=
 ∃ A m c y,e=.returned (.tuple #[.int .i64 (q ^ cntB (actA pv R N (i+1)) n:Nat),.slice A m c])/\SecM q add mul n N pv R i m y/\Own w' w.heap.size 90 3 (.slice A m c) m (edgeCell y)/\Below w.heap.size w w'
theorem ze9 (P M:Nat) (m:Nat->Nat) (g n N i:Nat) (pv:Nat->Nat) (R:Nat->Nat->Nat) (T:Option Addr) (d:Nat) (w:World) (hG:GF w w.heap.size g P M m) (h:IntRows w T n (fun _=>N) (fun s j=>((R s j:Nat):Int))) (hS:SpanF (P ^ M) n N pv R) (hn:n<=64) (hN:N<=64) (hi:i<N)
  (hE:(P ^ M) ^ cntB (actE pv R N i) n<=262144) :
  Calls Tryz.prog 77 #[.pointer (some ⟨g,0,none⟩),.slice T n d,.int .i64 (i:Nat)] w (SectPost (P ^ M) (addF P M) (mulF P M m) n N pv R i w):=by
 have HG:=hid hG
 have HR:=hid h
 have HS:=hid hS
 have HL:=hid (fieldLaws hG.ok)
 have HE:=hid hE
 have ai:=hid hi
 obtain ⟨q,hq⟩:=exx (P ^ M)
 have d6:2<=q:=by rw [hq]; exact HL.out.two
 have bi:q<=256:=by rw [hq]; exact hG.ok.1.2.2.2
 clear hG h hS hE
 have HQ:=hid hq
 obtain ⟨mt,a3⟩:∃ mt:Nat->Nat,mt=fun t=>q ^ cntB (actE pv R N i) t:=⟨_,rfl⟩
 obtain ⟨wt,a8⟩:∃ wt:Nat->Nat,wt=fun t=>q ^ cntB (actA pv R N (i+1)) t:=⟨_,rfl⟩
 have cs:Hid (mt 0=1):=hid (by rw [a3]; rfl)
 have cn:Hid (wt 0=1):=hid (by rw [a8]; rfl)
 have a2:=hid a3
 have ac:=hid a8
 have af:Hid (∀ t,t<=n->mt t<=262144):=hid fun t ht=>by
  rw [a3]
  refine Nat.le_trans (Nat.pow_le_pow_right (by omega) ?_) (by rw [hq]; exact HE.out)
  have:=zfT (actE pv R N i) t (n - t)
  rwa [show t+(n - t)=n by omega] at this
 have bo:Hid (∀ t,t<=n->wt t<=262144):=hid fun t ht=>by
  refine Nat.le_trans ?_ (af.out t ht)
  rw [a8,a3]
  refine Nat.pow_le_pow_right (by omega) (zfS (fun s hs=>?_) t)
  obtain ⟨h1,h2⟩:=(zaN _ _).1 hs
  exact (zbs _ _).2 ⟨by omega,by omega⟩
 clear a3 a8
 have d9:(0:Int)<=(i:Int):=by omega
 clear hq
 go_enter Tryz.func77, Tryz.ntmps77
 go_wp2_with fail
 refine (zcd HG.out).mono ?_
 rintro e w1 ⟨he,kb⟩
 rw [<-HQ.out] at he
 subst he
 have be:=hid kb
 clear kb
 go_upto_region 3 with fail
 have a9:=zgN (w:=w1) (base:=w.heap.size) be.out.size (0,0,0)
 have kb:=aly w1 (Obj.cells #[Value.int .i64 0,Value.int .i64 0,Value.int .i64 0] 90)
 obtain ⟨w2,aj⟩:=exx (World.alloc w1 (Obj.cells #[Value.int .i64 0,Value.int .i64 0,Value.int .i64 0] 90))
 rw [<-aj] at kb ⊢
 have a9:Own w2 w.heap.size 90 3 (.slice (some ⟨w1.heap.size,0,none⟩) 1 1) 1 (edgeCell fun _=>(0,0,0)):=by rw [aj]; exact a9
 have a0:=hid a9
 have bv:=hid (onS be.out kb)
 clear kb aj a9
 go_upto_region 5 with fail
 go_loopg [9,10,26] n (fun gg v9 v10 iv wx=>∃ (t:Nat) (x:Nat->Int × Int × Int),iv=.int .i64 (t:Nat)/\v10=.int .i64 (wt t:Nat)/\t<=n/\n<=t+gg/\Hid (Own wx w.heap.size 90 3 v9 (mt t) (edgeCell x))/\Hid (SecX q (addF P M) (mulF P M m) pv R N i t x)/\Below w.heap.size w wx)
 case atStart=>exact ⟨0,fun _=>(0,0,0),rfl,by rw [cn.out]; rfl,by omega,by omega,hid (by rw [cs.out]; exact a0.out),zgI,bv.out⟩
 clear a0 bv be
 obtain ⟨t,x,rfl,rfl,ht,d3,HO,HX,U⟩:=hrel
 have d4:(0:Int)<=(t:Int):=by omega
 have HB:=hid U
 obtain ⟨w3,c8⟩:=exx wr
 subst c8
 clear U
 obtain ⟨mm,aa⟩:=exx (mt t)
 have ca:mm<=262144:=by rw [aa]; exact af.out t ht
 obtain ⟨ww,a7⟩:=exx (wt t)
 have bw:ww<=262144:=by rw [a7]; exact bo.out t ht
 rw [<-a7];rw [<-aa] at HO
 have a6:=hid aa
 have b2:=hid a7
 clear aa a7
 obtain ⟨EA,ec,hv⟩:=HO.out.shape
 subst hv
 by_cases htn:t<n
 rotate_left
 ·have am:¬ (t:Int)<(n:Int):=by omega
  obtain rfl:n=t:=by omega
  have cb:0<mm:=by rw [a6.out,a2.out]; exact Nat.pow_pos (by omega)
  go_wp2_with fail
  refine (zb7 mm x w3 w.heap.size (.slice EA mm ec) HO.out cb (by omega)).mono ?_
  rintro e w4 ⟨rfl,y,hp,hs,ho,bj⟩
  have co:Hid (SecM (P ^ M) (addF P M) (mulF P M m) n N pv R i mm y):=hid (by
   have e1:mm=(P ^ M) ^ cntB (actE pv R N i) n:=by rw [a6.out,a2.out,HQ.out]
   have hx:=HX.out
   rw [HQ.out] at hx;rw [e1] at hp hs ⊢
   exact zil HL.out HS.out ai.out hx hp hs)
  have cp:=hid ho
  have cw:=hid (HB.out.grown bj HB.out.size fun q e=>(HO.out.lt _ e).1)
  have cm:Hid (ww=(P ^ M) ^ cntB (actA pv R N (i+1)) n):=hid (by rw [b2.out,ac.out,HQ.out])
  clear hp hs ho bj
  go_wp2
  go_ret2
  exact ⟨EA,mm,ec,y,by rw [<-cm.out]; rfl,co.out,cp.out,cw.out⟩
 have am:(t:Int)<(n:Int):=by omega
 obtain ⟨b1,o1,RA,rc,ch,cg,x0,h1,h2,h3,h4⟩:=HR.out t htn
 subst ch
 replace x0:=cellS HB.out x0
 have a5:=hid h3
 clear h3 h4 h1 h2 cg
 go_wp2_with fail
 clear x0
 refine (zdg RA N rc (R t) w3 (a5.out.on HB.out) (by omega)).mono ?_
 rintro e w4 ⟨rfl,kb⟩
 replace HB:=hid (onS HB.out kb);replace HO:=hid (HO.out.on kb);clear kb;rw [HS.out.first htn]
 have a4:actE pv R N i t=true↔(pv t<=i/\(i:Int)<=lE (R t) N):=zbs i t
 obtain ⟨p,hp⟩:=exx (pv t)
 obtain ⟨l,hl⟩:=exx (lE (R t) N)
 have HP:=hid hp
 have b9:=hid hl
 rw [<-hp,<-hl] at a4 ⊢;clear hp hl
 by_cases g0:p<=i/\(i:Int)<=l
 rotate_left
 ·have D:actE pv R N i t=false:=by
   cases hb:actE pv R N i t with
   | false=>rfl
   | true=>exact absurd (a4.1 hb) g0
  have bn:actA pv R N (i+1) t=false:=by
   cases hb:actA pv R N (i+1) t with
   | false=>rfl
   | true =>
    obtain ⟨k1,k2⟩:=(zaN _ _).1 hb
    rw [<-HP.out] at k1;rw [<-b9.out] at k2
    exact absurd ⟨by omega,by omega⟩ g0
  have b0:Hid (SecX q (addF P M) (mulF P M m) pv R N i (t+1) x):=hid (by
   have:=HX.out
   rw [HQ.out] at this ⊢
   exact zgJ HL.out HS.out ai.out htn D this)
  have ag:Hid (mt (t+1)=mm):=hid (by rw [a6.out,a2.out]; show q ^ cntB _ (t+1)=q ^ cntB _ t; rw [zbO,D]; rfl)
  have ae:Hid (ww=wt (t+1)):=hid (by rw [b2.out,ac.out]; show q ^ cntB _ t=q ^ cntB _ (t+1); rw [zbO,bn]; rfl)
  clear D bn a4
  by_cases g1:p<=i
  focus
   have g1':¬ (p:Int) > (i:Int):=by omega
   have g1d:decide ((p:Int) > (i:Int))=false:=by simp; omega
   have g2:l<(i:Int):=by omega
   have g2d:decide (l<(i:Int))=true:=by simp; omega
  rotate_left
  focus
   have g1':(p:Int) > (i:Int):=by omega
   have g1d:decide ((p:Int) > (i:Int))=true:=by simp; omega
  rotate_left
  all_goals
   clear g0
   go_wp2
   go_roundg (gk - 1)
   case measure=>omega
   case rel=>exact ⟨t+1,x,by go_num,by rw [<-ae.out],by omega,by omega,hid (by rw [ag.out]; exact HO.out),b0,HB.out⟩
 obtain ⟨g1,g2⟩:=g0
 have g1':¬ (p:Int) > (i:Int):=by omega
 have g1d:decide ((p:Int) > (i:Int))=false:=by simp; omega
 have g1n:¬ i<p:=by omega
 have g1m:decide (i<p)=false:=by simp; omega
 have g2d:decide (l<(i:Int))=false:=by simp; omega
 have g2':¬ l<(i:Int):=by omega
 have D:actE pv R N i t=true:=a4.2 ⟨g1,g2⟩
 obtain ⟨z,hz⟩:∃ z:Nat->Int × Int × Int,z=fun y=>stepE q (addF P M) (mulF P M m) pv R N i t (x (y / q)) (y % q):=⟨_,rfl⟩
 have b0:Hid (SecX q (addF P M) (mulF P M m) pv R N i (t+1) z):=hid (by rw [hz]; exact zgK D HX.out)
 have ag:Hid (mt (t+1)=mm*q):=hid (by rw [a6.out,a2.out]; show q ^ cntB _ (t+1)=q ^ cntB _ t*q; rw [zbO,D,if_pos rfl,Nat.pow_succ])
 have ae:Hid (wt (t+1)=if (i:Int)<l then ww*q else ww):=hid (by
  have bm:actA pv R N (i+1) t=true↔(i:Int)<l:=by
   rw [zaN,<-HP.out,<-b9.out]
   omega
  rw [b2.out,ac.out]
  show q ^ cntB _ (t+1)=if (i:Int)<l then q ^ cntB _ t*q else q ^ cntB _ t
  rw [zbO]
  by_cases g:(i:Int)<l
  ·rw [bm.2 g,if_pos g,if_pos rfl,Nat.pow_succ]
  have:actA pv R N (i+1) t=false:=by
   cases hb:actA pv R N (i+1) t with
   | false=>rfl
   | true=>exact absurd (bm.1 hb) g
  rw [this,if_neg g]; rfl)
 have d7:mm*q<=262144:=by rw [<-ag.out]; exact af.out (t+1) htn
 have HZ:Hid (∀ u a,a<q->z (u*q+a)=stepE q (addF P M) (mulF P M m) pv R N i t (x u) a):=hid fun u a ha=>by
  rw [hz]
  show stepE q (addF P M) (mulF P M m) pv R N i t (x ((u*q+a) / q)) ((u*q+a) % q)=_
  rw [Nat.mul_add_mod_self_right,Nat.mod_eq_of_lt ha,Nat.mul_comm u q,Nat.mul_add_div (by omega),Nat.div_eq_of_lt ha,Nat.add_zero]
 have cl:Hid (∀ u,u<mm->0<=(x u).1/\(x u).1<=262144/\0<=(x u).2.1/\(x u).2.1<(q:Int)/\0<=(x u).2.2/\(x u).2.2<=262144):=hid fun u hu=>by
  have hx:=HX.out
  rw [HQ.out] at hx
  have c9:u<(P ^ M) ^ cntB (actE pv R N i) t:=by rw [<-HQ.out]; rw [a6.out,a2.out] at hu; exact hu
  have k:=zik HL.out hx c9
  have c1:(P ^ M) ^ cntB (actA pv R N i) t<=262144:=by
   have:=af.out t ht
   rw [a2.out] at this;rw [<-HQ.out]
   refine Nat.le_trans (Nat.pow_le_pow_right (by omega) (zfS (fun s hs=>?_) t)) this
   obtain ⟨h1,h2⟩:=(zaN _ _).1 hs
   exact (zbs _ _).2 ⟨by omega,by omega⟩
  have c2:(P ^ M) ^ cntB (actA pv R N (i+1)) t<=262144:=by
   have:=bo.out t ht
   rw [ac.out] at this;rw [<-HQ.out]
   exact this
  rw [HQ.out]
  omega
 have al:t<n:=htn
 clear hz D a4
 obtain ⟨gO,ce⟩:=exx gk
 subst ce
 go_upto_region 11 with fail
 go_loopg [15,45] mm (fun gg v15 uv wx=>∃ u:Nat,uv=.int .i64 (u:Nat)/\u<=mm/\mm<=u+gg/\Hid (Own wx w.heap.size 90 3 (.slice EA mm ec) mm (edgeCell x))/\Hid (Own wx w.heap.size 90 3 v15 (u*q) (edgeCell z))/\Hid ((Value.slice EA mm ec).ownBlock=none∨(Value.slice EA mm ec).ownBlock≠v15.ownBlock)/\Below w.heap.size w wx)
 case atStart=>exact ⟨0,rfl,by omega,by omega,HO,hid (by rw [Nat.zero_mul]; exact Own.nil _ _ _ _ _),hid (by
  cases hc:(Value.slice EA mm ec).ownBlock with
  | none=>exact .inl rfl
  | some b=>exact .inr (by simp [Value.ownBlock])),HB.out⟩
 clear HO HB
 obtain ⟨u,rfl,hu,cy,HO,C,Z,U⟩:=hrel
 have cz:(0:Int)<=(u:Int):=by omega
 have HB:=hid U
 obtain ⟨w5,c7⟩:=exx wr
 subst c7
 clear U
 by_cases hum:u<mm
 rotate_left
 ·have ak:¬ (u:Int)<(mm:Int):=by omega
  obtain rfl:mm=u:=by omega
  obtain ⟨ZA,zc,V⟩:=C.out.shape
  subst V
  have b4:Hid (Own w5 w.heap.size 90 3 (.slice ZA (mm*q) zc) (mt (t+1)) (edgeCell z)):=hid (by rw [ag.out]; exact C.out)
  by_cases g5:(i:Int)<l
  focus
   have g5':l > (i:Int):=by omega
   have bz:0<=(ww:Int)*(q:Int):=Int.mul_nonneg (by omega) (by omega)
   have bx:(ww:Int)*(q:Int)<=262144*256:=Int.mul_le_mul (by omega) (by omega) (by omega) (by omega)
   have bp:Hid ((ww:Int)*(q:Int)=(wt (t+1):Nat)):=hid (by rw [ae.out,if_pos g5]; push_cast; rfl)
  rotate_left
  focus
   have g5':¬ l > (i:Int):=by omega
   have bp:Hid (ww=wt (t+1)):=hid (by rw [ae.out,if_neg g5])
  rotate_left
  all_goals
   go_wp2
   go_roundg (gO - 1)
   case measure=>omega
   case rel=>exact ⟨t+1,z,by go_num,by rw [<-bp.out],by omega,by omega,b4,b0,HB.out⟩
 have ak:(u:Int)<(mm:Int):=by omega
 obtain ⟨eb,eo,ed,cj,_,da,_,_,B⟩:=HO.out.form (by omega)
 injection cj with hEA _ hec
 subst hEA
 have y0:w5.cell? ⟨eb,eo+u*3,none⟩=some (.int .i64 (x u).1):=B u hum 0 (by omega)
 have y1:w5.cell? ⟨eb,eo+u*3+1,none⟩=some (.int .i64 (x u).2.1):=B u hum 1 (by omega)
 have y2:w5.cell? ⟨eb,eo+u*3+2,none⟩=some (.int .i64 (x u).2.2):=B u hum 2 (by omega)
 clear B hec
 obtain ⟨k0,k1,k2,k3,k4,k5⟩:=cl.out u hum
 obtain ⟨E0,D⟩:=exx (x u)
 rw [<-D] at y0 y1 y2 k0 k1 k2 k3 k4 k5
 obtain ⟨F,L,O⟩:=E0
 have cu:=hid D
 clear D;replace y0:w5.cell? ⟨eb,eo+u*3,none⟩=some (.int .i64 F):=y0;replace y1:w5.cell? ⟨eb,eo+u*3+1,none⟩=some (.int .i64 L):=y1;replace y2:w5.cell? ⟨eb,eo+u*3+2,none⟩=some (.int .i64 O):=y2;replace k0:0<=F:=k0;replace k1:F<=262144:=k1;replace k2:0<=L:=k2;replace k3:L<(q:Int):=k3;replace k4:0<=O:=k4;replace k5:O<=262144:=k5
 obtain ⟨gP,cd⟩:=exx gk
 subst cd
 go_upto_region 13 with fail
 clear y0 y1 y2
 have rx:(w5.alloc (Obj.cells #[.int .i64 F,.int .i64 L,.int .i64 O] 90)).rowIs w5.heap.size 90 3 (fun j=>edgeCell (fun _=>(F,L,O)) 0 j):=World.rowIs_alloc w5 _ _ _ (fun j hj=>by
  match j,hj with
  | 0,_=>rfl
  | 1,_=>rfl
  | 2,_=>rfl)
 have kb:=aly w5 (Obj.cells #[.int .i64 F,.int .i64 L,.int .i64 O] 90)
 obtain ⟨w6,bh⟩:=exx (w5.alloc (Obj.cells #[.int .i64 F,.int .i64 L,.int .i64 O] 90))
 rw [<-bh] at rx kb ⊢
 obtain ⟨xb,bg⟩:=exx w5.heap.size
 have bq:Hid (∀ v:Value,(∀ k,v.ownBlock=some k->w.heap.size<=k/\k<w5.heap.size)->v.ownBlock≠some xb):=hid fun v hv e=>by
  have:=(hv xb e).2
  omega
 rw [<-bg] at rx ⊢
 have G:=hid rx
 have br:Hid (∀ v15,Own w5 w.heap.size 90 3 v15 (u*q) (edgeCell z)->v15.ownBlock≠some xb):=hid fun v15 ho=>bq.out v15 ho.lt
 have a1:=hid (br.out _ C.out)
 replace HO:=hid (HO.out.on kb);replace C:=hid (C.out.on kb);replace HB:=hid (onS HB.out kb);clear kb bh bg bq br rx
 go_upto_region 14 with fail
 go_loopg [15,50] q (fun gg v15 av wx=>∃ a:Nat,av=.int .i64 (a:Nat)/\a<=q/\q<=a+gg/\Hid (Own wx w.heap.size 90 3 (.slice (some ⟨eb,eo,none⟩) mm ec) mm (edgeCell x))/\Hid (Own wx w.heap.size 90 3 v15 (u*q+a) (edgeCell z))/\Hid ((Value.slice (some ⟨eb,eo,none⟩) mm ec).ownBlock=none∨(Value.slice (some ⟨eb,eo,none⟩) mm ec).ownBlock≠v15.ownBlock)/\Hid (wx.rowIs xb 90 3 (fun j=>edgeCell (fun _=>(F,L,O)) 0 j))/\Hid (v15.ownBlock≠some xb)/\Below w.heap.size w wx)
 case atStart=>exact ⟨0,rfl,by omega,by omega,HO,C,Z,G,a1,HB.out⟩
 clear HO C Z G a1 HB
 obtain ⟨a,rfl,ha,db,HO,C,Z,G,a1,U⟩:=hrel
 have dc:(0:Int)<=(a:Int):=by omega
 have HB:=hid U
 obtain ⟨w7,c6⟩:=exx wr
 subst c6
 clear U
 obtain ⟨ZA,zc,V⟩:=C.out.shape
 subst V
 by_cases haq:a<q
 rotate_left
 ·have aq:¬ (a:Int)<(q:Int):=by omega
  obtain rfl:q=a:=by omega
  have b6:Hid (Own w7 w.heap.size 90 3 (.slice ZA (u*q+q) zc) ((u+1)*q) (edgeCell z)):=hid (by rw [Nat.add_mul,Nat.one_mul]; exact C.out)
  go_wp2
  go_roundg (gP - 1)
  case measure=>omega
  case rel=>exact ⟨u+1,by go_num,by omega,by omega,HO,b6,Z,HB.out⟩
 have aq:(a:Int)<(q:Int):=by omega
 obtain ⟨cr,ab⟩:=exx (R t i)
 obtain ⟨mv,an⟩:=exx (mulF P M m a cr)
 obtain ⟨lv,ap⟩:=exx (addF P M L.toNat mv)
 have cf:cr<q:=by rw [ab,HQ.out]; exact HS.out.lt t al i ai.out
 have ao:mv<q:=by rw [an,HQ.out]; exact HL.out.mulLt _ _
 have d8:lv<q:=by rw [ap,HQ.out]; exact HL.out.addLt _ _
 obtain ⟨rb,ro,ci,d5,r0⟩:=(a5.out.on HB.out).at ai.out
 subst ci
 have cc:(i:Int)<(N:Int):=by omega
 rw [<-ab] at r0
 have bt:Hid (inV (P ^ M) (a:Int)=a):=hid (by rw [<-HQ.out]; exact zal haq)
 have bs:Hid (inV (P ^ M) (cr:Int)=cr):=hid (by rw [<-HQ.out]; exact zal cf)
 have ba:Hid (inV (P ^ M) (mv:Int)=mv):=hid (by rw [<-HQ.out]; exact zal ao)
 have bb:Hid (inV (P ^ M) L=L.toNat):=hid (by rw [<-HQ.out]; have:=zal (q:=q) (x:=L.toNat) (by omega); rwa [show ((L.toNat:Nat):Int)=L by omega] at this)
 have b8:=hid an
 have ah:=hid ap
 have cv:=hid ab
 clear ab an ap
 have x0:=G.out.cell (i:=0) (by omega)
 have x1:=G.out.cell (i:=1) (by omega)
 have x2:=G.out.cell (i:=2) (by omega)
 replace x0:w7.cell? ⟨xb,0,none⟩=some (.int .i64 F):=x0;replace x1:w7.cell? ⟨xb,1,none⟩=some (.int .i64 L):=x1;replace x2:w7.cell? ⟨xb,2,none⟩=some (.int .i64 O):=x2
 go_upto_region 16 with fail
 go_cut [19] (fun v19 wx=>∃ yb,v19=.pointer (some ⟨yb,0,none⟩)/\w7.heap.size<=yb/\Hid (wx.rowIs yb 90 3 (fun j=>edgeCell (fun _=>(F,((lv:Nat):Int),O)) 0 j))/\Below w7.heap.size w7 wx)
 case rest =>
  obtain ⟨yb,rfl,r,o,E⟩:=hcut
  obtain ⟨w8,c5⟩:=exx wc
  subst c5
  have I:Hid (w7.heap.size<=yb):=hid r
  have K8:=hid E
  clear x0 x1 x2 r0
  have x0:w8.cell? ⟨xb,0,none⟩=some (.int .i64 F):=(zab G.out E).cell (i:=0) (by omega)
  clear E r
  obtain ⟨F1,bl⟩:∃ F1:Int,F1=if p<i then F*(q:Nat)+(a:Nat) else F:=⟨_,rfl⟩
  obtain ⟨O1,bk⟩:∃ O1:Int,O1=if (i:Int)<l then O*(q:Nat)+(a:Nat) else O:=⟨_,rfl⟩
  have ax:0<=F*(q:Int):=Int.mul_nonneg k0 (by omega)
  have aw:F*(q:Int)<=262144*256:=Int.mul_le_mul k1 (by omega) (by omega) (by omega)
  have au:0<=O*(q:Int):=Int.mul_nonneg k4 (by omega)
  have ar:O*(q:Int)<=262144*256:=Int.mul_le_mul k5 (by omega) (by omega) (by omega)
  have bc:=hid bl
  have a0:=hid bk
  clear bl bk
  go_upto_if 71 with fail
  go_cut [] (fun wx=>Hid (wx.rowIs yb 90 3 (fun j=>edgeCell (fun _=>(F1,((lv:Nat):Int),O)) 0 j))/\Below w7.heap.size w7 wx)
  case first =>
   by_cases g3:p<i
   rotate_left
   ·have g3':¬ (p:Int)<(i:Int):=by omega
    have Y:Hid (w8.rowIs yb 90 3 (fun j=>edgeCell (fun _=>(F1,((lv:Nat):Int),O)) 0 j)):=hid (by rw [bc.out,if_neg g3]; exact o.out)
    go_wp2
    go_meet
    exact ⟨Y,K8.out⟩
   have g3':(p:Int)<(i:Int):=by omega
   have c0:=qc0 o.out
   have z0:=o.out.frozen 0
   have o1:=(o.out.set 0 (.int .i64 (F*(q:Nat)+(a:Nat)))).congr (g:=fun j=>edgeCell (fun _=>(F1,((lv:Nat):Int),O)) 0 j) fun j hj=>by
    match j,hj with
    | 0,_=>rw [if_pos rfl]; show _=Value.int .i64 F1; rw [bc.out,if_pos g3]
    | 1,_=>rfl
    | 2,_=>rfl
   have kb:=K8.out.setCell (p:=⟨yb,0,none⟩) I.out (.int .i64 (F*(q:Nat)+(a:Nat)))
   have Y:=hid o1
   have K9:=hid kb
   clear o1 kb
   go_wp2
   go_meet
   exact ⟨Y,K9.out⟩
  clear o K8
  obtain ⟨o,E⟩:=hcut
  obtain ⟨w9,c4⟩:=exx wc
  subst c4
  have K8:=hid E
  clear x0
  have x2:w9.cell? ⟨xb,2,none⟩=some (.int .i64 O):=(zab G.out E).cell (i:=2) (by omega)
  clear E
  go_upto_if 81 with fail
  go_cut [] (fun wx=>Hid (wx.rowIs yb 90 3 (fun j=>edgeCell (fun _=>(F1,((lv:Nat):Int),O1)) 0 j))/\Below w7.heap.size w7 wx)
  case first =>
   by_cases g4:(i:Int)<l
   rotate_left
   ·have g4':¬ l > (i:Int):=by omega
    have Y:Hid (w9.rowIs yb 90 3 (fun j=>edgeCell (fun _=>(F1,((lv:Nat):Int),O1)) 0 j)):=hid (by rw [a0.out,if_neg g4]; exact o.out)
    go_wp2
    go_meet
    exact ⟨Y,K8.out⟩
   have g4':l > (i:Int):=by omega
   have c2:=qc2 o.out
   have z2:=o.out.frozen 2
   have o1:=(o.out.set 2 (.int .i64 (O*(q:Nat)+(a:Nat)))).congr (g:=fun j=>edgeCell (fun _=>(F1,((lv:Nat):Int),O1)) 0 j) fun j hj=>by
    match j,hj with
    | 0,_=>rfl
    | 1,_=>rfl
    | 2,_=>rw [if_pos rfl]; show _=Value.int .i64 O1; rw [a0.out,if_pos g4]
   have kb:=K8.out.setCell (p:=⟨yb,2,none⟩) I.out (.int .i64 (O*(q:Nat)+(a:Nat)))
   have Y:=hid o1
   have K9:=hid kb
   clear o1 kb
   go_wp2
   go_meet
   exact ⟨Y,K9.out⟩
  clear o K8
  obtain ⟨o,E⟩:=hcut
  obtain ⟨wd,c3⟩:=exx wc
  subst c3
  clear x2
  have d0:=qc0 o.out
  have d1:=qc1 o.out
  have d2:=qc2 o.out
  have ck:Hid (z (u*q+a)=(F1,((lv:Nat):Int),O1)):=hid (by
   rw [HZ.out u a haq,<-cu.out]
   unfold stepE
   rw [bc.out,a0.out,ah.out,b8.out,cv.out,HP.out,b9.out])
  have kb:=aly wd (Obj.cells #[Value.int .i64 F1,Value.int .i64 (lv:Nat),Value.int .i64 O1] 90)
  have ky:=onS E kb
  have ra:=World.rowIs_alloc wd #[Value.int .i64 F1,Value.int .i64 (lv:Nat),Value.int .i64 O1] 90 (fun j=>edgeCell z (u*q+a) j) (fun j hj=>by
   unfold edgeCell
   rw [ck.out]
   match j,hj with
   | 0,_=>rfl
   | 1,_=>rfl
   | 2,_=>rfl)
  have b5:=hid (C.out.on ky)
  have W:=hid (HO.out.on ky)
  have J:=hid (zab G.out ky)
  have bd:=hid (onS HB.out ky)
  have bu:Hid (∀ j,j<3->(wd.alloc (Obj.cells #[Value.int .i64 F1,Value.int .i64 (lv:Nat),Value.int .i64 O1] 90)).cell? ((⟨wd.heap.size,0,none⟩:Addr).add j)=some (edgeCell z (u*q+a) j)):=hid fun j hj=>by
   match j,hj with
   | 0,_=>exact ra.cell (i:=0) (by simp)
   | 1,_=>exact ra.cell (i:=1) (by simp)
   | 2,_=>exact ra.cell (i:=2) (by simp)
  have ay:Hid (w.heap.size<=(wd.alloc (Obj.cells #[Value.int .i64 F1,Value.int .i64 (lv:Nat),Value.int .i64 O1] 90)).heap.size):=hid bd.out.size
  have ct:Hid (u*q+a<=1048576):=hid (by
   have h1:(u+1)*q<=mm*q:=Nat.mul_le_mul_right q hum
   rw [Nat.add_mul,Nat.one_mul] at h1
   omega)
  clear kb ky ra E
  go_wp2_with (first | (at_builtin; (refine zbZ rfl (.tmp 89) (.tmp 91) rfl b5.out rfl (ad:=⟨wd.heap.size,0,none⟩) (c:=1) rfl bu.out ay.out ct.out ?_); intro v9 we o1 o2 o3))
  have b4:=hid o1
  have b3:=hid (W.out.kept o2 Z.out)
  have az:=hid (J.out.of_block (o2.block xb J.out.lt fun e=>a1.out e.symm))
  have cx:=hid (bd.out.grown o2 ay.out fun q e=>(b5.out.lt _ e).1)
  have bf:Hid ((Value.slice (some ⟨eb,eo,none⟩) mm ec).ownBlock=none∨(Value.slice (some ⟨eb,eo,none⟩) mm ec).ownBlock≠v9.ownBlock):=hid (by
   rcases Z.out with h | h
   ·exact .inl h
   refine .inr fun e=>?_
   rcases o3 with h3 | h3
   ·exact h (e.trans h3)
   ·have:=(W.out.lt _ (e.trans h3)).2
    omega)
  have b7:Hid (v9.ownBlock≠some xb):=hid fun e=>by
   rcases o3 with h3 | h3
   ·exact a1.out (h3.symm.trans e)
   have h5:=J.out.lt
   rw [h3] at e
   injection e with e
   omega
  clear o1 o2 o3 b5 W J bd bu ay d0 d1 d2 HO C Z G a1 HB ax aw au ar
  go_wp2
  go_roundg (gk - 1)
  case measure=>omega
  case rel=>exact ⟨a+1,by go_num,by omega,by omega,b3,b4,bf,az,b7,cx.out⟩
 have H:Hid (∀ X,Below w7.heap.size w7 X->X.cell? ⟨xb,0,none⟩=some (.int .i64 F)/\X.cell? ⟨xb,1,none⟩=some (.int .i64 L)/\X.cell? ⟨xb,2,none⟩=some (.int .i64 O)/\X.cell? ⟨rb,ro+i,none⟩=some (.int .i64 (cr:Nat))):=hid fun X hx=>⟨cellS hx x0,cellS hx x1,cellS hx x2,cellS hx r0⟩
 refine wp_region_held_drew (S:=fun X=>X.cell? ⟨xb,0,none⟩=some (.int .i64 F)/\X.cell? ⟨xb,1,none⟩=some (.int .i64 L)/\X.cell? ⟨xb,2,none⟩=some (.int .i64 O)/\X.cell? ⟨rb,ro+i,none⟩=some (.int .i64 (cr:Nat))) (by kernel_rfl) (H.out _ (Below.refl _ _).drew) (fun hHeld=>?_)
 obtain ⟨w8,hw,kb⟩:=dwx w7
 rw [<-hw] at hHeld ⊢;clear hw x0 x1 x2 r0
 have K8:=hid kb
 clear kb
 refine tkq 0 (h:=tkq 1 (h:=tkq 2 (h:=tkq 3 (h:=tkq 4 (h:=tkq 5 (h:=tkq 6 (h:=tkq 7 (h:=tkq 8 (h:=tkq 9 (h:=tkq 10 (h:=tkq 13 (h:=tkq 14 (h:=?_)))))))))))))
 clear hHeld
 refine rdq2 11 16 (h:=fun K hK=>?_) (h2:=fun K hK=>?_)
 focus
  go_simp
  go_wp2_with fail
  refine (zaU (a:Int) (cr:Int) (HG.out.at (onS HB.out K8.out) (onS HB.out K8.out).size)).mono ?_
  rintro e x9 ⟨rfl,kb⟩
  rw [bt.out,bs.out,<-b8.out];replace K8:=hid (onS K8.out kb);clear kb
  refine bkq hK (H.out _ K8.out) (h:=fun hHeld=>?_)
  clear hK K;clear hHeld
  refine rdq2 12 16 (h:=fun K hK=>?_) (h2:=fun K hK=>?_)
  focus
   go_simp
   go_wp2_with fail
   refine (zbJ L (mv:Int) (HG.out.at (onS HB.out K8.out) (onS HB.out K8.out).size)).mono ?_
   rintro e x10 ⟨rfl,kb⟩
   rw [bb.out,ba.out,<-ah.out];replace K8:=hid (onS K8.out kb);clear kb
   refine bkq hK (H.out _ K8.out) (h:=fun hHeld=>?_)
   clear hK K
   refine tkq 15 (h:=?_)
   clear hHeld
   refine rdq 16 (h:=fun K hK=>?_)
   go_simp
   have ra:(x10.alloc (Obj.cells #[Value.int .i64 0,Value.int .i64 0,Value.int .i64 0] 90)).rowIs x10.heap.size 90 3 (fun _=>.int .i64 0):=World.rowIs_alloc _ _ _ _ (fun j hj=>by
    match j,hj with
    | 0,_=>rfl
    | 1,_=>rfl
    | 2,_=>rfl)
   have kb:=aly x10 (Obj.cells #[Value.int .i64 0,Value.int .i64 0,Value.int .i64 0] 90)
   obtain ⟨x11,Q⟩:=exx (x10.alloc (Obj.cells #[Value.int .i64 0,Value.int .i64 0,Value.int .i64 0] 90))
   rw [<-Q] at ra kb ⊢
   obtain ⟨yb,r⟩:=exx x10.heap.size
   rw [<-r] at ra ⊢
   have I:Hid (w7.heap.size<=yb):=hid (by rw [r]; exact K8.out.size)
   have o:=hid ra
   replace K8:=hid (onS K8.out kb);clear kb Q r ra
   refine bkq hK (H.out _ K8.out) (h:=fun hHeld=>?_)
   clear hK K
  rotate_left
  focus
   go_simp
   have ra:(x9.alloc (Obj.cells #[Value.int .i64 0,Value.int .i64 0,Value.int .i64 0] 90)).rowIs x9.heap.size 90 3 (fun _=>.int .i64 0):=World.rowIs_alloc _ _ _ _ (fun j hj=>by
    match j,hj with
    | 0,_=>rfl
    | 1,_=>rfl
    | 2,_=>rfl)
   have kb:=aly x9 (Obj.cells #[Value.int .i64 0,Value.int .i64 0,Value.int .i64 0] 90)
   obtain ⟨x12,Q⟩:=exx (x9.alloc (Obj.cells #[Value.int .i64 0,Value.int .i64 0,Value.int .i64 0] 90))
   rw [<-Q] at ra kb ⊢
   obtain ⟨yb,r⟩:=exx x9.heap.size
   rw [<-r] at ra ⊢
   have I:Hid (w7.heap.size<=yb):=hid (by rw [r]; exact K8.out.size)
   have o:=hid ra
   replace K8:=hid (onS K8.out kb);clear kb Q r ra
   refine bkq hK (H.out _ K8.out) (h:=fun hHeld=>?_)
   clear hK K;clear hHeld
   refine rdq 12 (h:=fun K hK=>?_)
   go_simp
   go_wp2_with fail
   refine (zbJ L (mv:Int) (HG.out.at (onS HB.out K8.out) (onS HB.out K8.out).size)).mono ?_
   rintro e x13 ⟨rfl,kb⟩
   rw [bb.out,ba.out,<-ah.out];replace o:=hid (zab o.out kb);replace K8:=hid (onS K8.out kb);clear kb
   refine bkq hK (H.out _ K8.out) (h:=fun hHeld=>?_)
   clear hK K
   refine tkq 15 (h:=?_)
  rotate_left
 rotate_left 2
 focus
  go_simp
  have ra:(w8.alloc (Obj.cells #[Value.int .i64 0,Value.int .i64 0,Value.int .i64 0] 90)).rowIs w8.heap.size 90 3 (fun _=>.int .i64 0):=World.rowIs_alloc _ _ _ _ (fun j hj=>by
   match j,hj with
   | 0,_=>rfl
   | 1,_=>rfl
   | 2,_=>rfl)
  have kb:=aly w8 (Obj.cells #[Value.int .i64 0,Value.int .i64 0,Value.int .i64 0] 90)
  obtain ⟨x14,Q⟩:=exx (w8.alloc (Obj.cells #[Value.int .i64 0,Value.int .i64 0,Value.int .i64 0] 90))
  rw [<-Q] at ra kb ⊢
  obtain ⟨yb,r⟩:=exx w8.heap.size
  rw [<-r] at ra ⊢
  have I:Hid (w7.heap.size<=yb):=hid (by rw [r]; exact K8.out.size)
  have o:=hid ra
  replace K8:=hid (onS K8.out kb);clear kb Q r ra
  refine bkq hK (H.out _ K8.out) (h:=fun hHeld=>?_)
  clear hK K;clear hHeld
  refine rdq 11 (h:=fun K hK=>?_)
  go_simp
  go_wp2_with fail
  refine (zaU (a:Int) (cr:Int) (HG.out.at (onS HB.out K8.out) (onS HB.out K8.out).size)).mono ?_
  rintro e x15 ⟨rfl,kb⟩
  rw [bt.out,bs.out,<-b8.out];replace o:=hid (zab o.out kb);replace K8:=hid (onS K8.out kb);clear kb
  refine bkq hK (H.out _ K8.out) (h:=fun hHeld=>?_)
  clear hK K;clear hHeld
  refine rdq 12 (h:=fun K hK=>?_)
  go_simp
  go_wp2_with fail
  refine (zbJ L (mv:Int) (HG.out.at (onS HB.out K8.out) (onS HB.out K8.out).size)).mono ?_
  rintro e x16 ⟨rfl,kb⟩
  rw [bb.out,ba.out,<-ah.out];replace o:=hid (zab o.out kb);replace K8:=hid (onS K8.out kb);clear kb
  refine bkq hK (H.out _ K8.out) (h:=fun hHeld=>?_)
  clear hK K
  refine tkq 15 (h:=?_)
 rotate_left
 all_goals
  clear hHeld
  refine rdq 17 (h:=fun K hK=>?_)
  have c0:=o.out.cell (i:=0) (by omega)
  have z0:=o.out.frozen 0
  have o1:=o.out.set 0 (.int .i64 F)
  have c1:=o1.cell (i:=1) (by omega)
  rw [if_neg (by omega)] at c1
  have z1:=o1.frozen 1
  have o2:=o1.set 1 (.int .i64 (lv:Nat))
  have c2:=o2.cell (i:=2) (by omega)
  rw [if_neg (by omega),if_neg (by omega)] at c2
  have z2:=o2.frozen 2
  have o3:=o2.set 2 (.int .i64 O)
  have kb:=((K8.out.setCell (p:=⟨yb,0,none⟩) I.out (.int .i64 F)).setCell (p:=⟨yb,1,none⟩) I.out (.int .i64 (lv:Nat))).setCell (p:=⟨yb,2,none⟩) I.out (.int .i64 O)
  have cq:=hid (o3.congr (g:=fun j=>edgeCell (fun _=>(F,((lv:Nat):Int),O)) 0 j) fun j hj=>by
   match j,hj with
   | 0,_=>rfl
   | 1,_=>rfl
   | 2,_=>rfl)
  have K9:=hid kb
  clear o1 o2 o3 kb
  go_simp
  clear c0 c1 c2 z0 z1 z2
  refine bkq hK (H.out _ K9.out) (h:=fun hHeld=>?_)
  clear hK K
  refine wpAnyH_done (by kernel_rfl) ?_ _
  clear hHeld
  go_wp2_with fail
  go_meet
  exact ⟨yb,rfl,I.out,cq,K9.out⟩
end Go.Proofs.YtgekjfpapmlndaaGreat