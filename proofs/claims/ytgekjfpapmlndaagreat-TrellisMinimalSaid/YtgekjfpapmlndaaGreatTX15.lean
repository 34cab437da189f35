/- Merged texts of a claim: SortLess, SortOwn, Order, VisMem, RenameMem, RenumMem, Section. -/
import Derived.Test.YtgekjfpapmlndaaGreatTX14
namespace Go.Proofs.YtgekjfpapmlndaaGreat
set_option maxRecDepth 100000
set_option maxHeartbeats 32000000
open KA KB KC KD KE KF
open Go.RowKit
def GG (w w':World):Prop:=∃ q os,w'=Go.Sort.grow (w.drewN q) os
theorem GG.refl (w:World):GG w w:=⟨0,#[],by rw [Go.Sort.grow_empty]; rfl⟩
theorem GG.trans {a b c:World} (h:GG a b) (k:GG b c):GG a c:=by
 obtain ⟨q,os,rfl⟩:=h
 obtain ⟨q',os',rfl⟩:=k
 refine ⟨q+q',os ++ os',?_⟩
 show Go.Sort.grow (Go.Sort.grow ((a.drewN q).drewN q') os) os'=_
 rw [Go.Sort.grow_grow,World.drewN_drewN]
theorem GG.alloc {a b:World} (h:GG a b) {o:Obj}:GG a (b.alloc o):=h.trans ⟨0,#[o],by rw [Go.Sort.alloc_eq_grow]; rfl⟩
theorem GG.drew {a b:World} (h:GG a b):GG a b.drew:=h.trans ⟨1,#[],by rw [Go.Sort.grow_empty]; rfl⟩
theorem GG.below {a b:World} (h:GG a b):Below a.heap.size a b:=by
 obtain ⟨q,os,rfl⟩:=h
 exact ⟨rfl,rfl,rfl,by simp [Go.Sort.grow,World.drewN],fun k hk=>Go.Sort.heap_grow_old (a.drewN q) os hk⟩
theorem zla (a b:Int):Go.Lib.compareInt a b=cmpI a b:=rfl
theorem zlb (a b:Int) (w:World):Calls Tryz.prog 157 #[.int .i64 a,.int .i64 b] w fun e w'=>e=.returned (.int .i64 (cmpI a b))/\Below w.heap.size w w'/\GG w w' :=
 (show Calls Tryz.prog 157 _ _ _ from AnyG.cmp_Compare_int Tryz.cmpInt a b w).mono fun _ _ ⟨he,hw⟩=>⟨by rw [he,zla],by rw [hw]; exact Below.refl _ _,by rw [hw]; exact GG.refl _⟩
theorem zkq (A:Option Addr) (c:Nat) (f:Nat->Int) (w:World) (h:IntsR w w.heap.size A 2 f) :
  Calls Tryz.prog 203 #[.slice A 2 c] w fun e w'=>e=.returned (.int .i64 (orV (f 0) (f 1)))/\w'=w:=by
 obtain ⟨b,o,rfl,hb,x0⟩:=h.at (i:=0) (by omega)
 obtain ⟨_,_,e1,_,x1⟩:=h.at (i:=1) (by omega)
 injection e1 with e1; injection e1 with e1 e2; subst e1 e2
 obtain ⟨x,hx⟩:=exx (f 0)
 obtain ⟨y,hy⟩:=exx (f 1)
 rw [<-hx] at x0 ⊢;rw [<-hy] at x1 ⊢;clear hx hy h
 go_enter Tryz.func203, Tryz.ntmps203
 go_wp2
 go_loopg [5,8] 2 (fun gg ev iv wx=>∃ k:Nat,iv=.int .i64 (k:Nat)/\k<=2/\2<=k+gg/\(1<=k->x=0)/\(2<=k->y=0)/\wx=w)
 case atStart=>exact ⟨0,rfl,by omega,by omega,fun h=>absurd h (by omega),fun h=>absurd h (by omega),rfl⟩
 obtain ⟨k,rfl,hk,j,h1,h2,rfl⟩:=hrel
 have H1:=hid h1
 have H2:=hid h2
 clear h1 h2
 by_cases hk2:k=2
 ·have g:¬ (k:Int)<2:=by omega
  have hE:Hid (orV x y=0):=by
   show _=_
   unfold orV
   rw [if_pos (H1.out (by omega)),H2.out (by omega)]
  clear hk2
  go_wp2
  go_ret
  exact ⟨zan hE.out.symm,rfl⟩
 have g:(k:Int)<2:=by omega
 have l:(0:Int)<=(k:Int):=by omega
 by_cases hk1:k=0
 ·have xk:wr.cell? ⟨b,o+k,none⟩=some (.int .i64 x):=by rw [hk1]; exact x0
  by_cases hx:x=0
  ·have d:(x != 0)=false:=by simp [hx]
   have a:(x == 0)=true:=by simp [hx]
   have HX:=hid hx
   have HK:=hid hk1
   clear hx x0 x1 hk1 hk2
   go_wp2
   go_roundg (gk - 1)
   case measure=>omega
   case rel=>exact ⟨k+1,by go_num,by omega,by omega,fun _=>HX.out,fun h=>absurd h (by have:=HK.out; omega),rfl⟩
  have d:(x != 0)=true:=by simp [hx]
  have a:(x == 0)=false:=by simp [hx]
  have hE:Hid (orV x y=x):=if_neg hx
  clear hx x0 x1 hk1 hk2
  go_wp2
  go_ret
  exact ⟨zan hE.out.symm,rfl⟩
 have xk:wr.cell? ⟨b,o+k,none⟩=some (.int .i64 y):=by rw [show k=1 by omega]; exact x1
 have hx:x=0:=H1.out (by omega)
 by_cases hy:y=0
 ·have d:(y != 0)=false:=by simp [hy]
  have a:(y == 0)=true:=by simp [hy]
  have HX:=hid hx
  have HY:=hid hy
  clear hx hy x0 x1 hk1 hk2
  go_wp2
  go_roundg (gk - 1)
  case measure=>omega
  case rel=>exact ⟨k+1,by go_num,by omega,by omega,fun _=>HX.out,fun _=>HY.out,rfl⟩
 have d:(y != 0)=true:=by simp [hy]
 have a:(y == 0)=false:=by simp [hy]
 have hE:Hid (orV x y=y):=if_pos hx
 clear hx hy x0 x1 hk1 hk2
 go_wp2
 go_ret
 exact ⟨zan hE.out.symm,rfl⟩
theorem zi3 (A:Option Addr) (c:Nat) (f:Nat->Int) (w:World) (h:IntsR w w.heap.size A 2 f) :
  Calls Tryz.prog 203 #[.slice A 2 c] w fun e w'=>e=.returned (.int .i64 (orV (f 0) (f 1)))/\Below w.heap.size w w'/\GG w w' :=
 (zkq A c f w h).mono fun _ _ ⟨he,hw⟩=>⟨he,by rw [hw]; exact Below.refl _ _,by rw [hw]; exact GG.refl _⟩
theorem zjz (f l t f' l' t':Int) (w:World) :
  Calls Tryz.prog 151 #[.agg #[.int .i64 f,.int .i64 l,.int .i64 t],.agg #[.int .i64 f',.int .i64 l',.int .i64 t']] w fun e w'=>e=.returned (.int .i64 (lessV f l f' l'))/\Below w.heap.size w w'/\GG w w':=by
 go_enter Tryz.func151, Tryz.ntmps151
 go_upto_region 1 with fail
 obtain ⟨B1,c⟩:=exx ((Obj.cells #[.int .i64 f,.int .i64 l,.int .i64 t] 90))
 obtain ⟨B2,b⟩:=exx ((Obj.cells #[.int .i64 f',.int .i64 l',.int .i64 t'] 90))
 rw [<-c,<-b]
 have a:Below (w.heap.size+1) (w.alloc B1) ((w.alloc B1).alloc B2):=(Below.refl _ _).alloc (by simp) _
 have hW:=zaJ a
 have hG:GG w ((w.alloc B1).alloc B2):=(GG.refl w).alloc.alloc
 have p0:((w.alloc B1).alloc B2).cell? ⟨w.heap.size,0,none⟩=some (.int .i64 f):=by subst c; exact tbox a rfl
 have p1:((w.alloc B1).alloc B2).cell? ⟨w.heap.size,1,none⟩=some (.int .i64 l):=by subst c; exact tbox a rfl
 have p2:((w.alloc B1).alloc B2).cell? ⟨w.heap.size+1,0,none⟩=some (.int .i64 f'):=by subst b; simp
 have p3:((w.alloc B1).alloc B2).cell? ⟨w.heap.size+1,1,none⟩=some (.int .i64 l'):=by subst b; simp
 obtain ⟨w1,d⟩:∃ W,W=(w.alloc B1).alloc B2:=⟨_,rfl⟩
 rw [<-d] at hW hG p0 p1 p2 p3 ⊢;clear a d c b
 refine wp_region_held_drew (S:=fun w'=>w'.cell? ⟨w.heap.size,0,none⟩=some (.int .i64 f)/\w'.cell? ⟨w.heap.size,1,none⟩=some (.int .i64 l)/\w'.cell? ⟨w.heap.size+1,0,none⟩=some (.int .i64 f')/\w'.cell? ⟨w.heap.size+1,1,none⟩=some (.int .i64 l')) (by kernel_rfl) ⟨cellS (Below.refl _ _).drew p0,cellS (Below.refl _ _).drew p1,cellS (Below.refl _ _).drew p2,cellS (Below.refl _ _).drew p3⟩ (fun hHeld=>?_)
 obtain ⟨w2,hw,kb⟩:=dwx w1
 have kg:GG w1 w2:=by rw [hw]; exact (GG.refl _).drew
 rw [<-hw] at hHeld ⊢;clear hw;replace hW:=onS hW kb;replace p0:=cellS kb p0;replace p1:=cellS kb p1;replace p2:=cellS kb p2;replace p3:=cellS kb p3;clear kb;replace hG:=hG.trans kg;clear kg
 refine tkq 0 (h:=tkq 1 (h:=tkq 2 (h:=tkq 3 (h:=tkq 5 (h:=tkq 6 (h:=tkq 7 (h:=tkq 8 (h:=?_))))))))
 refine rdq 4 (h:=fun K hK=>?_)
 go_simp
 go_wp2_with fail
 refine (zlb f f' w2).mono ?_
 rintro e w3 ⟨rfl,kb,kg⟩
 replace hW:=onS hW kb;replace p0:=cellS kb p0;replace p1:=cellS kb p1;replace p2:=cellS kb p2;replace p3:=cellS kb p3;clear kb;replace hG:=hG.trans kg;clear kg
 refine bkq hK ⟨p0,p1,p2,p3⟩ (h:=fun hHeld=>?_)
 clear hK K
 refine rdq 9 (h:=fun K hK=>?_)
 go_simp
 go_wp2_with fail
 refine (zlb l l' w3).mono ?_
 rintro e w4 ⟨rfl,kb,kg⟩
 replace hW:=onS hW kb;replace p0:=cellS kb p0;replace p1:=cellS kb p1;replace p2:=cellS kb p2;replace p3:=cellS kb p3;clear kb;replace hG:=hG.trans kg;clear kg
 refine bkq hK ⟨p0,p1,p2,p3⟩ (h:=fun hHeld=>?_)
 clear hK K
 refine rdq 10 (h:=fun K hK=>?_)
 go_simp
 obtain ⟨w5,hw⟩:=exx (World.alloc w4 (Obj.cells #[.int .i64 (cmpI f f'),.int .i64 (cmpI l l')] 3))
 have kb:=alx hw
 have kg:GG w4 w5:=by rw [hw]; exact (GG.refl _).alloc
 have hi:IntsR w5 w5.heap.size (some ⟨w4.heap.size,0,none⟩) 2 (fun i=>if i=0 then cmpI f f' else cmpI l l'):=by
  rw [hw]
  intro i hi
  refine ⟨_,0,rfl,by simp,fun j hj=>?_⟩
  obtain rfl:j=0:=by omega
  match i,hi with
  | 0,_=>simp
  | 1,_=>simp
 rw [<-hw];clear hw
 obtain ⟨nb,g⟩:=exx w4.heap.size
 rw [<-g] at hi ⊢;clear g;replace hW:=onS hW kb;replace p0:=cellS kb p0;replace p1:=cellS kb p1;replace p2:=cellS kb p2;replace p3:=cellS kb p3;clear kb;replace hG:=hG.trans kg;clear kg
 refine bkq hK ⟨p0,p1,p2,p3⟩ (h:=fun hHeld=>?_)
 clear hK K
 refine rdq 11 (h:=fun K hK=>?_)
 go_simp
 go_wp2_with fail
 refine ((show Calls _ _ _ _ (fun e w'=>e=.returned (.int .i64 (lessV f l f' l'))/\Below w5.heap.size w5 w'/\GG w5 w') from zi3 (some ⟨nb,0,none⟩) 2 _ w5 hi)).mono ?_
 rintro e w6 ⟨rfl,kb,kg⟩
 replace hW:=onS hW kb;replace p0:=cellS kb p0;replace p1:=cellS kb p1;replace p2:=cellS kb p2;replace p3:=cellS kb p3;replace hi:=hi.on kb;clear kb;replace hG:=hG.trans kg;clear kg
 refine bkq hK ⟨p0,p1,p2,p3⟩ (h:=fun hHeld=>?_)
 clear hK K
 refine tkq 12 (h:=?_)
 refine wpAnyH_done (by kernel_rfl) ?_ _
 clear hHeld
 go_wp2_with fail
 go_ret
 exact ⟨rfl,hW,hG⟩
section
variable {α:Type} [Inhabited α] {w:World} {base:Nat} {e:TypeId} {s n g o cap:Nat} {f f':Nat->Nat->Value}
theorem zgC (enc:α->Value) (w:World) (m g o:Nat) (d:Array α) (os:Array Obj) {cur:Array Value} {e:TypeId} {fr:Nat × Nat} (hg:w.heap[g]?=some (.cells cur e fr)) :
  (sortWorld enc w g o m d os).heap[g]?=some (.cells (Go.Sort.putCells enc o d cur) e fr):=by
 have a:=(Array.getElem?_eq_some_iff.1 hg).1
 unfold sortWorld
 rw [Go.Sort.heap_grow_old _ _ (by rw [Go.Sort.size_putRow]; exact a)]
 show (w.heap.modify g (Go.Sort.onCells (Go.Sort.putCells enc o d)))[g]?=_
 rw [Array.getElem?_modify,if_pos rfl,hg]
 rfl
theorem zbG (enc:α->Value) (w:World) (m g o:Nat) (d:Array α) (os:Array Obj):w.grownBy (sortWorld enc w g o m d os) (some g):=by
 refine ⟨rfl,rfl,rfl,by unfold sortWorld; rw [Go.Sort.size_grow,Go.Sort.size_putRow,Go.Sort.heap_ahead]; omega,fun k hk hne=>?_⟩
 unfold sortWorld
 rw [Go.Sort.heap_grow_old _ _ (by rw [Go.Sort.size_putRow]; exact hk)]
 show (w.heap.modify g _)[k]?=_
 rw [Array.getElem?_modify,if_neg (fun h=>hne (by rw [h]))]
theorem zeT (enc:α->Value) (d:Array α) (m:Nat) (os:Array Obj) (h:Own w base e s (.slice (some ⟨g,o,none⟩) n cap) n f) (hd:d.size=n*s) (hf:∀ i,i<n->∀ j,j<s->enc d[i*s+j]! =f' i j) :
  Own (sortWorld enc w g o m d os) base e s (.slice (some ⟨g,o,none⟩) n cap) n f':=by
 rcases h with ⟨h,_⟩ | ⟨g',o',cap',cur,h1,hb,hg,hc,hm,h6,h7⟩
 ·cases h
 injection h1 with h1 _ h2
 injection h1 with h1
 injection h1 with h1 h3
 subst h1 h2 h3
 refine .inr ⟨g,o,cap,_,rfl,hb,zgC enc w m g o d os hg,hc,hm,by simpa [Go.Sort.putCells] using h6,fun i hi j hj=>?_⟩
 have b:i*s+j<n*s:=by
  have h1:(i+1)*s<=n*s:=Nat.mul_le_mul_right _ hi
  rw [Nat.add_mul,Nat.one_mul] at h1
  omega
 have a:o+i*s+j<cur.size:=by
  have h1:n*s<=cap*s:=Nat.mul_le_mul_right _ hc
  omega
 simp only [Go.Sort.putCells,Array.getElem?_mapIdx]
 rw [Array.getElem?_eq_getElem a,Option.map_some,if_pos ⟨by omega,by omega⟩,show o+i*s+j - o=i*s+j by omega,hf i hi j hj]
theorem zf6 (enc:α->Value) (d:Array α) (h:Own w base e s (.slice (some ⟨g,o,none⟩) n cap) n f) (hs:0<s) (hn:0<n) (hd:d.size=n*s) (hf:∀ i,i<n->∀ j,j<s->enc d[i*s+j]! =f i j) :
  Go.Sort.Holds enc w g o d:=by
 intro t ht
 obtain ⟨g',o',c',h1,_,_,_,_,hc⟩:=h.form hn
 injection h1 with h1 _ h2
 injection h1 with h1
 injection h1 with h1 h3
 subst h1 h2 h3
 have h1:t / s<n:=Nat.div_lt_of_lt_mul (by rw [Nat.mul_comm]; omega)
 have h2:t % s<s:=Nat.mod_lt _ hs
 have h3:=hc _ h1 _ h2
 have h4:t / s*s+t % s=t:=by rw [Nat.mul_comm]; exact Nat.div_add_mod t s
 rw [Nat.add_assoc,h4,<-hf _ h1 _ h2,h4] at h3
 exact ⟨h3,h.frozen _⟩
end
theorem zds {α:Type} [Inhabited α] {d d':Array α} (h:Go.Sort.PermIn 0 d.size d d'):d'.toList.Perm d.toList:=by
 obtain ⟨h1,_,h3⟩:=h
 have e1:d'.extract 0 d.size=d':=by rw [<-h1]; simp
 have e2:d.extract 0 d.size=d:=by simp
 rw [e1,e2] at h3
 exact h3
def CmpN (g:Nat) (cb:Array Value) (n:Nat) (cf:Nat->Nat->Int) (w:World) (row:Option Nat):Prop :=
 ∀ W,w.grownBy W row->∀ u v,u<n->v<n->Calls Tryz.prog g (#[.int .i64 (u:Nat),.int .i64 (v:Nat)] ++ cb) W fun e w'=>e=.returned (.int .i64 (cf u v))/\GG W w'
def encN (n:Nat) (x:Fin n):Value:=.int .i64 (x.val:Nat)
theorem zfw (g:Nat) (cb:Array Value) (n:Nat) (cf:Nat->Nat->Int) (key:Nat->Nat) (w:World) (base:Nat) (v:Value)
  (eg:∀ args w,(callFunc g args).run Tryz.prog w=.ok (.enter g args) w) (hcmp:CmpN g cb n cf w v.ownBlock) (hlt:∀ u v,u<n->v<n->(cf u v<0↔key u<key v))
  (h:Own w base 3 1 v n (fun i _=>.int .i64 (i:Nat))) (hn:0<n) (hsz:n<=1048576) :
  Calls Tryz.prog 156 #[v,.func (.func g) #[] cb] w fun e w'=>e=.returned (.tuple #[]) /\
   ∃ l:List Nat,l.Perm (List.range n)/\(∀ p q,p<q->q<n->key (l.getD p 0)<=key (l.getD q 0))/\Own w' base 3 1 v n (fun i _=>.int .i64 (l.getD i 0:Nat))/\w.grownBy w' v.ownBlock:=by
 obtain ⟨blk,off,cap,rfl,_,hb,_⟩:=h.form hn
 haveI:Inhabited (Fin n):=⟨⟨0,hn⟩⟩
 have o:∀ i (hi:i<n),((Array.ofFn fun i:Fin n=>i)[i]!:Fin n)=⟨i,hi⟩:=fun i hi=>by
  rw [getElem!_pos _ i (by simpa using hi)]
  simp
 have b:(Array.ofFn fun i:Fin n=>i).size=n:=by simp
 have a:(Array.ofFn fun i:Fin n=>i).toList.map (·.val)=List.range n:=by
  apply List.ext_getElem (by simp)
  intro i h1 h2
  simp
 obtain ⟨d,hd⟩:∃ d:Array (Fin n),d=Array.ofFn fun i=>i:=⟨_,rfl⟩
 rw [<-hd] at o b a
 have hO:Go.Sort.SWO (ltOf fun x y:Fin n=>cf x.val y.val):=by
  have hl:∀ x y:Fin n,ltOf (fun x y:Fin n=>cf x.val y.val) x y=decide (key x.val<key y.val):=fun x y=>by
   unfold ltOf
   exact decide_eq_decide.2 (hlt x.val y.val x.2 y.2)
  exact ⟨fun x=>by rw [hl]; simp,fun x y z h1 h2=>by rw [hl] at *; simp at *; omega,fun x y z h1 h2=>by rw [hl] at *; simp at *; omega⟩
 have hH:Go.Sort.Holds (encN n) w blk off d:=zf6 (encN n) d h (by omega) hn (by rw [b]; omega) fun i hi j hj=>by
  obtain rfl:j=0:=by omega
  rw [show i*1+0=i by omega,o i hi]
  rfl
 have hc:CmpLays1 Tryz.prog g cb (encN n) (fun x y:Fin n=>cf x.val y.val) blk off d.size w:=fun m os dk _ x y =>
  hcmp _ (zbG (encN n) w m blk off dk os) x.val y.val x.2 y.2
 have c:=Any.slices_SortFunc Tryz.sortInts (encN n) (fun _=>rfl) (fun x y:Fin n=>cf x.val y.val) hO g cb blk off cap d w eg hc hH hb (by rw [b]; omega)
 rw [b] at c
 refine Calls.mono (show Calls Tryz.prog 156 _ _ _ from c) ?_
 rintro e w' ⟨rfl,d',m,os,hp,k,rfl⟩
 refine ⟨rfl,d'.toList.map (·.val),?_,?_,?_,zbG (encN n) w m blk off d' os⟩
 ·rw [<-a]
  exact (zds (by rw [b]; exact hp)).map _
 ·intro p q hpq hq
  have r:d'.size=n:=by have:=hp.1; omega
  have h1:=k p q (by omega) hpq hq
  have e1:∀ i,i<n->(d'.toList.map (·.val)).getD i 0=(d'[i]!:Fin n).val:=fun i hi=>by
   rw [List.getD_eq_getElem?_getD,List.getElem?_map,Array.getElem?_toList,getElem!_pos d' i (by omega),Array.getElem?_eq_getElem (by omega)]
   rfl
  rw [e1 p (by omega),e1 q hq]
  have h2:¬ cf (d'[q]!:Fin n).val (d'[p]!:Fin n).val<0:=by simpa [ltOf] using h1
  rw [hlt _ _ (Fin.isLt _) (Fin.isLt _)] at h2
  omega
 have r:d'.size=n:=by have:=hp.1; omega
 refine zeT (encN n) d' m os h (by omega) fun i hi j hj=>?_
 obtain rfl:j=0:=by omega
 rw [show i*1+0=i by omega,List.getD_eq_getElem?_getD,List.getElem?_map,Array.getElem?_toList,getElem!_pos d' i (by omega),Array.getElem?_eq_getElem (by omega)]
 rfl
def encE (x:Int × Int × Int):List Value:=[.int .i64 x.1,.int .i64 x.2.1,.int .i64 x.2.2]
theorem zi4 (x y:Int × Int × Int):lessV x.1 x.2.1 y.1 y.2.1<0↔ltE x y:=zcn
theorem zcR (n:Nat) (x:Nat->Int × Int × Int) (w:World) (base:Nat) (v:Value)
  (h:Own w base 90 3 v n (edgeCell x)) (hn:0<n) (hsz:n<=1048576) :
  Calls Tryz.prog 150 #[v,.func (.func 151) #[] #[]] w fun e w'=>e=.returned (.tuple #[]) /\
   ∃ y:Nat->Int × Int × Int,((List.range n).map y).Perm ((List.range n).map x)/\(∀ p q,p<q->q<n->¬ ltE (y q) (y p))/\Own w' base 90 3 v n (edgeCell y)/\w.grownBy w' v.ownBlock:=by
 obtain ⟨blk,off,cap,rfl,_,hb,_⟩:=h.form hn
 have eg:∀ args w,(callFunc 151 args).run Tryz.prog w=.ok (.enter 151 args) w:=enters_of Tryz.func151 (by kernel_rfl) rfl
 obtain ⟨d,hd⟩:∃ d:Array (Int × Int × Int),d=((List.range n).map x).toArray:=⟨_,rfl⟩
 have a:d.size=n:=by rw [hd]; simp
 have o:∀ i,i<n->d[i]! =x i:=fun i hi=>by
  rw [getElem!_pos d i (by omega)]
  simp [hd]
 have hO:Go.Sort.SWO (ltOf fun x y:Int × Int × Int=>lessV x.1 x.2.1 y.1 y.2.1):=by
  have hl:∀ x y:Int × Int × Int,ltOf (fun x y:Int × Int × Int=>lessV x.1 x.2.1 y.1 y.2.1) x y=decide (x.1<y.1∨x.1=y.1/\x.2.1<y.2.1):=fun x y=>by
   unfold ltOf
   exact decide_eq_decide.2 zcn
  exact ⟨fun x=>by rw [hl]; simp,fun x y z h1 h2=>by rw [hl] at *; simp at *; omega,fun x y z h1 h2=>by rw [hl] at *; simp at *; omega⟩
 have l:∀ (d:Array (Int × Int × Int)) (y:Nat->Int × Int × Int),d.size=n->(∀ i,i<n->d[i]! =y i)->∀ i,i<n->∀ j,j<3->(Go.Sort.flatK encE 3 d)[i*3+j]! =edgeCell y i j:=fun d y hs hy i hi j hj=>by
  rw [Go.Sort.get_flatK encE 3 d _ (by omega),show (i*3+j) / 3=i by omega,show (i*3+j) % 3=j by omega,hy i hi]
  match j,hj with
  | 0,_=>rfl
  | 1,_=>rfl
  | 2,_=>rfl
 have hH:Go.Sort.HoldsK encE 3 w blk off d:=zf6 id (Go.Sort.flatK encE 3 d) h (by omega) hn (by simp [a]) (l d x a o)
 have hc:CmpLays Tryz.prog 151 #[] encE 3 (fun x y:Int × Int × Int=>lessV x.1 x.2.1 y.1 y.2.1) blk off d.size w:=fun m os dk _ x y =>
  (zjz x.1 x.2.1 x.2.2 y.1 y.2.1 y.2.2 _).mono fun _ _ ⟨he,_,hg⟩=>⟨he,hg⟩
 have b:=AnyQ.slices_SortFunc Tryz.sortEdges 3 Tryz.isAgg90 Tryz.sizeOf90 encE (fun _=>rfl) (fun x v hv=>by simp [encE] at hv; rcases hv with rfl | rfl | rfl <;> rfl) (fun x y:Int × Int × Int=>lessV x.1 x.2.1 y.1 y.2.1) hO 151 #[] blk off cap d w eg hc hH hb (by rw [a]; omega)
 rw [a] at b
 refine Calls.mono (show Calls Tryz.prog 150 _ _ _ from b) ?_
 rintro e w' ⟨rfl,d',m,os,hp,c,rfl⟩
 have g:d'.size=n:=by have:=hp.1; omega
 have k:(List.range n).map (fun i=>d'[i]!)=d'.toList:=by
  apply List.ext_getElem (by simp [g])
  intro i h1 h2
  have hi:i<d'.size:=by simpa using h2
  simp [getElem!_pos d' i hi]
 refine ⟨rfl,fun i=>d'[i]!,?_,?_,?_,zbG id w m blk off _ os⟩
 ·rw [k]
  have:=zds (d:=d) (d':=d') (by rw [a]; exact hp)
  rw [hd] at this
  exact this
 ·intro p q hpq hq hlt
  have h1:=c p q (by omega) hpq hq
  have h2:¬ ltE (d'[q]!) (d'[p]!):=by
   rw [<-zi4]
   simpa [ltOf] using h1
  exact h2 hlt
 ·exact zeT id (Go.Sort.flatK encE 3 d') m os h (by simp [g]) (l d' _ g fun _ _=>rfl)
theorem zf7 {l:List Nat} (h:l.Nodup) {i j:Nat} (hi:i<l.length) (hj:j<l.length) (e:l[i]=l[j]):i=j:=by
 have h1:=List.pairwise_iff_getElem.1 h
 rcases Nat.lt_trichotomy i j with h2 | h2 | h2
 ·exact absurd e (h1 i j hi hj h2)
 ·exact h2
 ·exact absurd e.symm (h1 j i hj hi h2)
def posIn (l:List Nat):Nat->Nat->Nat
 | 0,_=>0
 | k+1,u=>if l.getD k 0=u then k else posIn l k u
theorem zkr {l:List Nat} (hn:l.Nodup) {p:Nat}:∀ {k:Nat},p<k->k<=l.length->posIn l k (l.getD p 0)=p:=by
 intro k
 induction k with
 | zero=>intro h; omega
 | succ k ih =>
  intro hp hk
  unfold posIn
  by_cases e:l.getD k 0=l.getD p 0
  ·rw [if_pos e]
   rw [List.getD_eq_getElem?_getD,List.getD_eq_getElem?_getD,List.getElem?_eq_getElem (by omega),List.getElem?_eq_getElem (by omega)] at e
   exact zf7 hn (by omega) (by omega) e
  ·rw [if_neg e]
   exact ih (by
    by_cases h:p=k
    ·subst h; exact absurd rfl e
    ·omega) (by omega)
theorem zhV {key:Nat->Nat} {n:Nat} {l:List Nat} (hp:l.Perm (List.range n)) (hs:∀ p q,p<q->q<n->key (l.getD p 0)<=key (l.getD q 0)) (hk:∀ a b,a<n->b<n->key a=key b->a=b) {u:Nat} (hu:u<n):posIn l n u=rankOf key n u:=by
 have j:l.length=n:=by have:=hp.length_eq; simpa using this
 have f:l.Nodup:=hp.nodup_iff.2 List.nodup_range
 have c:u ∈ l:=hp.mem_iff.2 (List.mem_range.2 hu)
 obtain ⟨p,d,i⟩:=List.getElem_of_mem c
 have hg:∀ q (h:q<l.length),l.getD q 0=l[q]:=fun q h=>by rw [List.getD_eq_getElem?_getD,List.getElem?_eq_getElem h]; rfl
 have g:∀ q,q<n->l.getD q 0<n:=fun q hq=>by
  rw [hg q (by omega)]
  exact List.mem_range.1 (hp.mem_iff.1 (List.getElem_mem _))
 have e:l.getD p 0=u:=by rw [hg p d,i]
 have h1:=zdq (k:=key) hp (fun p q hpq hq=>by
  have h1:=hs p q hpq (by omega)
  rcases Nat.lt_or_ge (key (l.getD p 0)) (key (l.getD q 0)) with h2 | h2
  ·exact h2
  have h3:=hk _ _ (g p (by omega)) (g q (by omega)) (by omega)
  rw [hg p (by omega),hg q (by omega)] at h3
  exact absurd (zf7 f (by omega) (by omega) h3) (by omega)) d
 rw [<-e,h1]
 exact zkr f (by omega) (by omega)
theorem zks (n:Nat) (w:World) (hn:n<=1048576) :
  Calls Tryz.prog 132 #[.int .i64 0,.int .i64 (n:Nat)] w fun e w'=>Below w.heap.size w w'/\∃ v,e=.returned v/\Own w' w.heap.size 3 1 v n (fun i _=>.int .i64 (i:Nat)):=by
 have H0:Hid (Own w w.heap.size 3 1 (.slice none 0 0) 0 (fun i _=>.int .i64 (i:Nat))):=Own.nil _ _ _ _ _
 go_enter Tryz.func132, Tryz.ntmps132
 go_wp2
 obtain ⟨n1,b⟩:∃ x:Value,x=.slice none 0 0:=⟨_,rfl⟩
 rw [<-b] at H0 ⊢;clear b
 go_loopg [5,6] n (fun gg sv iv wx=>∃ k:Nat,iv=.int .i64 (k:Nat)/\k<=n/\n<=k+gg/\Hid (Own wx w.heap.size 3 1 sv k (fun i _=>.int .i64 (i:Nat)))/\Below w.heap.size w wx)
 case atStart=>exact ⟨0,rfl,by omega,by omega,H0,Below.refl _ _⟩
 clear H0
 obtain ⟨k,rfl,hk,p,HO,hB⟩:=hrel
 by_cases hlt:k<n
 rotate_left
 ·have a:¬ (k:Int)<(n:Int):=by omega
  obtain rfl:k=n:=by omega
  have HB:=hid hB
  clear hB
  go_wp2
  go_ret
  exact ⟨HB.out,_,rfl,HO.out⟩
 have a:(k:Int)<(n:Int):=by omega
 have HZ:=hid hB.size
 have kb:=aly wr (Obj.cells #[Value.int .i64 (k:Nat)] 3)
 have h:=hid (onS hB kb)
 have g:=hid (HO.out.on kb)
 have m:Hid ((wr.alloc (Obj.cells #[Value.int .i64 (k:Nat)] 3)).cell? ⟨wr.heap.size,0,none⟩=some (.int .i64 (k:Nat))):=by show _=_; simp
 have d:=hid h.out.size
 have l:Hid (k<=1048576):=by show _<=_; omega
 clear kb hB
 go_wp2_with (first | (at_builtin; (refine za3 rfl (.tmp 13) (.tmp 15) rfl (f:=fun i=>(i:Nat)) g.out rfl (ad:=⟨wr.heap.size,0,none⟩) (c:=1) rfl m.out d.out l.out ?_); intro v17 w17 o1 o2 o3))
 have j:=hid o1
 have o:=hid (h.out.grown o2 d.out fun q e=>(Own.lt g.out q e).1)
 clear o1 o2 o3
 go_wp2
 go_roundg (gk - 1)
 case measure=>omega
 case rel=>exact ⟨k+1,by go_num,by omega,by omega,j,o.out⟩
def eRow (x:Nat->Int × Int × Int) (k:Nat):Value:=edgeCell x (k / 3) (k % 3)
theorem zhW {w:World} {b n:Nat} {t:TypeId} {x:Nat->Int × Int × Int} (h:w.rowIs b t (n*3) (eRow x)) {u:Nat} (hu:u<n) :
  w.cell? ⟨b,u*3,none⟩=some (.int .i64 (x u).1)/\w.cell? ⟨b,u*3+1,none⟩=some (.int .i64 (x u).2.1)/\w.cell? ⟨b,u*3+2,none⟩=some (.int .i64 (x u).2.2):=by
 have h0:=h.cell (i:=u*3) (by omega)
 have h1:=h.cell (i:=u*3+1) (by omega)
 have h2:=h.cell (i:=u*3+2) (by omega)
 unfold eRow at h0 h1 h2
 rw [show u*3 / 3=u by omega,show u*3 % 3=0 by omega] at h0
 rw [show (u*3+1) / 3=u by omega,show (u*3+1) % 3=1 by omega] at h1
 rw [show (u*3+2) / 3=u by omega,show (u*3+2) % 3=2 by omega] at h2
 exact ⟨h0,h1,h2⟩
theorem zjA (f l t f' l' t':Int) (W:World) :
  Calls Tryz.prog 151 #[.agg #[.int .i64 f,.int .i64 l,.int .i64 t],.agg #[.int .i64 f',.int .i64 l',.int .i64 t']] W fun e w'=>e=.returned (.int .i64 (lessV f l f' l'))/\∃ q os',w'=Go.Sort.grow (W.drewN q) os' :=
 (zjz f l t f' l' t' W).mono fun _ _ ⟨he,_,hg⟩=>⟨he,hg⟩
theorem zfx (bx lb n c:Nat) (x:Nat->Int × Int × Int) (W:World) (p:W.cell? ⟨bx,0,none⟩=some (.slice (some ⟨lb,0,none⟩) n c)) (hx:W.rowIs lb 90 (n*3) (eRow x)) (u v:Nat) (hu:u<n) (hv:v<n) :
  Calls Tryz.prog 152 #[.int .i64 (u:Nat),.int .i64 (v:Nat),.pointer (some ⟨bx,0,none⟩)] W fun e w'=>e=.returned (.int .i64 (lessV (x u).1 (x u).2.1 (x v).1 (x v).2.1))/\GG W w':=by
 have a:=World.block_lt_of_cell? W _ p
 obtain ⟨u0,u1,u2⟩:=zhW hx hu
 obtain ⟨v0,v1,v2⟩:=zhW hx hv
 have q:=fun k os=>_root_.Go.cell_grown a p k os
 have a0:=fun k os=>_root_.Go.cell_grown (World.block_lt_of_cell? W _ u0) u0 k os
 have a1:=fun k os=>_root_.Go.cell_grown (World.block_lt_of_cell? W _ u1) u1 k os
 have a2:=fun k os=>_root_.Go.cell_grown (World.block_lt_of_cell? W _ u2) u2 k os
 have b0:=fun k os=>_root_.Go.cell_grown (World.block_lt_of_cell? W _ v0) v0 k os
 have b1:=fun k os=>_root_.Go.cell_grown (World.block_lt_of_cell? W _ v1) v1 k os
 have b2:=fun k os=>_root_.Go.cell_grown (World.block_lt_of_cell? W _ v2) v2 k os
 have d:(u:Int)<(n:Int):=by omega
 have b:(v:Int)<(n:Int):=by omega
 have mixed:Tryz.prog.follows .mixedOrders=true:=by kernel_rfl
 have hc:=fun W=>zjA (x u).1 (x u).2.1 (x u).2.2 (x v).1 (x v).2.1 (x v).2.2 W
 clear p hx u0 u1 u2 v0 v1 v2 a hu hv
 generalize (x u).1=f at *
 generalize (x u).2.1=l at *
 generalize (x u).2.2=t at *
 generalize (x v).1=f' at *
 generalize (x v).2.1=l' at *
 generalize (x v).2.2=t' at *
 generalize lessV f l f' l'=r at *
 go_enter Tryz.func152, Tryz.ntmps152
 go_upto_region 1 with fail
 go_quiet_grown (first | (go_at_call 151; refine Calls.grown_of (hc _)))
 go_wp2_with fail
 go_ret
 exact ⟨rfl,_,_,rfl⟩
def CmpB (bx n:Nat) (cf:Nat->Nat->Int) (w:World):Prop :=
 ∀ W,Below w.heap.size w W->∀ u v,u<n->v<n->Calls Tryz.prog 152 #[.int .i64 (u:Nat),.int .i64 (v:Nat),.pointer (some ⟨bx,0,none⟩)] W fun e w'=>e=.returned (.int .i64 (cf u v))/\GG W w'
theorem zhX (bx n:Nat) (cf:Nat->Nat->Int) (key:Nat->Nat) (w:World) (hc:CmpB bx n cf w) (hlt:∀ u v,u<n->v<n->(cf u v<0↔key u<key v)) (hk:∀ a b,a<n->b<n->key a=key b->a=b) (hn:0<n) (hn2:n<=1048576) :
  Calls Tryz.prog 81 #[.int .i64 (n:Nat),.func (.func 152) #[] #[.pointer (some ⟨bx,0,none⟩)]] w fun e w' =>
   ∃ go,e=.returned (.slice (some ⟨go,0,none⟩) n n)/\w'.rowIs go 3 n (fun u=>.int .i64 (rankOf key n u:Nat))/\w.heap.size<=go/\Below w.heap.size w w':=by
 have eg:∀ args w,(callFunc 152 args).run Tryz.prog w=.ok (.enter 152 args) w:=enters_of Tryz.func152 (by kernel_rfl) rfl
 have HC:=hid hc
 have S:=hid hlt
 have HK:=hid hk
 have T:=hid eg
 clear hc hlt hk eg
 go_enter Tryz.func81, Tryz.ntmps81
 go_wp2_with fail
 refine (zks n w hn2).mono ?_
 rintro e w1 ⟨hB,v,rfl,hv⟩
 obtain ⟨lb,lo,lc,rfl,X,z,_⟩:=hv.form hn
 go_wp2_with fail
 refine (zfw 152 #[.pointer (some ⟨bx,0,none⟩)] n cf key w1 w.heap.size _ T.out (fun W hg u v hu hv2=>HC.out W (hB.grown hg hB.size (fun k e=>(Own.lt hv k e).1)) u v hu hv2) S.out hv hn hn2).mono ?_
 rintro e w2 ⟨rfl,l,o,I,B,J⟩
 have C:Below w.heap.size w w2:=hB.grown J hB.size (fun k e=>(Own.lt hv k e).1)
 have y:l.length=n:=by have:=o.length_eq; simpa using this
 have d:∀ i,i<n->l.getD i 0<n:=fun i hi=>by
  rw [List.getD_eq_getElem?_getD,List.getElem?_eq_getElem (by omega)]
  exact List.mem_range.1 (o.mem_iff.1 (List.getElem_mem _))
 have HM:=hid d
 have R:Hid (∀ u,u<n->posIn l n u=rankOf key n u):=fun u hu=>zhV o I HK.out hu
 have HL:=hid B
 have g:=(B.lt lb rfl).2
 have a0:Hid (lb<w2.heap.size):=g
 have O:=hid C
 have D:=C.size
 have H:=fun W=>zag (P:=Tryz.prog) 22 3 _ 8 Tryz.underlying22 Tryz.infoInt rfl (n:Int) (by omega) (by omega) (by omega) W
 simp only [Int.toNat_natCast] at H
 clear hv hB o I B J d y z
 go_upto_region 4 with fail
 have j:=World.rowIs_made w2 (.int .i64 0) n 3
 have r:=aly w2 (Obj.cells (madeCells #[Value.int .i64 0] n) 3)
 obtain ⟨w3,E⟩:=exx (w2.alloc (Obj.cells (madeCells #[Value.int .i64 0] n) 3))
 obtain ⟨go,q⟩:=exx w2.heap.size
 have N:=hid q
 rw [<-q] at j;rw [<-E] at j r ⊢;rw [<-q]
 have G:w3.rowIs go 3 n (fun u=>.int .i64 (posIn l 0 u:Nat)):=j
 clear E q H j C g
 go_wp2
 go_loopg [18] n (fun gg iv wx=>∃ k:Nat,iv=.int .i64 (k:Nat)/\k<=n/\n<=k+gg/\wx.rowIs go 3 n (fun u=>.int .i64 (posIn l k u:Nat))/\Below w2.heap.size w2 wx)
 case atStart=>exact ⟨0,rfl,by omega,by omega,G,r⟩
 clear G r
 obtain ⟨k,rfl,hk,Y,c,hB⟩:=hrel
 have Z:(0:Int)<=(k:Int):=by omega
 by_cases hlt:k<n
 rotate_left
 ·have x:¬ (k:Int)<(n:Int):=by omega
  obtain rfl:k=n:=by omega
  have HB:=hid hB
  have HR:=hid c
  clear hB c
  go_wp2
  go_ret
  refine ⟨go,rfl,HR.out.congr fun u hu=>?_,by rw [N.out]; exact D,O.out.trans (HB.out.mono D)⟩
  show Value.int .i64 (posIn l k u:Nat)=_
  rw [R.out u hu]
 have x:(k:Int)<(n:Int):=by omega
 obtain ⟨b5,o5,c5,h5,_,_,_,_,K⟩:=(HL.out.on hB).form hn
 injection h5 with h5 _ h7
 injection h5 with h5
 injection h5 with h5 h6
 subst h5 h6 h7
 have x0:=K k hlt 0 (by omega)
 rw [Nat.mul_one,Nat.add_zero] at x0
 have hm:=HM.out k hlt
 obtain ⟨m,s⟩:=exx (l.getD k 0)
 have M:=hid s
 rw [<-s] at x0 hm
 have V:(m:Int)<(n:Int):=by omega
 have z0:=c.frozen m
 have y0:=c.cell hm
 clear K s
 have F:=c.set m (.int .i64 (k:Nat))
 have L:=hB.setCell (p:=⟨go,m,none⟩) (by have:=N.out; show _<=go; omega) (.int .i64 (k:Nat))
 have Q:=hid F
 have U:=hid L
 clear F L c hB
 go_wp2
 go_roundg (gk - 1)
 case measure=>omega
 refine ⟨k+1,by go_num,by omega,by omega,Q.out.congr fun u _=>?_,U.out⟩
 show (if u=m then _ else _)=Value.int .i64 ((if l.getD k 0=u then k else posIn l k u:Nat):Int)
 by_cases e:u=m
 ·rw [if_pos e,if_pos (by rw [e,<-M.out])]
 ·rw [if_neg e,if_neg (by rw [<-M.out]; exact fun h=>e h.symm)]
def Trel.re (T:Trel) (y:Nat->Nat->Int × Int × Int):Trel:=⟨T.nw,T.W,T.n,T.el,fun i j=>(y i j).1,fun i j=>(y i j).2.1,fun i j=>(y i j).2.2⟩
theorem IsRen.in64 {T:Trel} (hP:T.Proper) {y:Nat->Nat->Int × Int × Int} (h:IsRen T y) {i:Nat} (hi:i<T.n) {j:Nat} (hj:j<T.el i):InI64 (y i j).1/\InI64 (y i j).2.1/\InI64 (y i j).2.2:=by
 have hm:y i j ∈ (List.range (T.el i)).map (y i):=List.mem_map.2 ⟨j,List.mem_range.2 hj,rfl⟩
 obtain ⟨q,hq,e⟩:=List.mem_map.1 ((h i hi).1.mem_iff.1 hm)
 rw [List.mem_range] at hq;rw [<-e]
 have h1:=hP.nm_lt (by omega) (hP.frL hi hq).1
 have h2:=hP.nm_lt (i:=i+1) (by omega) (hP.toL hi hq).1
 have h3:=(hP.shape.wid (i:=i) (by omega)).2
 have h4:=(hP.shape.wid (i:=i+1) (by omega)).2
 have h5:=hP.lbL hi hq
 refine ⟨⟨?_,?_⟩,⟨?_,?_⟩,⟨?_,?_⟩⟩
 ·show (-9223372036854775808:Int)<=(T.nm i (T.fr i q).toNat:Nat); omega
 ·show ((T.nm i (T.fr i q).toNat:Nat):Int)<=9223372036854775807; omega
 ·show (-9223372036854775808:Int)<=T.lb i q; omega
 ·show T.lb i q<=(9223372036854775807:Int); omega
 ·show (-9223372036854775808:Int)<=(T.nm (i+1) (T.to i q).toNat:Nat); omega
 ·show ((T.nm (i+1) (T.to i q).toNat:Nat):Int)<=9223372036854775807; omega
theorem IsRen.reads {T:Trel} (hP:T.Proper) {y:Nat->Nat->Int × Int × Int} (h:IsRen T y) {w:World} {base:Nat} {v wv:Value} (hE:ETab w base v T.n T.el y) (hA:Own w base 3 1 wv T.nw (fun k _=>.int .i64 (T.W k))) :
  ∃ A B c d,wv=.slice A T.nw c/\v=.slice B T.n d/\(T.re y).Reads w A B/\T.nw<=c/\c<=maxLen/\T.n<=d/\d<=maxLen:=by
 have a:=hP.shape.nw
 have hn:=hP.shape.n64
 refine ETab.reads (T:=T.re y) hE hA (fun i hi=>?_) (fun i hi j hj=>h.in64 hP hi hj) (by show T.nw<=_; omega) (by show T.n<=_; omega) (fun i hi=>by have:=hP.shape.elb hi; show T.el i<=_; omega)
 have b:i<T.nw:=hi
 have:=hP.shape.wid (i:=i) (by omega)
 refine ⟨?_,?_⟩
 ·show (-9223372036854775808:Int)<=T.W i; omega
 ·show T.W i<=(9223372036854775807:Int); omega
theorem ETab.mono {w:World} {base b' n:Nat} {v:Value} {el:Nat->Nat} {y:Nat->Nat->Int × Int × Int} (h:ETab w base v n el y) (hb:b'<=base):ETab w b' v n el y:=by
 obtain ⟨R,h1,h2⟩:=h
 exact ⟨R,h1.mono hb,fun i hi=>(h2 i hi).mono hb⟩
def RenOut (T:Trel) (y:Nat->Nat->Int × Int × Int) (w:World) (A B:Option Addr) (c d:Nat):Prop:=ETab w 0 (.slice B T.n d) T.n T.el y/\Own w 0 3 1 (.slice A T.nw c) T.nw (fun k _=>.int .i64 (T.W k))
theorem RenOut.setCell {T:Trel} {y:Nat->Nat->Int × Int × Int} {w:World} {A B:Option Addr} {c d:Nat} (h:RenOut T y w A B c d) {t:TypeId} {m:Nat} {F:Nat->Value} {b i:Nat} (hr:w.rowIs b t m F) (h1:t ≠ 86) (h2:t ≠ 90) (h3:t ≠ 3) (u:Value):RenOut T y (w.setCell ⟨b,i,none⟩ u) A B c d :=
 ⟨h.1.setCell hr h1 h2 u,h.2.setCell (zad hr h.2 h3) u⟩
theorem RenOut.reads {T:Trel} (hP:T.Proper) {y:Nat->Nat->Int × Int × Int} (hy:IsRen T y) {w:World} {A B:Option Addr} {c d:Nat} (h:RenOut T y w A B c d):(T.re y).Reads w A B/\T.nw<=c/\c<=maxLen/\T.n<=d/\d<=maxLen:=by
 obtain ⟨A',B',c',d',e1,e2,hR,k1,k2,k3,k4⟩:=hy.reads hP h.1 h.2
 injection e1 with e1 _ e1'
 subst e1 e1'
 injection e2 with e2 _ e2'
 subst e2 e2'
 exact ⟨hR,k1,k2,k3,k4⟩
def numOf (N:List Nat) (v:Nat):Int:=if v ∈ N then (N.idxOf v:Nat) else -1
theorem zi5 {N:List Nat} {v:Nat} (h:v ∉ N) (x:Nat):numOf (N ++ [v]) x=if x=v then ((N.length:Nat):Int) else numOf N x:=by
 unfold numOf
 by_cases e:x=v
 ·subst e
  rw [if_pos (by simp),if_pos rfl,List.idxOf_append,if_neg h]
  simp
 rw [if_neg e]
 by_cases hx:x ∈ N
 ·rw [if_pos hx,if_pos (by simp [hx]),List.idxOf_append,if_pos hx]
 ·rw [if_neg hx,if_neg (by simp [hx,e])]
def Trel.triN (T:Trel) (i:Nat) (N:List Nat) (q:Nat):Int × Int × Int:=((T.nm i (T.fr i q).toNat:Nat),T.lb i q,(N.idxOf (T.to i q).toNat:Nat))
theorem Trel.triN_new {T:Trel} {i:Nat} {N:List Nat} {v q:Nat} (h:(T.to i q).toNat ∈ N):T.triN i (N ++ [v]) q=T.triN i N q:=by
 unfold Trel.triN
 rw [List.idxOf_append,if_pos h]
def Trel.visV (T:Trel) (i u j:Nat):List Nat:=grpA (fun j=>T.nm i (T.fr i j).toNat) (T.el i) u j
def Trel.visN (T:Trel) (i u j:Nat):List Nat:=firsts ((T.visV i u j).map fun q=>(T.to i q).toNat)
def Trel.visE (T:Trel) (i u j p:Nat):Int × Int × Int:=T.triN i (T.visN i u j) ((T.visV i u j).getD p 0)
section
variable {T:Trel} {i u j:Nat}
theorem Trel.visV_pos (h:T.nm i (T.fr i j).toNat=u):T.visV i u (j+1)=T.visV i u j ++ [j]:=zkh h
theorem Trel.visV_neg (h:¬ T.nm i (T.fr i j).toNat=u):T.visV i u (j+1)=T.visV i u j:=zki h
theorem Trel.visN_pos (h:T.nm i (T.fr i j).toNat=u):T.visN i u (j+1)=if (T.to i j).toNat ∈ T.visN i u j then T.visN i u j else T.visN i u j ++ [(T.to i j).toNat]:=by
 unfold Trel.visN
 rw [Trel.visV_pos h,List.map_append,List.map_singleton,zdr]
theorem Trel.visN_neg (h:¬ T.nm i (T.fr i j).toNat=u):T.visN i u (j+1)=T.visN i u j:=by
 unfold Trel.visN
 rw [Trel.visV_neg h]
theorem Trel.visE_neg (h:¬ T.nm i (T.fr i j).toNat=u):T.visE i u (j+1)=T.visE i u j:=by
 funext p
 unfold Trel.visE
 rw [Trel.visN_neg h,Trel.visV_neg h]
theorem Trel.visE_old (h:T.nm i (T.fr i j).toNat=u) {p:Nat} (hp:p<(T.visV i u j).length):T.visE i u (j+1) p=T.visE i u j p:=by
 have hm:(T.to i ((T.visV i u j).getD p 0)).toNat ∈ T.visN i u j:=by
  unfold Trel.visN
  rw [zcp,List.mem_map]
  refine ⟨_,?_,rfl⟩
  rw [List.getD_eq_getElem?_getD,List.getElem?_eq_getElem hp]
  exact List.getElem_mem _
 unfold Trel.visE
 rw [Trel.visN_pos h,Trel.visV_pos h,List.getD_eq_getElem?_getD,List.getElem?_append_left hp,<-List.getD_eq_getElem?_getD]
 split
 ·rfl
 ·exact Trel.triN_new hm
theorem Trel.visE_last (h:T.nm i (T.fr i j).toNat=u):T.visE i u (j+1) (T.visV i u j).length=(((u:Nat):Int),T.lb i j,(((T.visN i u (j+1)).idxOf (T.to i j).toNat:Nat):Int)):=by
 unfold Trel.visE
 rw [Trel.visV_pos h]
 have:(T.visV i u j ++ [j]).getD (T.visV i u j).length 0=j:=by simp [List.getD_eq_getElem?_getD]
 rw [this]
 unfold Trel.triN
 rw [h]
theorem Trel.visV_next:T.visV i u (T.el i)=T.visV i (u+1) 0:=ziY _ _ _
theorem Trel.visN_next:T.visN i u (T.el i)=T.visN i (u+1) 0:=by unfold Trel.visN; rw [Trel.visV_next]
theorem Trel.visE_next:T.visE i u (T.el i)=T.visE i (u+1) 0:=by
 funext p
 unfold Trel.visE
 rw [Trel.visN_next,Trel.visV_next]
theorem Trel.visV_len (hj:j<=T.el i):(T.visV i u j).length<=T.el i:=by
 have d:(T.visV i u j).Nodup:=by
  unfold Trel.visV grpA
  refine List.nodup_append.2 ⟨zbE (fun a b _ _ h e=>by subst e; omega) (fun a b h _ _ e=>by omega),List.Pairwise.filter _ List.nodup_range,?_⟩
  intro a ha b hb e
  subst e
  rw [zhR] at ha
  simp only [List.mem_filter,List.mem_range,decide_eq_true_eq] at hb
  omega
 have c:∀ q,q ∈ T.visV i u j->q ∈ List.range (T.el i):=fun q hq=>by
  rw [List.mem_range]
  rcases (zhS (g:=fun j=>T.nm i (T.fr i j).toNat)).1 hq with h | h <;> omega
 by_cases h:(T.visV i u j).length<=T.el i
 ·exact h
 have:=(zbP d c (by simp; omega)).length_eq
 simp at this
 omega
end
theorem Trel.visN_nodup (T:Trel) (i u j:Nat):(T.visN i u j).Nodup:=zb2 fun _ _ _ _ h a ha=>h a ha
theorem Trel.Proper.visN_lt {T:Trel} (h:T.Proper) {i u j x:Nat} (hi:i<T.n) (hj:j<=T.el i) (hx:x ∈ T.visN i u j):x<(T.W (i+1)).toNat:=by
 unfold Trel.visN at hx
 rw [zcp,List.mem_map] at hx
 obtain ⟨q,hq,rfl⟩:=hx
 have:q<T.el i:=by rcases (zhS (g:=fun j=>T.nm i (T.fr i j).toNat)).1 hq with h | h <;> omega
 exact (h.toL hi this).1
def OrdOk (T:Trel) (i:Nat) (o:Nat->Nat):Prop:=∀ u,u<(T.W i).toNat->o u<(T.W i).toNat/\T.nm i (o u)=u
theorem Trel.Proper.vis_end {T:Trel} (h:T.Proper) {i:Nat} (hi:i<T.n) :
  (T.visV i (T.W i).toNat 0).length=T.el i/\(∀ p,p<T.el i->T.visE i (T.W i).toNat 0 p=T.tri i ((T.vis i).getD p 0))/\(T.visN i (T.W i).toNat 0).length=(T.W (i+1)).toNat/\OrdOk T (i+1) (fun u=>(T.visN i (T.W i).toNat 0).getD u 0):=by
 have hV:T.visV i (T.W i).toNat 0=T.vis i:=zkj _ _ _
 obtain ⟨h1,h2⟩:=h.next_perm hi
 have hN:T.visN i (T.W i).toNat 0=firsts ((T.vis i).map fun j=>(T.to i j).toNat):=by unfold Trel.visN; rw [hV]
 rw [<-hN] at h1 h2
 have hl:(T.vis i).length=T.el i:=by have:=(h.vis_perm hi).length_eq; simpa using this
 have b:(T.visN i (T.W i).toNat 0).length=(T.W (i+1)).toNat:=by have:=h1.length_eq; simpa using this
 refine ⟨by rw [hV,hl],fun p hp=>?_,b,fun u hu=>?_⟩
 ·unfold Trel.visE
  rw [hV]
  have hq:(T.vis i).getD p 0<T.el i:=by
   rw [List.getD_eq_getElem?_getD,List.getElem?_eq_getElem (by omega)]
   exact List.mem_range.1 ((h.vis_perm hi).mem_iff.1 (List.getElem_mem _))
  unfold Trel.triN Trel.tri
  rw [h2 _ (h.toL hi hq).1]
 have hg:(T.visN i (T.W i).toNat 0).getD u 0=(T.visN i (T.W i).toNat 0)[u]'(by omega):=by
  rw [List.getD_eq_getElem?_getD,List.getElem?_eq_getElem (by omega)]
  rfl
 have a:(T.visN i (T.W i).toNat 0).getD u 0<(T.W (i+1)).toNat:=by
  rw [hg]
  exact List.mem_range.1 (h1.mem_iff.1 (List.getElem_mem _))
 refine ⟨a,?_⟩
 show T.nm (i+1) ((T.visN i (T.W i).toNat 0).getD u 0)=u
 rw [<-h2 _ a,hg]
 exact (h1.nodup_iff.2 List.nodup_range).idxOf_getElem _ _
theorem zeU {w:World} {b n base:Nat} {t:TypeId} {F:Nat->Value} (h:w.rowIs b t n F) (hb:base<=b) (hn:n<=maxLen):Own w base t 1 (.slice (some ⟨b,0,none⟩) n n) n (fun i _=>F i):=by
 obtain ⟨cs,h1,h2,h3⟩:=h
 refine .inr ⟨b,0,n,cs,rfl,hb,h1,Nat.le_refl _,hn,by omega,fun i hi j hj=>?_⟩
 obtain rfl:j=0:=by omega
 rw [Nat.zero_add,Nat.mul_one,Nat.add_zero]
 exact h3 i hi
theorem zaO {w:World} {b b' n n':Nat} {t t':TypeId} {F F':Nat->Value} (h:w.rowIs b t n F) (h':w.rowIs b' t' n' F') (hne:t≠t'):b≠b':=by
 intro e
 subst e
 obtain ⟨cs,h1,_⟩:=h
 obtain ⟨cs',a,_⟩:=h'
 rw [h1] at a
 injection a with a
 injection a with _ a
 exact hne a
section
variable {w w':World} {g base te e s m:Nat} {F:Nat->Value} {n n':Nat->Nat} {f f':Nat->Nat->Nat->Value}
theorem TabOwn.same (h:TabOwn w g base te e s m F n f) (hn:∀ v,v<m->n v=n' v) (hf:∀ v,v<m->∀ i,i<n v->∀ j,j<s->f v i j=f' v i j):TabOwn w g base te e s m F n' f' :=
 ⟨h.row,fun v hv=>by rw [<-hn v hv]; exact (h.own v hv).congr (hf v hv),h.apart⟩
theorem TabOwn.touch (h:TabOwn w g base te e s m F n f) (hgb:g<base) {v:Nat} (hv:v<m) {n1:Nat} {f1:Nat->Nat->Value} (hown:Own w' base e s (F v) n1 f1) (hg:w.grownBy w' (F v).ownBlock) :
  TabOwn w' g base te e s m F (fun u=>if u=v then n1 else n u) (fun u=>if u=v then f1 else f u):=by
 refine ⟨h.row.of_block (hg.block g h.row.lt (fun e=>by have:=((h.own v hv).lt _ e.symm).1; omega)),fun u hu=>?_,h.apart⟩
 by_cases e:u=v
 ·subst e
  simp only [if_true]
  exact hown
 ·simp only [if_neg e]
  exact (h.own u hu).kept hg (h.apart u v hu hv e)
theorem TabOwn.stays (h:TabOwn w g base te e s m F n f) (hb:Below w.heap.size w w'):TabOwn w' g base te e s m F n f:=⟨h.row.of_block (hb.block g h.row.lt),fun v hv=>(h.own v hv).on hb,h.apart⟩
end
theorem Trel.Proper.el_pos {T:Trel} (h:T.Proper) {i:Nat} (hi:i<T.n):0<T.el i:=by
 have h1:=(h.shape.wid (i:=i) (by omega)).1
 obtain ⟨j,hj,_⟩:=za2.1 ((h.sec i hi).2.1 0 (by omega))
 omega
structure RnSt (T:Trel) (g base ob rb i j:Nat) (wv:Value) (y:Nat->Nat->Int × Int × Int) (F:Nat->Value) (w:World):Prop where
 res:w.rowIs rb 53 2 (fun _=>.slice none 0 0)
 box:w.rowIs ob 53 2 (fun k=>if k=0 then wv else .slice (some ⟨g,0,none⟩) T.n T.n)
 wid:Own w 0 3 1 wv T.nw (fun k _=>.int .i64 (T.W k))
 tab:TabOwn w g base 86 90 3 T.n F (fun v=>if v<i then T.el v else if v=i then j else 0) (fun v=>edgeCell (if v<i then y v else T.tri v))
 hrb:rb<base
 hob:ob<base
 hg:g<base
 hwv:∀ q,wv.ownBlock=some q->q<base
section
variable {T:Trel} {g base ob rb i j:Nat} {wv:Value} {y:Nat->Nat->Int × Int × Int} {F:Nat->Value} {w w':World}
theorem RnSt.on (h:RnSt T g base ob rb i j wv y F w) (hb:Below w.heap.size w w'):RnSt T g base ob rb i j wv y F w' :=
 ⟨h.res.of_block (hb.block _ h.res.lt),h.box.of_block (hb.block _ h.box.lt),h.wid.on hb,h.tab.stays hb,h.hrb,h.hob,h.hg,h.hwv⟩
theorem RnSt.row (h:RnSt T g base ob rb i j wv y F w) (hi:i<T.n):Own w base 90 3 (F i) j (edgeCell (T.tri i)):=by
 have:=h.tab.own i hi
 simpa using this
theorem RnSt.put (h:RnSt T g base ob rb i j wv y F w) (hi:i<T.n) {v':Value} (ho:Own w' base 90 3 v' (j+1) (edgeCell (T.tri i))) (hgr:w.grownBy w' (F i).ownBlock) (hat:v'.ownBlock=(F i).ownBlock∨v'.ownBlock=some w.heap.size) :
  RnSt T g base ob rb i (j+1) wv y (fun u=>if u=i then v' else F u) (w'.setCell ⟨g,i,none⟩ v'):=by
 have hF:=(h.tab.own i hi).lt
 have c:∀ b,b<base->(F i).ownBlock≠some b:=fun b hb e=>by have:=(hF b e).1; omega
 have r1:=h.res.of_block (hgr.block rb h.res.lt fun e=>c rb h.hrb e.symm)
 have r2:=h.box.of_block (hgr.block ob h.box.lt fun e=>c ob h.hob e.symm)
 have r3:w'.rowIs g 86 T.n F:=h.tab.row.of_block (hgr.block g h.tab.row.lt fun e=>c g h.hg e.symm)
 have r4:=h.wid.kept hgr (by
  cases e:wv.ownBlock with
  | none=>exact .inl rfl
  | some q=>exact .inr fun e2=>c q (h.hwv q e) e2.symm)
 refine ⟨r1.setOther (a:=⟨g,i,none⟩) (by simpa using zaO r1 r3 (by decide)) v',r2.setOther (a:=⟨g,i,none⟩) (by simpa using zaO r2 r3 (by decide)) v',r4.setCell (zad r3 r4 (by decide)) v',?_,h.hrb,h.hob,h.hg,h.hwv⟩
 refine (h.tab.put h.hg hi ho hgr hat).same (fun v _=>?_) (fun v _ k _ q _=>?_)
 ·by_cases e:v=i
  ·subst e; rw [if_pos rfl,if_neg (by omega),if_pos rfl]
  rw [if_neg e,if_neg e]
  by_cases e2:v<i
  ·rw [if_pos e2,if_pos e2]
  ·rw [if_neg e2,if_neg e2,if_neg e]
 by_cases e:v=i
 ·subst e; rw [if_pos rfl,if_neg (by omega)]
 ·rw [if_neg e]
theorem RnSt.sort (h:RnSt T g base ob rb i (T.el i) wv y F w) (hi:i<T.n) {z:Nat->Int × Int × Int} (ho:Own w' base 90 3 (F i) (T.el i) (edgeCell z)) (hgr:w.grownBy w' (F i).ownBlock) :
  RnSt T g base ob rb (i+1) 0 wv (fun u=>if u=i then z else y u) F w':=by
 have hF:=(h.tab.own i hi).lt
 have a:∀ b,b<base->(F i).ownBlock≠some b:=fun b hb e=>by have:=(hF b e).1; omega
 refine ⟨h.res.of_block (hgr.block rb h.res.lt fun e=>a rb h.hrb e.symm),h.box.of_block (hgr.block ob h.box.lt fun e=>a ob h.hob e.symm),h.wid.kept hgr (by
  cases e:wv.ownBlock with
  | none=>exact .inl rfl
  | some q=>exact .inr fun e2=>a q (h.hwv q e) e2.symm),?_,h.hrb,h.hob,h.hg,h.hwv⟩
 refine (h.tab.touch h.hg hi ho hgr).same (fun v _=>?_) (fun v _ k _ q _=>?_)
 ·by_cases e:v=i
  ·subst e; rw [if_pos rfl,if_pos (by omega)]
  rw [if_neg e]
  by_cases e2:v<i
  ·rw [if_pos e2,if_pos (by omega)]
  ·rw [if_neg e2,if_neg e,if_neg (by omega)]
   split <;> rfl
 by_cases e:v=i
 ·subst e; rw [if_pos rfl,if_pos (by omega),if_pos rfl]
 rw [if_neg e]
 by_cases e2:v<i
 ·rw [if_pos e2,if_pos (by omega),if_neg e]
 ·rw [if_neg e2,if_neg (by omega)]
theorem RnSt.etab (h:RnSt T g base ob rb T.n 0 wv y F w) (hn:T.n<=maxLen):ETab w 0 (.slice (some ⟨g,0,none⟩) T.n T.n) T.n T.el y:=by
 refine ⟨F,zeU h.tab.row (Nat.zero_le _) hn,fun i hi=>?_⟩
 have:=h.tab.own i hi
 simp only [if_pos hi] at this
 exact this.mono (Nat.zero_le _)
theorem RnSt.start (h0:w.rowIs rb 53 2 (fun _=>.slice none 0 0)) (h1:w.rowIs ob 53 2 (fun k=>if k=0 then wv else .slice (some ⟨g,0,none⟩) T.n T.n)) (h2:Own w 0 3 1 wv T.nw (fun k _=>.int .i64 (T.W k)))
  (h3:w.rowIs g 86 T.n (fun _=>.slice none 0 0)):RnSt T g w.heap.size ob rb 0 0 wv y (fun _=>.slice none 0 0) w :=
 ⟨h0,h1,h2,⟨h3,fun v _=>by
  have e:(if v<0 then T.el v else if v=0 then 0 else 0)=0:=by
   rw [if_neg (by omega)]
   split <;> rfl
  rw [e]
  exact Own.nil _ _ _ _ _,fun _ _ _ _ _=>.inl rfl⟩,h0.lt,h1.lt,h3.lt,fun q e=>(h2.lt q e).2⟩
end
def Trel.lx (T:Trel) (f:Nat->Nat) (i j v:Nat):Int × Int × Int:=if T.kt f i j v<1099511627776 then (((T.kt f i j v / 256:Nat):Int),((T.kt f i j v % 256:Nat):Int),0) else (0,0,0)
def Trel.sn (T:Trel) (f:Nat->Nat) (i j v:Nat):Bool:=decide (T.kt f i j v<1099511627776)
section
variable {T:Trel} {f:Nat->Nat} {i j tn:Nat}
theorem Trel.kt_take (ht:(T.to i j).toNat=tn) (h:T.code f i j<T.kt f i j tn) (v:Nat):T.kt f i (j+1) v=if v=tn then T.code f i j else T.kt f i j v:=by
 show (if (T.to i j).toNat=v/\T.code f i j<T.kt f i j v then T.code f i j else T.kt f i j v)=_
 by_cases e:v=tn
 ·subst e
  rw [if_pos rfl,if_pos ⟨ht,h⟩]
 ·rw [if_neg e,if_neg (fun h=>e (by omega))]
variable {a1:Nat} {lv:Int}
theorem Trel.lx_less (hl:0<=lv/\lv<256) (hc:T.code f i j=a1*256+lv.toNat) (hk:T.sn f i j tn=true):lessV (a1:Nat) lv (T.lx f i j tn).1 (T.lx f i j tn).2.1<0↔T.code f i j<T.kt f i j tn:=by
 have hk:T.kt f i j tn<1099511627776:=of_decide_eq_true hk
 rw [zcn]
 unfold Trel.lx
 rw [if_pos hk,hc]
 show ((a1:Nat):Int)<((T.kt f i j tn / 256:Nat):Int)∨((a1:Nat):Int)=((T.kt f i j tn / 256:Nat):Int)/\lv<((T.kt f i j tn % 256:Nat):Int)↔_
 omega
theorem Trel.lx_take (ht:(T.to i j).toNat=tn) (hl:0<=lv/\lv<256) (hc:T.code f i j=a1*256+lv.toNat) (ha:a1<65536) (h:T.code f i j<T.kt f i j tn) (v:Nat):T.lx f i (j+1) v=if v=tn then (((a1:Nat):Int),lv,0) else T.lx f i j v:=by
 unfold Trel.lx
 rw [Trel.kt_take ht h]
 by_cases e:v=tn
 ·rw [if_pos e,if_pos e,if_pos (by omega),hc]
  have e1:(a1*256+lv.toNat) / 256=a1:=by omega
  have e2:(a1*256+lv.toNat) % 256=lv.toNat:=by omega
  rw [e1,e2]
  have:((lv.toNat:Nat):Int)=lv:=by omega
  rw [this]
 ·rw [if_neg e,if_neg e]
theorem Trel.sn_take (ht:(T.to i j).toNat=tn) (hl:0<=lv/\lv<256) (hc:T.code f i j=a1*256+lv.toNat) (ha:a1<65536) (h:T.code f i j<T.kt f i j tn) (v:Nat):T.sn f i (j+1) v=if v=tn then true else T.sn f i j v:=by
 unfold Trel.sn
 rw [Trel.kt_take ht h]
 by_cases e:v=tn
 ·rw [if_pos e,if_pos e,decide_eq_true_iff]
  omega
 ·rw [if_neg e,if_neg e]
theorem Trel.kt_new (hl:0<=lv/\lv<256) (hc:T.code f i j=a1*256+lv.toNat) (ha:a1<65536) (h:T.sn f i j tn=false):T.code f i j<T.kt f i j tn:=by
 have h1:¬ T.kt f i j tn<1099511627776:=of_decide_eq_false h
 omega
end
section
variable {T:Trel} {f:Nat->Nat} {i j tn:Nat} (ht:(T.to i j).toNat=tn) (h:¬ T.code f i j<T.kt f i j tn)
include ht h
theorem Trel.kt_skip (v:Nat):T.kt f i (j+1) v=T.kt f i j v:=by
 show (if (T.to i j).toNat=v/\T.code f i j<T.kt f i j v then T.code f i j else T.kt f i j v)=_
 rw [if_neg]
 rintro ⟨e,h2⟩
 rw [ht] at e
 subst e
 exact h h2
theorem Trel.lx_skip (v:Nat):T.lx f i (j+1) v=T.lx f i j v:=by unfold Trel.lx; rw [Trel.kt_skip ht h]
theorem Trel.sn_skip (v:Nat):T.sn f i (j+1) v=T.sn f i j v:=by unfold Trel.sn; rw [Trel.kt_skip ht h]
end
theorem Trel.lx_zero (T:Trel) (f:Nat->Nat) (i v:Nat):T.lx f i 0 v=(0,0,0):=by
 unfold Trel.lx Trel.kt
 rw [if_neg (by omega)]
theorem Trel.sn_zero (T:Trel) (f:Nat->Nat) (i v:Nat):T.sn f i 0 v=false:=by
 unfold Trel.sn Trel.kt
 exact decide_eq_false (by omega)
theorem Trel.Proper.lx_key {T:Trel} (h:T.Proper) {i:Nat} (hi:i<T.n) (u v:Nat) (hu:u<(T.W (i+1)).toNat) (hv:v<(T.W (i+1)).toNat) :
  lessV (T.lx (T.nm i) i (T.el i) u).1 (T.lx (T.nm i) i (T.el i) u).2.1 (T.lx (T.nm i) i (T.el i) v).1 (T.lx (T.nm i) i (T.el i) v).2.1<0↔T.kt (T.nm i) i (T.el i) u<T.kt (T.nm i) i (T.el i) v:=by
 obtain ⟨p,hp,_,e1⟩:=h.kt_hit hi hu
 obtain ⟨q,hq,_,e2⟩:=h.kt_hit hi hv
 have h1:=h.code_lt hi hp
 have h2:=h.code_lt hi hq
 rw [zcn]
 unfold Trel.lx
 rw [if_pos (by omega),if_pos (by omega)]
 show ((T.kt (T.nm i) i (T.el i) u / 256:Nat):Int)<((T.kt (T.nm i) i (T.el i) v / 256:Nat):Int)∨((T.kt (T.nm i) i (T.el i) u / 256:Nat):Int)=((T.kt (T.nm i) i (T.el i) v / 256:Nat):Int)/\((T.kt (T.nm i) i (T.el i) u % 256:Nat):Int)<((T.kt (T.nm i) i (T.el i) v % 256:Nat):Int)↔_
 omega
theorem zfy (n:Nat) (hn:n<=1048576) (w:World) :
  (Instr.makeSlice 86 (.int .i64 (n:Int)) (.int .i64 (n:Int))).run Tryz.prog w=.ok (.slice (some ⟨w.heap.size,0,none⟩) n n) (w.alloc (.cells (madeCells #[.int .i64 0,.int .i64 0,.int .i64 0] (n*3)) 90)):=by
 obtain ⟨i,hi,hz,hs,hb⟩:=info_parts Tryz.infoEdge
 have h:=run_make (P:=Tryz.prog) w 86 90 i _ Tryz.underlying86 hi hz .i64 .i64 (n:Int) (n:Int) (by omega) (by omega) (by rw [hb]; omega) (by omega)
 rw [h,hs,Int.toNat_natCast]
 rfl
theorem zee (w:World) (n:Nat):(w.alloc (.cells (madeCells #[.int .i64 0,.int .i64 0,.int .i64 0] (n*3)) 90)).rowIs w.heap.size 90 (n*3) (eRow fun _=>(0,0,0)):=by
 refine ⟨_,zaw rfl,size_madeCells _ _,fun i hi=>?_⟩
 have e:eRow (fun _=>(0,0,0)) i=.int .i64 0:=by
  unfold eRow edgeCell
  split
  ·rfl
  ·split <;> rfl
 rw [e]
 have h3:i % 3=0∨i % 3=1∨i % 3=2:=by omega
 rcases h3 with h3 | h3 | h3 <;> simp [madeCells,hi,h3]
theorem zhY {w:World} {b n u:Nat} {t:TypeId} {x x':Nat->Int × Int × Int} (h:w.rowIs b t (n*3) (eRow x)) {p q r:Int} (hx:∀ v,x' v=if v=u then (p,q,r) else x v) :
  (((w.setCell ⟨b,u*3,none⟩ (.int .i64 p)).setCell ⟨b,u*3+1,none⟩ (.int .i64 q)).setCell ⟨b,u*3+2,none⟩ (.int .i64 r)).rowIs b t (n*3) (eRow x'):=by
 refine (((h.set (u*3) (.int .i64 p)).set (u*3+1) (.int .i64 q)).set (u*3+2) (.int .i64 r)).congr fun k _=>?_
 unfold eRow edgeCell
 rw [hx]
 by_cases e:k / 3=u
 ·rw [if_pos e]
  have h3:k % 3=0∨k % 3=1∨k % 3=2:=by omega
  rcases h3 with h3 | h3 | h3
  ·rw [if_neg (by omega),if_neg (by omega),if_pos (by omega),if_pos h3]
  ·rw [if_neg (by omega),if_pos (by omega),if_neg (by omega),if_pos h3]
  ·rw [if_pos (by omega),if_neg (by omega),if_neg (by omega)]
 ·rw [if_neg e,if_neg (by omega),if_neg (by omega),if_neg (by omega)]
def Trel.nrow (T:Trel) (k:Nat):List Int:=(List.range (T.W k).toNat).map fun u=>((T.nm k u:Nat):Int)
def Trel.names (T:Trel) (i:Nat):List (List Int):=(List.range i).map T.nrow
theorem Trel.names_succ (T:Trel) (i:Nat):T.names (i+1)=T.names i ++ [T.nrow i]:=by
 unfold Trel.names
 rw [List.range_succ,List.map_append]
 rfl
theorem Trel.names_len (T:Trel) (i:Nat):(T.names i).length=i:=by simp [Trel.names]
theorem Trel.names_get (T:Trel) {i k:Nat} (h:k<i):(T.names i).getD k []=T.nrow k:=by
 unfold Trel.names
 rw [List.getD_eq_getElem?_getD,List.getElem?_map,List.getElem?_range h]
 rfl
theorem Trel.nrow_len (T:Trel) (k:Nat):(T.nrow k).length=(T.W k).toNat:=by simp [Trel.nrow]
theorem Trel.nrow_get (T:Trel) {k u:Nat} (h:u<(T.W k).toNat):(T.nrow k).getD u 0=(T.nm k u:Nat):=by
 unfold Trel.nrow
 rw [List.getD_eq_getElem?_getD,List.getElem?_map,List.getElem?_range h]
 rfl
theorem Trel.names_one {T:Trel} (h:T.Proper):T.names 1=[[0]]:=by
 have:(T.W 0).toNat=1:=by rw [h.w0]; rfl
 unfold Trel.names Trel.nrow
 simp [this,Trel.nm]
theorem Trel.names_rows {T:Trel} (h:T.Proper) {w:World} {base:Nat} {v:Value} (hT:TabL w base v (T.names (T.n+1))) :
  ∃ O c,v=.slice O (T.n+1) c/\IntRows w O (T.n+1) (fun i=>(T.W i).toNat) (fun i k=>(T.nm i k:Nat)):=by
 obtain ⟨O,c,e,h1,h2,h3⟩:=hT.rows (fun l hl x hx=>by
  obtain ⟨k,hk,rfl⟩:=List.mem_map.1 hl
  obtain ⟨u,hu,rfl⟩:=List.mem_map.1 hx
  rw [List.mem_range] at hk hu
  have:=h.nm_lt (by omega) hu
  have:=(h.shape.wid (i:=k) (by omega)).2
  omega)
 rw [T.names_len] at e h3
 refine ⟨O,c,e,fun i hi=>?_⟩
 obtain ⟨b,off,A,c',e1,k1,k2,k3,k4,k5,k6⟩:=h3 i hi
 simp only [T.names_get hi,T.nrow_len] at k2 k3 k5 k6
 refine ⟨b,off,A,c',e1,k1,k2,k3,k4,k5.congr fun u hu=>T.nrow_get hu,fun u hu=>?_⟩
 have:=k6 u hu
 rwa [T.nrow_get hu] at this
theorem TabL.readR {w:World} {base N c k:Nat} {A:Option Addr} {L:List (List Int)} (h:TabL w base (.slice A N c) L) (hk:k<L.length) :
  ∃ b o RA rc,A=some ⟨b,o,none⟩/\b<w.heap.size/\w.cell? ⟨b,o+k,none⟩=some (.slice RA (L.getD k []).length rc)/\OwnL w base (.slice RA (L.getD k []).length rc) (L.getD k []):=by
 obtain ⟨R,hA,hB⟩:=h
 obtain ⟨A1,c1,e1⟩:=hA.shape
 injection e1 with e1 e2 e3
 subst e1 e2 e3
 obtain ⟨b,o,e,d,a⟩:=hA.rd rfl k hk
 have g1:=a 0 (by omega)
 rw [Nat.mul_one,Nat.add_zero] at g1
 have hr:=hB k hk
 obtain ⟨RA,rc,hR⟩:=Own.shape hr
 rw [hR] at hr
 exact ⟨b,o,RA,rc,e,d,by rw [g1,<-hR],hr⟩
theorem zgD {w:World} {g m base:Nat} {f:Nat->Int} (h:w.rowIs g 3 m (fun u=>.int .i64 (f u))) (hb:base<=g) (hm:m<=maxLen):OwnL w base (.slice (some ⟨g,0,none⟩) m m) ((List.range m).map f):=by
 have hl:((List.range m).map f).length=m:=by simp
 unfold OwnL
 rw [hl]
 refine (zeU h hb hm).congr fun u hu _ _=>?_
 unfold listCell
 rw [List.getD_eq_getElem?_getD,List.getElem?_map,List.getElem?_range hu]
 rfl
theorem zgE (w:World):TabL ((w.alloc (Obj.cells #[.int .i64 0] 3)).alloc (Obj.cells #[.slice (some ⟨w.heap.size,0,none⟩) 1 1] 22)) w.heap.size (.slice (some ⟨w.heap.size+1,0,none⟩) 1 1) [[0]]:=by
 have h0:=Own.new (w:=w) (base:=w.heap.size) (e := 3) (s:=1) (m:=1) (cap:=1) (cur:=#[.int .i64 0]) (f:=listCell [0]) (Nat.le_refl _) (Nat.le_refl _) (by unfold maxLen; omega) (by simp) (fun k hk j hj=>by
  obtain rfl:k=0:=by omega
  obtain rfl:j=0:=by omega
  rfl)
 have h1:=Own.new (w:=w.alloc (Obj.cells #[.int .i64 0] 3)) (base:=w.heap.size) (e := 22) (s:=1) (m:=1) (cap:=1) (cur:=#[.slice (some ⟨w.heap.size,0,none⟩) 1 1]) (f:=fun _ _=>.slice (some ⟨w.heap.size,0,none⟩) 1 1) (by simp) (by omega) (by unfold maxLen; omega) (by simp) (fun k hk j hj=>by
  obtain rfl:k=0:=by omega
  obtain rfl:j=0:=by omega
  rfl)
 have e1:(w.alloc (Obj.cells #[.int .i64 0] 3)).heap.size=w.heap.size+1:=by simp
 rw [e1] at h1
 refine ⟨fun _=>.slice (some ⟨w.heap.size,0,none⟩) 1 1,h1,fun i hi=>?_⟩
 obtain rfl:i=0:=by simp at hi; omega
 exact h0.alloc _
open Go.ChangeShapes Go.WideShapes Go.ChangeAt
theorem zi6 {w:World} {base:Nat} (hb:base<=w.heap.size) (x:Int × Int × Int):Own (w.alloc (.cells #[.int .i64 x.1,.int .i64 x.2.1,.int .i64 x.2.2] 90)) base 90 3 (.slice (some ⟨w.heap.size,0,none⟩) 1 1) 1 (edgeCell fun _=>x) :=
 Own.new (cur:=#[.int .i64 x.1,.int .i64 x.2.1,.int .i64 x.2.2]) hb (Nat.le_refl _) (by unfold maxLen; omega) (by simp) (fun k hk j hj=>by
  obtain rfl:k=0:=by omega
  match j,hj with
  | 0,_=>rfl
  | 1,_=>rfl
  | 2,_=>rfl)
theorem zcr (D:Nat->Bool) (n:Nat):cntB D (n+1)=cntB D n+if D n then 1 else 0:=rfl
def SectPost (q:Nat) (add mul:Nat->Nat->Nat) (n N:Nat) (pv:Nat->Nat) (R:Nat->Nat->Nat) (i:Nat) (w:World) (e:Ending) (w':World):Prop :=
 ∃ A m c y,e=.returned (.tuple #[.int .i64 (q ^ cntB (actA pv R N (i+1)) n:Nat),.slice A m c])/\SecM q add mul n N pv R i m y/\Own w' w.heap.size 90 3 (.slice A m c) m (edgeCell y)/\Below w.heap.size w w'
theorem zgF (P M:Nat) (m:Nat->Nat) (g n N i:Nat) (pv:Nat->Nat) (R:Nat->Nat->Nat) (T:Option Addr) (d:Nat) (w:World) (hG:GF w w.heap.size g P M m) (h:IntRows w T n (fun _=>N) (fun s j=>((R s j:Nat):Int))) (hS:SpanF (P ^ M) n N pv R) (hn:n<=64) (hN:N<=64) (hi:i<N)
  (hE:(P ^ M) ^ cntB (actE pv R N i) n<=262144) :
  Calls Tryz.prog 77 #[.pointer (some ⟨g,0,none⟩),.slice T n d,.int .i64 (i:Nat)] w (SectPost (P ^ M) (addF P M) (mulF P M m) n N pv R i w):=by
 have HG:=hid hG
 have HR:=hid h
 have HS:=hid hS
 have HL:=hid (fieldLaws hG.ok)
 have HE:=hid hE
 have ai:=hid hi
 obtain ⟨q,hq⟩:=exx (P ^ M)
 have d6:2<=q:=by rw [hq]; exact HL.out.two
 have bi:q<=256:=by rw [hq]; exact hG.ok.1.2.2.2
 clear hG h hS hE
 have HQ:=hid hq
 obtain ⟨mt,a3⟩:∃ mt:Nat->Nat,mt=fun t=>q ^ cntB (actE pv R N i) t:=⟨_,rfl⟩
 obtain ⟨wt,a8⟩:∃ wt:Nat->Nat,wt=fun t=>q ^ cntB (actA pv R N (i+1)) t:=⟨_,rfl⟩
 have cs:Hid (mt 0=1):=hid (by rw [a3]; rfl)
 have cn:Hid (wt 0=1):=hid (by rw [a8]; rfl)
 have a2:=hid a3
 have ac:=hid a8
 have af:Hid (∀ t,t<=n->mt t<=262144):=hid fun t ht=>by
  rw [a3]
  refine Nat.le_trans (Nat.pow_le_pow_right (by omega) ?_) (by rw [hq]; exact HE.out)
  have:=zhU (actE pv R N i) t (n - t)
  rwa [show t+(n - t)=n by omega] at this
 have bo:Hid (∀ t,t<=n->wt t<=262144):=hid fun t ht=>by
  refine Nat.le_trans ?_ (af.out t ht)
  rw [a8,a3]
  refine Nat.pow_le_pow_right (by omega) (zhT (fun s hs=>?_) t)
  obtain ⟨h1,h2⟩:=(zaM _ _).1 hs
  exact (zbQ _ _).2 ⟨by omega,by omega⟩
 clear a3 a8
 have d9:(0:Int)<=(i:Int):=by omega
 clear hq
 go_enter Tryz.func77, Tryz.ntmps77
 go_wp2_with fail
 refine (zd7 HG.out).mono ?_
 rintro e w1 ⟨he,kb⟩
 rw [<-HQ.out] at he
 subst he
 have be:=hid kb
 clear kb
 go_upto_region 3 with fail
 have a9:=zi6 (w:=w1) (base:=w.heap.size) be.out.size (0,0,0)
 have kb:=aly w1 (Obj.cells #[Value.int .i64 0,Value.int .i64 0,Value.int .i64 0] 90)
 obtain ⟨w2,aj⟩:=exx (World.alloc w1 (Obj.cells #[Value.int .i64 0,Value.int .i64 0,Value.int .i64 0] 90))
 rw [<-aj] at kb ⊢
 have a9:Own w2 w.heap.size 90 3 (.slice (some ⟨w1.heap.size,0,none⟩) 1 1) 1 (edgeCell fun _=>(0,0,0)):=by rw [aj]; exact a9
 have a0:=hid a9
 have bv:=hid (onS be.out kb)
 clear kb aj a9
 go_upto_region 5 with fail
 go_loopg [9,10,26] n (fun gg v9 v10 iv wx=>∃ (t:Nat) (x:Nat->Int × Int × Int),iv=.int .i64 (t:Nat)/\v10=.int .i64 (wt t:Nat)/\t<=n/\n<=t+gg/\Hid (Own wx w.heap.size 90 3 v9 (mt t) (edgeCell x))/\Hid (SecX q (addF P M) (mulF P M m) pv R N i t x)/\Below w.heap.size w wx)
 case atStart=>exact ⟨0,fun _=>(0,0,0),rfl,by rw [cn.out]; rfl,by omega,by omega,hid (by rw [cs.out]; exact a0.out),zi0,bv.out⟩
 clear a0 bv be
 obtain ⟨t,x,rfl,rfl,ht,d3,HO,HX,U⟩:=hrel
 have d4:(0:Int)<=(t:Int):=by omega
 have HB:=hid U
 obtain ⟨w3,c8⟩:=exx wr
 subst c8
 clear U
 obtain ⟨mm,aa⟩:=exx (mt t)
 have ca:mm<=262144:=by rw [aa]; exact af.out t ht
 obtain ⟨ww,a7⟩:=exx (wt t)
 have bw:ww<=262144:=by rw [a7]; exact bo.out t ht
 rw [<-a7];rw [<-aa] at HO
 have a6:=hid aa
 have b2:=hid a7
 clear aa a7
 obtain ⟨EA,ec,hv⟩:=HO.out.shape
 subst hv
 by_cases htn:t<n
 rotate_left
 ·have am:¬ (t:Int)<(n:Int):=by omega
  obtain rfl:n=t:=by omega
  have cb:0<mm:=by rw [a6.out,a2.out]; exact Nat.pow_pos (by omega)
  go_wp2_with fail
  refine (zcR mm x w3 w.heap.size (.slice EA mm ec) HO.out cb (by omega)).mono ?_
  rintro e w4 ⟨rfl,y,hp,hs,ho,bj⟩
  have co:Hid (SecM (P ^ M) (addF P M) (mulF P M m) n N pv R i mm y):=hid (by
   have e1:mm=(P ^ M) ^ cntB (actE pv R N i) n:=by rw [a6.out,a2.out,HQ.out]
   have hx:=HX.out
   rw [HQ.out] at hx;rw [e1] at hp hs ⊢
   exact zk9 HL.out HS.out ai.out hx hp hs)
  have cp:=hid ho
  have cw:=hid (HB.out.grown bj HB.out.size fun q e=>(HO.out.lt _ e).1)
  have cm:Hid (ww=(P ^ M) ^ cntB (actA pv R N (i+1)) n):=hid (by rw [b2.out,ac.out,HQ.out])
  clear hp hs ho bj
  go_wp2
  go_ret2
  exact ⟨EA,mm,ec,y,by rw [<-cm.out]; rfl,co.out,cp.out,cw.out⟩
 have am:(t:Int)<(n:Int):=by omega
 obtain ⟨b1,o1,RA,rc,ch,cg,x0,h1,h2,h3,h4⟩:=HR.out t htn
 subst ch
 replace x0:=cellS HB.out x0
 have a5:=hid h3
 clear h3 h4 h1 h2 cg
 go_wp2_with fail
 clear x0
 refine (zea RA N rc (R t) w3 (a5.out.on HB.out) (by omega)).mono ?_
 rintro e w4 ⟨rfl,kb⟩
 replace HB:=hid (onS HB.out kb);replace HO:=hid (HO.out.on kb);clear kb;rw [HS.out.first htn]
 have a4:actE pv R N i t=true↔(pv t<=i/\(i:Int)<=lE (R t) N):=zbQ i t
 obtain ⟨p,hp⟩:=exx (pv t)
 obtain ⟨l,hl⟩:=exx (lE (R t) N)
 have HP:=hid hp
 have b9:=hid hl
 rw [<-hp,<-hl] at a4 ⊢;clear hp hl
 by_cases g0:p<=i/\(i:Int)<=l
 rotate_left
 ·have D:actE pv R N i t=false:=by
   cases hb:actE pv R N i t with
   | false=>rfl
   | true=>exact absurd (a4.1 hb) g0
  have bn:actA pv R N (i+1) t=false:=by
   cases hb:actA pv R N (i+1) t with
   | false=>rfl
   | true =>
    obtain ⟨k1,k2⟩:=(zaM _ _).1 hb
    rw [<-HP.out] at k1;rw [<-b9.out] at k2
    exact absurd ⟨by omega,by omega⟩ g0
  have b0:Hid (SecX q (addF P M) (mulF P M m) pv R N i (t+1) x):=hid (by
   have:=HX.out
   rw [HQ.out] at this ⊢
   exact zi1 HL.out HS.out ai.out htn D this)
  have ag:Hid (mt (t+1)=mm):=hid (by rw [a6.out,a2.out]; show q ^ cntB _ (t+1)=q ^ cntB _ t; rw [zcr,D]; rfl)
  have ae:Hid (ww=wt (t+1)):=hid (by rw [b2.out,ac.out]; show q ^ cntB _ t=q ^ cntB _ (t+1); rw [zcr,bn]; rfl)
  clear D bn a4
  by_cases g1:p<=i
  focus
   have g1':¬ (p:Int) > (i:Int):=by omega
   have g1d:decide ((p:Int) > (i:Int))=false:=by simp; omega
   have g2:l<(i:Int):=by omega
   have g2d:decide (l<(i:Int))=true:=by simp; omega
  rotate_left
  focus
   have g1':(p:Int) > (i:Int):=by omega
   have g1d:decide ((p:Int) > (i:Int))=true:=by simp; omega
  rotate_left
  all_goals
   clear g0
   go_wp2
   go_roundg (gk - 1)
   case measure=>omega
   case rel=>exact ⟨t+1,x,by go_num,by rw [<-ae.out],by omega,by omega,hid (by rw [ag.out]; exact HO.out),b0,HB.out⟩
 obtain ⟨g1,g2⟩:=g0
 have g1':¬ (p:Int) > (i:Int):=by omega
 have g1d:decide ((p:Int) > (i:Int))=false:=by simp; omega
 have g1n:¬ i<p:=by omega
 have g1m:decide (i<p)=false:=by simp; omega
 have g2d:decide (l<(i:Int))=false:=by simp; omega
 have g2':¬ l<(i:Int):=by omega
 have D:actE pv R N i t=true:=a4.2 ⟨g1,g2⟩
 obtain ⟨z,hz⟩:∃ z:Nat->Int × Int × Int,z=fun y=>stepE q (addF P M) (mulF P M m) pv R N i t (x (y / q)) (y % q):=⟨_,rfl⟩
 have b0:Hid (SecX q (addF P M) (mulF P M m) pv R N i (t+1) z):=hid (by rw [hz]; exact zi2 D HX.out)
 have ag:Hid (mt (t+1)=mm*q):=hid (by rw [a6.out,a2.out]; show q ^ cntB _ (t+1)=q ^ cntB _ t*q; rw [zcr,D,if_pos rfl,Nat.pow_succ])
 have ae:Hid (wt (t+1)=if (i:Int)<l then ww*q else ww):=hid (by
  have bm:actA pv R N (i+1) t=true↔(i:Int)<l:=by
   rw [zaM,<-HP.out,<-b9.out]
   omega
  rw [b2.out,ac.out]
  show q ^ cntB _ (t+1)=if (i:Int)<l then q ^ cntB _ t*q else q ^ cntB _ t
  rw [zcr]
  by_cases g:(i:Int)<l
  ·rw [bm.2 g,if_pos g,if_pos rfl,Nat.pow_succ]
  have:actA pv R N (i+1) t=false:=by
   cases hb:actA pv R N (i+1) t with
   | false=>rfl
   | true=>exact absurd (bm.1 hb) g
  rw [this,if_neg g]; rfl)
 have d7:mm*q<=262144:=by rw [<-ag.out]; exact af.out (t+1) htn
 have HZ:Hid (∀ u a,a<q->z (u*q+a)=stepE q (addF P M) (mulF P M m) pv R N i t (x u) a):=hid fun u a ha=>by
  rw [hz]
  show stepE q (addF P M) (mulF P M m) pv R N i t (x ((u*q+a) / q)) ((u*q+a) % q)=_
  rw [Nat.mul_add_mod_self_right,Nat.mod_eq_of_lt ha,Nat.mul_comm u q,Nat.mul_add_div (by omega),Nat.div_eq_of_lt ha,Nat.add_zero]
 have cl:Hid (∀ u,u<mm->0<=(x u).1/\(x u).1<=262144/\0<=(x u).2.1/\(x u).2.1<(q:Int)/\0<=(x u).2.2/\(x u).2.2<=262144):=hid fun u hu=>by
  have hx:=HX.out
  rw [HQ.out] at hx
  have c9:u<(P ^ M) ^ cntB (actE pv R N i) t:=by rw [<-HQ.out]; rw [a6.out,a2.out] at hu; exact hu
  have k:=zk8 HL.out hx c9
  have c1:(P ^ M) ^ cntB (actA pv R N i) t<=262144:=by
   have:=af.out t ht
   rw [a2.out] at this;rw [<-HQ.out]
   refine Nat.le_trans (Nat.pow_le_pow_right (by omega) (zhT (fun s hs=>?_) t)) this
   obtain ⟨h1,h2⟩:=(zaM _ _).1 hs
   exact (zbQ _ _).2 ⟨by omega,by omega⟩
  have c2:(P ^ M) ^ cntB (actA pv R N (i+1)) t<=262144:=by
   have:=bo.out t ht
   rw [ac.out] at this;rw [<-HQ.out]
   exact this
  rw [HQ.out]
  omega
 have al:t<n:=htn
 clear hz D a4
 obtain ⟨gO,ce⟩:=exx gk
 subst ce
 go_upto_region 11 with fail
 go_loopg [15,45] mm (fun gg v15 uv wx=>∃ u:Nat,uv=.int .i64 (u:Nat)/\u<=mm/\mm<=u+gg/\Hid (Own wx w.heap.size 90 3 (.slice EA mm ec) mm (edgeCell x))/\Hid (Own wx w.heap.size 90 3 v15 (u*q) (edgeCell z))/\Hid ((Value.slice EA mm ec).ownBlock=none∨(Value.slice EA mm ec).ownBlock≠v15.ownBlock)/\Below w.heap.size w wx)
 case atStart=>exact ⟨0,rfl,by omega,by omega,HO,hid (by rw [Nat.zero_mul]; exact Own.nil _ _ _ _ _),hid (by
  cases hc:(Value.slice EA mm ec).ownBlock with
  | none=>exact .inl rfl
  | some b=>exact .inr (by simp [Value.ownBlock])),HB.out⟩
 clear HO HB
 obtain ⟨u,rfl,hu,cy,HO,C,Z,U⟩:=hrel
 have cz:(0:Int)<=(u:Int):=by omega
 have HB:=hid U
 obtain ⟨w5,c7⟩:=exx wr
 subst c7
 clear U
 by_cases hum:u<mm
 rotate_left
 ·have ak:¬ (u:Int)<(mm:Int):=by omega
  obtain rfl:mm=u:=by omega
  obtain ⟨ZA,zc,V⟩:=C.out.shape
  subst V
  have b4:Hid (Own w5 w.heap.size 90 3 (.slice ZA (mm*q) zc) (mt (t+1)) (edgeCell z)):=hid (by rw [ag.out]; exact C.out)
  by_cases g5:(i:Int)<l
  focus
   have g5':l > (i:Int):=by omega
   have bz:0<=(ww:Int)*(q:Int):=Int.mul_nonneg (by omega) (by omega)
   have bx:(ww:Int)*(q:Int)<=262144*256:=Int.mul_le_mul (by omega) (by omega) (by omega) (by omega)
   have bp:Hid ((ww:Int)*(q:Int)=(wt (t+1):Nat)):=hid (by rw [ae.out,if_pos g5]; push_cast; rfl)
  rotate_left
  focus
   have g5':¬ l > (i:Int):=by omega
   have bp:Hid (ww=wt (t+1)):=hid (by rw [ae.out,if_neg g5])
  rotate_left
  all_goals
   go_wp2
   go_roundg (gO - 1)
   case measure=>omega
   case rel=>exact ⟨t+1,z,by go_num,by rw [<-bp.out],by omega,by omega,b4,b0,HB.out⟩
 have ak:(u:Int)<(mm:Int):=by omega
 obtain ⟨eb,eo,ed,cj,_,da,_,_,B⟩:=HO.out.form (by omega)
 injection cj with hEA _ hec
 subst hEA
 have y0:w5.cell? ⟨eb,eo+u*3,none⟩=some (.int .i64 (x u).1):=B u hum 0 (by omega)
 have y1:w5.cell? ⟨eb,eo+u*3+1,none⟩=some (.int .i64 (x u).2.1):=B u hum 1 (by omega)
 have y2:w5.cell? ⟨eb,eo+u*3+2,none⟩=some (.int .i64 (x u).2.2):=B u hum 2 (by omega)
 clear B hec
 obtain ⟨k0,k1,k2,k3,k4,k5⟩:=cl.out u hum
 obtain ⟨E0,D⟩:=exx (x u)
 rw [<-D] at y0 y1 y2 k0 k1 k2 k3 k4 k5
 obtain ⟨F,L,O⟩:=E0
 have cu:=hid D
 clear D;replace y0:w5.cell? ⟨eb,eo+u*3,none⟩=some (.int .i64 F):=y0;replace y1:w5.cell? ⟨eb,eo+u*3+1,none⟩=some (.int .i64 L):=y1;replace y2:w5.cell? ⟨eb,eo+u*3+2,none⟩=some (.int .i64 O):=y2;replace k0:0<=F:=k0;replace k1:F<=262144:=k1;replace k2:0<=L:=k2;replace k3:L<(q:Int):=k3;replace k4:0<=O:=k4;replace k5:O<=262144:=k5
 obtain ⟨gP,cd⟩:=exx gk
 subst cd
 go_upto_region 13 with fail
 clear y0 y1 y2
 have rx:(w5.alloc (Obj.cells #[.int .i64 F,.int .i64 L,.int .i64 O] 90)).rowIs w5.heap.size 90 3 (fun j=>edgeCell (fun _=>(F,L,O)) 0 j):=World.rowIs_alloc w5 _ _ _ (fun j hj=>by
  match j,hj with
  | 0,_=>rfl
  | 1,_=>rfl
  | 2,_=>rfl)
 have kb:=aly w5 (Obj.cells #[.int .i64 F,.int .i64 L,.int .i64 O] 90)
 obtain ⟨w6,bh⟩:=exx (w5.alloc (Obj.cells #[.int .i64 F,.int .i64 L,.int .i64 O] 90))
 rw [<-bh] at rx kb ⊢
 obtain ⟨xb,bg⟩:=exx w5.heap.size
 have bq:Hid (∀ v:Value,(∀ k,v.ownBlock=some k->w.heap.size<=k/\k<w5.heap.size)->v.ownBlock≠some xb):=hid fun v hv e=>by
  have:=(hv xb e).2
  omega
 rw [<-bg] at rx ⊢
 have G:=hid rx
 have br:Hid (∀ v15,Own w5 w.heap.size 90 3 v15 (u*q) (edgeCell z)->v15.ownBlock≠some xb):=hid fun v15 ho=>bq.out v15 ho.lt
 have a1:=hid (br.out _ C.out)
 replace HO:=hid (HO.out.on kb);replace C:=hid (C.out.on kb);replace HB:=hid (onS HB.out kb);clear kb bh bg bq br rx
 go_upto_region 14 with fail
 go_loopg [15,50] q (fun gg v15 av wx=>∃ a:Nat,av=.int .i64 (a:Nat)/\a<=q/\q<=a+gg/\Hid (Own wx w.heap.size 90 3 (.slice (some ⟨eb,eo,none⟩) mm ec) mm (edgeCell x))/\Hid (Own wx w.heap.size 90 3 v15 (u*q+a) (edgeCell z))/\Hid ((Value.slice (some ⟨eb,eo,none⟩) mm ec).ownBlock=none∨(Value.slice (some ⟨eb,eo,none⟩) mm ec).ownBlock≠v15.ownBlock)/\Hid (wx.rowIs xb 90 3 (fun j=>edgeCell (fun _=>(F,L,O)) 0 j))/\Hid (v15.ownBlock≠some xb)/\Below w.heap.size w wx)
 case atStart=>exact ⟨0,rfl,by omega,by omega,HO,C,Z,G,a1,HB.out⟩
 clear HO C Z G a1 HB
 obtain ⟨a,rfl,ha,db,HO,C,Z,G,a1,U⟩:=hrel
 have dc:(0:Int)<=(a:Int):=by omega
 have HB:=hid U
 obtain ⟨w7,c6⟩:=exx wr
 subst c6
 clear U
 obtain ⟨ZA,zc,V⟩:=C.out.shape
 subst V
 by_cases haq:a<q
 rotate_left
 ·have aq:¬ (a:Int)<(q:Int):=by omega
  obtain rfl:q=a:=by omega
  have b6:Hid (Own w7 w.heap.size 90 3 (.slice ZA (u*q+q) zc) ((u+1)*q) (edgeCell z)):=hid (by rw [Nat.add_mul,Nat.one_mul]; exact C.out)
  go_wp2
  go_roundg (gP - 1)
  case measure=>omega
  case rel=>exact ⟨u+1,by go_num,by omega,by omega,HO,b6,Z,HB.out⟩
 have aq:(a:Int)<(q:Int):=by omega
 obtain ⟨cr,ab⟩:=exx (R t i)
 obtain ⟨mv,an⟩:=exx (mulF P M m a cr)
 obtain ⟨lv,ap⟩:=exx (addF P M L.toNat mv)
 have cf:cr<q:=by rw [ab,HQ.out]; exact HS.out.lt t al i ai.out
 have ao:mv<q:=by rw [an,HQ.out]; exact HL.out.mulLt _ _
 have d8:lv<q:=by rw [ap,HQ.out]; exact HL.out.addLt _ _
 obtain ⟨rb,ro,ci,d5,r0⟩:=(a5.out.on HB.out).at ai.out
 subst ci
 have cc:(i:Int)<(N:Int):=by omega
 rw [<-ab] at r0
 have bt:Hid (inV (P ^ M) (a:Int)=a):=hid (by rw [<-HQ.out]; exact zao haq)
 have bs:Hid (inV (P ^ M) (cr:Int)=cr):=hid (by rw [<-HQ.out]; exact zao cf)
 have ba:Hid (inV (P ^ M) (mv:Int)=mv):=hid (by rw [<-HQ.out]; exact zao ao)
 have bb:Hid (inV (P ^ M) L=L.toNat):=hid (by rw [<-HQ.out]; have:=zao (q:=q) (x:=L.toNat) (by omega); rwa [show ((L.toNat:Nat):Int)=L by omega] at this)
 have b8:=hid an
 have ah:=hid ap
 have cv:=hid ab
 clear ab an ap
 have x0:=G.out.cell (i:=0) (by omega)
 have x1:=G.out.cell (i:=1) (by omega)
 have x2:=G.out.cell (i:=2) (by omega)
 replace x0:w7.cell? ⟨xb,0,none⟩=some (.int .i64 F):=x0;replace x1:w7.cell? ⟨xb,1,none⟩=some (.int .i64 L):=x1;replace x2:w7.cell? ⟨xb,2,none⟩=some (.int .i64 O):=x2
 go_upto_region 16 with fail
 go_cut [19] (fun v19 wx=>∃ yb,v19=.pointer (some ⟨yb,0,none⟩)/\w7.heap.size<=yb/\Hid (wx.rowIs yb 90 3 (fun j=>edgeCell (fun _=>(F,((lv:Nat):Int),O)) 0 j))/\Below w7.heap.size w7 wx)
 case rest =>
  obtain ⟨yb,rfl,r,o,E⟩:=hcut
  obtain ⟨w8,c5⟩:=exx wc
  subst c5
  have I:Hid (w7.heap.size<=yb):=hid r
  have K8:=hid E
  clear x0 x1 x2 r0
  have x0:w8.cell? ⟨xb,0,none⟩=some (.int .i64 F):=(zab G.out E).cell (i:=0) (by omega)
  clear E r
  obtain ⟨F1,bl⟩:∃ F1:Int,F1=if p<i then F*(q:Nat)+(a:Nat) else F:=⟨_,rfl⟩
  obtain ⟨O1,bk⟩:∃ O1:Int,O1=if (i:Int)<l then O*(q:Nat)+(a:Nat) else O:=⟨_,rfl⟩
  have ax:0<=F*(q:Int):=Int.mul_nonneg k0 (by omega)
  have aw:F*(q:Int)<=262144*256:=Int.mul_le_mul k1 (by omega) (by omega) (by omega)
  have au:0<=O*(q:Int):=Int.mul_nonneg k4 (by omega)
  have ar:O*(q:Int)<=262144*256:=Int.mul_le_mul k5 (by omega) (by omega) (by omega)
  have bc:=hid bl
  have a0:=hid bk
  clear bl bk
  go_upto_if 71 with fail
  go_cut [] (fun wx=>Hid (wx.rowIs yb 90 3 (fun j=>edgeCell (fun _=>(F1,((lv:Nat):Int),O)) 0 j))/\Below w7.heap.size w7 wx)
  case first =>
   by_cases g3:p<i
   rotate_left
   ·have g3':¬ (p:Int)<(i:Int):=by omega
    have Y:Hid (w8.rowIs yb 90 3 (fun j=>edgeCell (fun _=>(F1,((lv:Nat):Int),O)) 0 j)):=hid (by rw [bc.out,if_neg g3]; exact o.out)
    go_wp2
    go_meet
    exact ⟨Y,K8.out⟩
   have g3':(p:Int)<(i:Int):=by omega
   have c0:=qc0 o.out
   have z0:=o.out.frozen 0
   have o1:=(o.out.set 0 (.int .i64 (F*(q:Nat)+(a:Nat)))).congr (g:=fun j=>edgeCell (fun _=>(F1,((lv:Nat):Int),O)) 0 j) fun j hj=>by
    match j,hj with
    | 0,_=>rw [if_pos rfl]; show _=Value.int .i64 F1; rw [bc.out,if_pos g3]
    | 1,_=>rfl
    | 2,_=>rfl
   have kb:=K8.out.setCell (p:=⟨yb,0,none⟩) I.out (.int .i64 (F*(q:Nat)+(a:Nat)))
   have Y:=hid o1
   have K9:=hid kb
   clear o1 kb
   go_wp2
   go_meet
   exact ⟨Y,K9.out⟩
  clear o K8
  obtain ⟨o,E⟩:=hcut
  obtain ⟨w9,c4⟩:=exx wc
  subst c4
  have K8:=hid E
  clear x0
  have x2:w9.cell? ⟨xb,2,none⟩=some (.int .i64 O):=(zab G.out E).cell (i:=2) (by omega)
  clear E
  go_upto_if 81 with fail
  go_cut [] (fun wx=>Hid (wx.rowIs yb 90 3 (fun j=>edgeCell (fun _=>(F1,((lv:Nat):Int),O1)) 0 j))/\Below w7.heap.size w7 wx)
  case first =>
   by_cases g4:(i:Int)<l
   rotate_left
   ·have g4':¬ l > (i:Int):=by omega
    have Y:Hid (w9.rowIs yb 90 3 (fun j=>edgeCell (fun _=>(F1,((lv:Nat):Int),O1)) 0 j)):=hid (by rw [a0.out,if_neg g4]; exact o.out)
    go_wp2
    go_meet
    exact ⟨Y,K8.out⟩
   have g4':l > (i:Int):=by omega
   have c2:=qc2 o.out
   have z2:=o.out.frozen 2
   have o1:=(o.out.set 2 (.int .i64 (O*(q:Nat)+(a:Nat)))).congr (g:=fun j=>edgeCell (fun _=>(F1,((lv:Nat):Int),O1)) 0 j) fun j hj=>by
    match j,hj with
    | 0,_=>rfl
    | 1,_=>rfl
    | 2,_=>rw [if_pos rfl]; show _=Value.int .i64 O1; rw [a0.out,if_pos g4]
   have kb:=K8.out.setCell (p:=⟨yb,2,none⟩) I.out (.int .i64 (O*(q:Nat)+(a:Nat)))
   have Y:=hid o1
   have K9:=hid kb
   clear o1 kb
   go_wp2
   go_meet
   exact ⟨Y,K9.out⟩
  clear o K8
  obtain ⟨o,E⟩:=hcut
  obtain ⟨wd,c3⟩:=exx wc
  subst c3
  clear x2
  have d0:=qc0 o.out
  have d1:=qc1 o.out
  have d2:=qc2 o.out
  have ck:Hid (z (u*q+a)=(F1,((lv:Nat):Int),O1)):=hid (by
   rw [HZ.out u a haq,<-cu.out]
   unfold stepE
   rw [bc.out,a0.out,ah.out,b8.out,cv.out,HP.out,b9.out])
  have kb:=aly wd (Obj.cells #[Value.int .i64 F1,Value.int .i64 (lv:Nat),Value.int .i64 O1] 90)
  have ky:=onS E kb
  have ra:=World.rowIs_alloc wd #[Value.int .i64 F1,Value.int .i64 (lv:Nat),Value.int .i64 O1] 90 (fun j=>edgeCell z (u*q+a) j) (fun j hj=>by
   unfold edgeCell
   rw [ck.out]
   match j,hj with
   | 0,_=>rfl
   | 1,_=>rfl
   | 2,_=>rfl)
  have b5:=hid (C.out.on ky)
  have W:=hid (HO.out.on ky)
  have J:=hid (zab G.out ky)
  have bd:=hid (onS HB.out ky)
  have bu:Hid (∀ j,j<3->(wd.alloc (Obj.cells #[Value.int .i64 F1,Value.int .i64 (lv:Nat),Value.int .i64 O1] 90)).cell? ((⟨wd.heap.size,0,none⟩:Addr).add j)=some (edgeCell z (u*q+a) j)):=hid fun j hj=>by
   match j,hj with
   | 0,_=>exact ra.cell (i:=0) (by simp)
   | 1,_=>exact ra.cell (i:=1) (by simp)
   | 2,_=>exact ra.cell (i:=2) (by simp)
  have ay:Hid (w.heap.size<=(wd.alloc (Obj.cells #[Value.int .i64 F1,Value.int .i64 (lv:Nat),Value.int .i64 O1] 90)).heap.size):=hid bd.out.size
  have ct:Hid (u*q+a<=1048576):=hid (by
   have h1:(u+1)*q<=mm*q:=Nat.mul_le_mul_right q hum
   rw [Nat.add_mul,Nat.one_mul] at h1
   omega)
  clear kb ky ra E
  go_wp2_with (first | (at_builtin; (refine zcH rfl (.tmp 89) (.tmp 91) rfl b5.out rfl (ad:=⟨wd.heap.size,0,none⟩) (c:=1) rfl bu.out ay.out ct.out ?_); intro v9 we o1 o2 o3))
  have b4:=hid o1
  have b3:=hid (W.out.kept o2 Z.out)
  have az:=hid (J.out.of_block (o2.block xb J.out.lt fun e=>a1.out e.symm))
  have cx:=hid (bd.out.grown o2 ay.out fun q e=>(b5.out.lt _ e).1)
  have bf:Hid ((Value.slice (some ⟨eb,eo,none⟩) mm ec).ownBlock=none∨(Value.slice (some ⟨eb,eo,none⟩) mm ec).ownBlock≠v9.ownBlock):=hid (by
   rcases Z.out with h | h
   ·exact .inl h
   refine .inr fun e=>?_
   rcases o3 with h3 | h3
   ·exact h (e.trans h3)
   ·have:=(W.out.lt _ (e.trans h3)).2
    omega)
  have b7:Hid (v9.ownBlock≠some xb):=hid fun e=>by
   rcases o3 with h3 | h3
   ·exact a1.out (h3.symm.trans e)
   have h5:=J.out.lt
   rw [h3] at e
   injection e with e
   omega
  clear o1 o2 o3 b5 W J bd bu ay d0 d1 d2 HO C Z G a1 HB ax aw au ar
  go_wp2
  go_roundg (gk - 1)
  case measure=>omega
  case rel=>exact ⟨a+1,by go_num,by omega,by omega,b3,b4,bf,az,b7,cx.out⟩
 have H:Hid (∀ X,Below w7.heap.size w7 X->X.cell? ⟨xb,0,none⟩=some (.int .i64 F)/\X.cell? ⟨xb,1,none⟩=some (.int .i64 L)/\X.cell? ⟨xb,2,none⟩=some (.int .i64 O)/\X.cell? ⟨rb,ro+i,none⟩=some (.int .i64 (cr:Nat))):=hid fun X hx=>⟨cellS hx x0,cellS hx x1,cellS hx x2,cellS hx r0⟩
 refine wp_region_held_drew (S:=fun X=>X.cell? ⟨xb,0,none⟩=some (.int .i64 F)/\X.cell? ⟨xb,1,none⟩=some (.int .i64 L)/\X.cell? ⟨xb,2,none⟩=some (.int .i64 O)/\X.cell? ⟨rb,ro+i,none⟩=some (.int .i64 (cr:Nat))) (by kernel_rfl) (H.out _ (Below.refl _ _).drew) (fun hHeld=>?_)
 obtain ⟨w8,hw,kb⟩:=dwx w7
 rw [<-hw] at hHeld ⊢;clear hw x0 x1 x2 r0
 have K8:=hid kb
 clear kb
 refine tkq 0 (h:=tkq 1 (h:=tkq 2 (h:=tkq 3 (h:=tkq 4 (h:=tkq 5 (h:=tkq 6 (h:=tkq 7 (h:=tkq 8 (h:=tkq 9 (h:=tkq 10 (h:=tkq 13 (h:=tkq 14 (h:=?_)))))))))))))
 clear hHeld
 refine rdq2 11 16 (h:=fun K hK=>?_) (h2:=fun K hK=>?_)
 focus
  go_simp
  go_wp2_with fail
  refine (zaX (a:Int) (cr:Int) (HG.out.at (onS HB.out K8.out) (onS HB.out K8.out).size)).mono ?_
  rintro e x9 ⟨rfl,kb⟩
  rw [bt.out,bs.out,<-b8.out];replace K8:=hid (onS K8.out kb);clear kb
  refine bkq hK (H.out _ K8.out) (h:=fun hHeld=>?_)
  clear hK K;clear hHeld
  refine rdq2 12 16 (h:=fun K hK=>?_) (h2:=fun K hK=>?_)
  focus
   go_simp
   go_wp2_with fail
   refine (zbX L (mv:Int) (HG.out.at (onS HB.out K8.out) (onS HB.out K8.out).size)).mono ?_
   rintro e x10 ⟨rfl,kb⟩
   rw [bb.out,ba.out,<-ah.out];replace K8:=hid (onS K8.out kb);clear kb
   refine bkq hK (H.out _ K8.out) (h:=fun hHeld=>?_)
   clear hK K
   refine tkq 15 (h:=?_)
   clear hHeld
   refine rdq 16 (h:=fun K hK=>?_)
   go_simp
   have ra:(x10.alloc (Obj.cells #[Value.int .i64 0,Value.int .i64 0,Value.int .i64 0] 90)).rowIs x10.heap.size 90 3 (fun _=>.int .i64 0):=World.rowIs_alloc _ _ _ _ (fun j hj=>by
    match j,hj with
    | 0,_=>rfl
    | 1,_=>rfl
    | 2,_=>rfl)
   have kb:=aly x10 (Obj.cells #[Value.int .i64 0,Value.int .i64 0,Value.int .i64 0] 90)
   obtain ⟨x11,Q⟩:=exx (x10.alloc (Obj.cells #[Value.int .i64 0,Value.int .i64 0,Value.int .i64 0] 90))
   rw [<-Q] at ra kb ⊢
   obtain ⟨yb,r⟩:=exx x10.heap.size
   rw [<-r] at ra ⊢
   have I:Hid (w7.heap.size<=yb):=hid (by rw [r]; exact K8.out.size)
   have o:=hid ra
   replace K8:=hid (onS K8.out kb);clear kb Q r ra
   refine bkq hK (H.out _ K8.out) (h:=fun hHeld=>?_)
   clear hK K
  rotate_left
  focus
   go_simp
   have ra:(x9.alloc (Obj.cells #[Value.int .i64 0,Value.int .i64 0,Value.int .i64 0] 90)).rowIs x9.heap.size 90 3 (fun _=>.int .i64 0):=World.rowIs_alloc _ _ _ _ (fun j hj=>by
    match j,hj with
    | 0,_=>rfl
    | 1,_=>rfl
    | 2,_=>rfl)
   have kb:=aly x9 (Obj.cells #[Value.int .i64 0,Value.int .i64 0,Value.int .i64 0] 90)
   obtain ⟨x12,Q⟩:=exx (x9.alloc (Obj.cells #[Value.int .i64 0,Value.int .i64 0,Value.int .i64 0] 90))
   rw [<-Q] at ra kb ⊢
   obtain ⟨yb,r⟩:=exx x9.heap.size
   rw [<-r] at ra ⊢
   have I:Hid (w7.heap.size<=yb):=hid (by rw [r]; exact K8.out.size)
   have o:=hid ra
   replace K8:=hid (onS K8.out kb);clear kb Q r ra
   refine bkq hK (H.out _ K8.out) (h:=fun hHeld=>?_)
   clear hK K;clear hHeld
   refine rdq 12 (h:=fun K hK=>?_)
   go_simp
   go_wp2_with fail
   refine (zbX L (mv:Int) (HG.out.at (onS HB.out K8.out) (onS HB.out K8.out).size)).mono ?_
   rintro e x13 ⟨rfl,kb⟩
   rw [bb.out,ba.out,<-ah.out];replace o:=hid (zab o.out kb);replace K8:=hid (onS K8.out kb);clear kb
   refine bkq hK (H.out _ K8.out) (h:=fun hHeld=>?_)
   clear hK K
   refine tkq 15 (h:=?_)
  rotate_left
 rotate_left 2
 focus
  go_simp
  have ra:(w8.alloc (Obj.cells #[Value.int .i64 0,Value.int .i64 0,Value.int .i64 0] 90)).rowIs w8.heap.size 90 3 (fun _=>.int .i64 0):=World.rowIs_alloc _ _ _ _ (fun j hj=>by
   match j,hj with
   | 0,_=>rfl
   | 1,_=>rfl
   | 2,_=>rfl)
  have kb:=aly w8 (Obj.cells #[Value.int .i64 0,Value.int .i64 0,Value.int .i64 0] 90)
  obtain ⟨x14,Q⟩:=exx (w8.alloc (Obj.cells #[Value.int .i64 0,Value.int .i64 0,Value.int .i64 0] 90))
  rw [<-Q] at ra kb ⊢
  obtain ⟨yb,r⟩:=exx w8.heap.size
  rw [<-r] at ra ⊢
  have I:Hid (w7.heap.size<=yb):=hid (by rw [r]; exact K8.out.size)
  have o:=hid ra
  replace K8:=hid (onS K8.out kb);clear kb Q r ra
  refine bkq hK (H.out _ K8.out) (h:=fun hHeld=>?_)
  clear hK K;clear hHeld
  refine rdq 11 (h:=fun K hK=>?_)
  go_simp
  go_wp2_with fail
  refine (zaX (a:Int) (cr:Int) (HG.out.at (onS HB.out K8.out) (onS HB.out K8.out).size)).mono ?_
  rintro e x15 ⟨rfl,kb⟩
  rw [bt.out,bs.out,<-b8.out];replace o:=hid (zab o.out kb);replace K8:=hid (onS K8.out kb);clear kb
  refine bkq hK (H.out _ K8.out) (h:=fun hHeld=>?_)
  clear hK K;clear hHeld
  refine rdq 12 (h:=fun K hK=>?_)
  go_simp
  go_wp2_with fail
  refine (zbX L (mv:Int) (HG.out.at (onS HB.out K8.out) (onS HB.out K8.out).size)).mono ?_
  rintro e x16 ⟨rfl,kb⟩
  rw [bb.out,ba.out,<-ah.out];replace o:=hid (zab o.out kb);replace K8:=hid (onS K8.out kb);clear kb
  refine bkq hK (H.out _ K8.out) (h:=fun hHeld=>?_)
  clear hK K
  refine tkq 15 (h:=?_)
 rotate_left
 all_goals
  clear hHeld
  refine rdq 17 (h:=fun K hK=>?_)
  have c0:=o.out.cell (i:=0) (by omega)
  have z0:=o.out.frozen 0
  have o1:=o.out.set 0 (.int .i64 F)
  have c1:=o1.cell (i:=1) (by omega)
  rw [if_neg (by omega)] at c1
  have z1:=o1.frozen 1
  have o2:=o1.set 1 (.int .i64 (lv:Nat))
  have c2:=o2.cell (i:=2) (by omega)
  rw [if_neg (by omega),if_neg (by omega)] at c2
  have z2:=o2.frozen 2
  have o3:=o2.set 2 (.int .i64 O)
  have kb:=((K8.out.setCell (p:=⟨yb,0,none⟩) I.out (.int .i64 F)).setCell (p:=⟨yb,1,none⟩) I.out (.int .i64 (lv:Nat))).setCell (p:=⟨yb,2,none⟩) I.out (.int .i64 O)
  have cq:=hid (o3.congr (g:=fun j=>edgeCell (fun _=>(F,((lv:Nat):Int),O)) 0 j) fun j hj=>by
   match j,hj with
   | 0,_=>rfl
   | 1,_=>rfl
   | 2,_=>rfl)
  have K9:=hid kb
  clear o1 o2 o3 kb
  go_simp
  clear c0 c1 c2 z0 z1 z2
  refine bkq hK (H.out _ K9.out) (h:=fun hHeld=>?_)
  clear hK K
  refine wpAnyH_done (by kernel_rfl) ?_ _
  clear hHeld
  go_wp2_with fail
  go_meet
  exact ⟨yb,rfl,I.out,cq,K9.out⟩
end Go.Proofs.YtgekjfpapmlndaaGreat