/- Merged texts of a claim: SortOwn, Order, VisMem, RenameMem, RenumMem, Section. -/
import Derived.Test.YtgekjfpapmlndaaGreatTM2
import Derived.Test.YtgekjfpapmlndaaGreatTM3
import Derived.Test.YtgekjfpapmlndaaGreatTM9
import Derived.Test.YtgekjfpapmlndaaGreatTM10
import Derived.Test.YtgekjfpapmlndaaGreatTM11
namespace Go.Proofs.YtgekjfpapmlndaaGreat
set_option maxRecDepth 100000
set_option maxHeartbeats 32000000
open KA KB KC KD KE KF
open Go.RowKit
section
variable {α:Type} [Inhabited α] {w:World} {base:Nat} {e:TypeId} {s n g o cap:Nat} {f f':Nat->Nat->Value}
theorem zfs (enc:α->Value) (w:World) (m g o:Nat) (d:Array α) (os:Array Obj) {cur:Array Value} {e:TypeId} {fr:Nat × Nat} (hg:w.heap[g]?=some (.cells cur e fr)) :
  (sortWorld enc w g o m d os).heap[g]?=some (.cells (Go.Sort.putCells enc o d cur) e fr):=by
 have hlt:=(Array.getElem?_eq_some_iff.1 hg).1
 unfold sortWorld
 rw [Go.Sort.heap_grow_old _ _ (by rw [Go.Sort.size_putRow]; exact hlt)]
 show (w.heap.modify g (Go.Sort.onCells (Go.Sort.putCells enc o d)))[g]?=_
 rw [Array.getElem?_modify,if_pos rfl,hg]
 rfl
theorem zbi (enc:α->Value) (w:World) (m g o:Nat) (d:Array α) (os:Array Obj):w.grownBy (sortWorld enc w g o m d os) (some g):=by
 refine ⟨rfl,rfl,rfl,by unfold sortWorld; rw [Go.Sort.size_grow,Go.Sort.size_putRow,Go.Sort.heap_ahead]; omega,fun k hk hne=>?_⟩
 unfold sortWorld
 rw [Go.Sort.heap_grow_old _ _ (by rw [Go.Sort.size_putRow]; exact hk)]
 show (w.heap.modify g _)[k]?=_
 rw [Array.getElem?_modify,if_neg (fun h=>hne (by rw [h]))]
theorem zd3 (enc:α->Value) (d:Array α) (m:Nat) (os:Array Obj) (h:Own w base e s (.slice (some ⟨g,o,none⟩) n cap) n f) (hd:d.size=n*s) (hf:∀ i,i<n->∀ j,j<s->enc d[i*s+j]! =f' i j) :
  Own (sortWorld enc w g o m d os) base e s (.slice (some ⟨g,o,none⟩) n cap) n f':=by
 rcases h with ⟨h,_⟩ | ⟨g',o',cap',cur,h1,hb,hg,hc,hm,h6,h7⟩
 ·cases h
 ·injection h1 with h1 _ h2
  injection h1 with h1
  injection h1 with h1 h3
  subst h1 h2 h3
  refine .inr ⟨g,o,cap,_,rfl,hb,zfs enc w m g o d os hg,hc,hm,by simpa [Go.Sort.putCells] using h6,fun i hi j hj=>?_⟩
  have hlt:i*s+j<n*s:=by
   have h1:(i+1)*s<=n*s:=Nat.mul_le_mul_right _ hi
   rw [Nat.add_mul,Nat.one_mul] at h1
   omega
  have hcur:o+i*s+j<cur.size:=by
   have h1:n*s<=cap*s:=Nat.mul_le_mul_right _ hc
   omega
  simp only [Go.Sort.putCells,Array.getElem?_mapIdx]
  rw [Array.getElem?_eq_getElem hcur,Option.map_some,if_pos ⟨by omega,by omega⟩,show o+i*s+j - o=i*s+j by omega,hf i hi j hj]
theorem ze4 (enc:α->Value) (d:Array α) (h:Own w base e s (.slice (some ⟨g,o,none⟩) n cap) n f) (hs:0<s) (hn:0<n) (hd:d.size=n*s) (hf:∀ i,i<n->∀ j,j<s->enc d[i*s+j]! =f i j) :
  Go.Sort.Holds enc w g o d:=by
 intro t ht
 obtain ⟨g',o',c',h1,_,_,_,_,hc⟩:=h.form hn
 injection h1 with h1 _ h2
 injection h1 with h1
 injection h1 with h1 h3
 subst h1 h2 h3
 have h1:t / s<n:=Nat.div_lt_of_lt_mul (by rw [Nat.mul_comm]; omega)
 have h2:t % s<s:=Nat.mod_lt _ hs
 have h3:=hc _ h1 _ h2
 have h4:t / s*s+t % s=t:=by rw [Nat.mul_comm]; exact Nat.div_add_mod t s
 rw [Nat.add_assoc,h4,<-hf _ h1 _ h2,h4] at h3
 exact ⟨h3,h.frozen _⟩
end
theorem zcP {α:Type} [Inhabited α] {d d':Array α} (h:Go.Sort.PermIn 0 d.size d d'):d'.toList.Perm d.toList:=by
 obtain ⟨h1,_,h3⟩:=h
 have e1:d'.extract 0 d.size=d':=by rw [<-h1]; simp
 have e2:d.extract 0 d.size=d:=by simp
 rw [e1,e2] at h3
 exact h3
def CmpN (g:Nat) (cb:Array Value) (n:Nat) (cf:Nat->Nat->Int) (w:World) (row:Option Nat):Prop :=
 ∀ W,w.grownBy W row->∀ u v,u<n->v<n->Calls Tryz.prog g (#[.int .i64 (u:Nat),.int .i64 (v:Nat)] ++ cb) W fun e w'=>e=.returned (.int .i64 (cf u v))/\GG W w'
def encN (n:Nat) (x:Fin n):Value:=.int .i64 (x.val:Nat)
theorem zeu (g:Nat) (cb:Array Value) (n:Nat) (cf:Nat->Nat->Int) (key:Nat->Nat) (w:World) (base:Nat) (v:Value)
  (eg:∀ args w,(callFunc g args).run Tryz.prog w=.ok (.enter g args) w) (hcmp:CmpN g cb n cf w v.ownBlock) (hlt:∀ u v,u<n->v<n->(cf u v<0↔key u<key v))
  (h:Own w base 3 1 v n (fun i _=>.int .i64 (i:Nat))) (hn:0<n) (hsz:n<=1048576) :
  Calls Tryz.prog 156 #[v,.func (.func g) #[] cb] w fun e w'=>e=.returned (.tuple #[]) /\
   ∃ l:List Nat,l.Perm (List.range n)/\(∀ p q,p<q->q<n->key (l.getD p 0)<=key (l.getD q 0))/\Own w' base 3 1 v n (fun i _=>.int .i64 (l.getD i 0:Nat))/\w.grownBy w' v.ownBlock:=by
 obtain ⟨blk,off,cap,rfl,_,hb,_⟩:=h.form hn
 haveI:Inhabited (Fin n):=⟨⟨0,hn⟩⟩
 have hda:∀ i (hi:i<n),((Array.ofFn fun i:Fin n=>i)[i]!:Fin n)=⟨i,hi⟩:=fun i hi=>by
  rw [getElem!_pos _ i (by simpa using hi)]
  simp
 have hds:(Array.ofFn fun i:Fin n=>i).size=n:=by simp
 have hlist:(Array.ofFn fun i:Fin n=>i).toList.map (·.val)=List.range n:=by
  apply List.ext_getElem (by simp)
  intro i h1 h2
  simp
 obtain ⟨d,hd⟩:∃ d:Array (Fin n),d=Array.ofFn fun i=>i:=⟨_,rfl⟩
 rw [<-hd] at hda hds hlist
 have hO:Go.Sort.SWO (ltOf fun x y:Fin n=>cf x.val y.val):=by
  have hl:∀ x y:Fin n,ltOf (fun x y:Fin n=>cf x.val y.val) x y=decide (key x.val<key y.val):=fun x y=>by
   unfold ltOf
   exact decide_eq_decide.2 (hlt x.val y.val x.2 y.2)
  exact ⟨fun x=>by rw [hl]; simp,fun x y z h1 h2=>by rw [hl] at *; simp at *; omega,fun x y z h1 h2=>by rw [hl] at *; simp at *; omega⟩
 have hH:Go.Sort.Holds (encN n) w blk off d:=ze4 (encN n) d h (by omega) hn (by rw [hds]; omega) fun i hi j hj=>by
  obtain rfl:j=0:=by omega
  rw [show i*1+0=i by omega,hda i hi]
  rfl
 have hc:CmpLays1 Tryz.prog g cb (encN n) (fun x y:Fin n=>cf x.val y.val) blk off d.size w:=fun m os dk _ x y =>
  hcmp _ (zbi (encN n) w m blk off dk os) x.val y.val x.2 y.2
 have hcon:=Any.slices_SortFunc Tryz.sortInts (encN n) (fun _=>rfl) (fun x y:Fin n=>cf x.val y.val) hO g cb blk off cap d w eg hc hH hb (by rw [hds]; omega)
 rw [hds] at hcon
 refine Calls.mono (show Calls Tryz.prog 156 _ _ _ from hcon) ?_
 rintro e w' ⟨rfl,d',m,os,hp,hsrt,rfl⟩
 refine ⟨rfl,d'.toList.map (·.val),?_,?_,?_,zbi (encN n) w m blk off d' os⟩
 ·rw [<-hlist]
  exact (zcP (by rw [hds]; exact hp)).map _
 ·intro p q hpq hq
  have hs':d'.size=n:=by have:=hp.1; omega
  have h1:=hsrt p q (by omega) hpq hq
  have e1:∀ i,i<n->(d'.toList.map (·.val)).getD i 0=(d'[i]!:Fin n).val:=fun i hi=>by
   rw [List.getD_eq_getElem?_getD,List.getElem?_map,Array.getElem?_toList,getElem!_pos d' i (by omega),Array.getElem?_eq_getElem (by omega)]
   rfl
  rw [e1 p (by omega),e1 q hq]
  have h2:¬ cf (d'[q]!:Fin n).val (d'[p]!:Fin n).val<0:=by simpa [ltOf] using h1
  rw [hlt _ _ (Fin.isLt _) (Fin.isLt _)] at h2
  omega
 ·have hs':d'.size=n:=by have:=hp.1; omega
  refine zd3 (encN n) d' m os h (by omega) fun i hi j hj=>?_
  obtain rfl:j=0:=by omega
  rw [show i*1+0=i by omega,List.getD_eq_getElem?_getD,List.getElem?_map,Array.getElem?_toList,getElem!_pos d' i (by omega),Array.getElem?_eq_getElem (by omega)]
  rfl
def encE (x:Int × Int × Int):List Value:=[.int .i64 x.1,.int .i64 x.2.1,.int .i64 x.2.2]
theorem zhE (x y:Int × Int × Int):lessV x.1 x.2.1 y.1 y.2.1<0↔ltE x y:=zbR
theorem zcg (n:Nat) (x:Nat->Int × Int × Int) (w:World) (base:Nat) (v:Value)
  (h:Own w base 90 3 v n (edgeCell x)) (hn:0<n) (hsz:n<=1048576) :
  Calls Tryz.prog 150 #[v,.func (.func 151) #[] #[]] w fun e w'=>e=.returned (.tuple #[]) /\
   ∃ y:Nat->Int × Int × Int,((List.range n).map y).Perm ((List.range n).map x)/\(∀ p q,p<q->q<n->¬ ltE (y q) (y p))/\Own w' base 90 3 v n (edgeCell y)/\w.grownBy w' v.ownBlock:=by
 obtain ⟨blk,off,cap,rfl,_,hb,_⟩:=h.form hn
 have eg:∀ args w,(callFunc 151 args).run Tryz.prog w=.ok (.enter 151 args) w:=enters_of Tryz.func151 (by kernel_rfl) rfl
 obtain ⟨d,hd⟩:∃ d:Array (Int × Int × Int),d=((List.range n).map x).toArray:=⟨_,rfl⟩
 have hds:d.size=n:=by rw [hd]; simp
 have hda:∀ i,i<n->d[i]! =x i:=fun i hi=>by
  rw [getElem!_pos d i (by omega)]
  simp [hd]
 have hO:Go.Sort.SWO (ltOf fun x y:Int × Int × Int=>lessV x.1 x.2.1 y.1 y.2.1):=by
  have hl:∀ x y:Int × Int × Int,ltOf (fun x y:Int × Int × Int=>lessV x.1 x.2.1 y.1 y.2.1) x y=decide (x.1<y.1∨x.1=y.1/\x.2.1<y.2.1):=fun x y=>by
   unfold ltOf
   exact decide_eq_decide.2 zbR
  exact ⟨fun x=>by rw [hl]; simp,fun x y z h1 h2=>by rw [hl] at *; simp at *; omega,fun x y z h1 h2=>by rw [hl] at *; simp at *; omega⟩
 have hfl:∀ (d:Array (Int × Int × Int)) (y:Nat->Int × Int × Int),d.size=n->(∀ i,i<n->d[i]! =y i)->∀ i,i<n->∀ j,j<3->(Go.Sort.flatK encE 3 d)[i*3+j]! =edgeCell y i j:=fun d y hs hy i hi j hj=>by
  rw [Go.Sort.get_flatK encE 3 d _ (by omega),show (i*3+j) / 3=i by omega,show (i*3+j) % 3=j by omega,hy i hi]
  match j,hj with
  | 0,_=>rfl
  | 1,_=>rfl
  | 2,_=>rfl
 have hH:Go.Sort.HoldsK encE 3 w blk off d:=ze4 id (Go.Sort.flatK encE 3 d) h (by omega) hn (by simp [hds]) (hfl d x hds hda)
 have hc:CmpLays Tryz.prog 151 #[] encE 3 (fun x y:Int × Int × Int=>lessV x.1 x.2.1 y.1 y.2.1) blk off d.size w:=fun m os dk _ x y =>
  (zh0 x.1 x.2.1 x.2.2 y.1 y.2.1 y.2.2 _).mono fun _ _ ⟨he,_,hg⟩=>⟨he,hg⟩
 have hcon:=AnyQ.slices_SortFunc Tryz.sortEdges 3 Tryz.isAgg90 Tryz.sizeOf90 encE (fun _=>rfl) (fun x v hv=>by simp [encE] at hv; rcases hv with rfl | rfl | rfl <;> rfl) (fun x y:Int × Int × Int=>lessV x.1 x.2.1 y.1 y.2.1) hO 151 #[] blk off cap d w eg hc hH hb (by rw [hds]; omega)
 rw [hds] at hcon
 refine Calls.mono (show Calls Tryz.prog 150 _ _ _ from hcon) ?_
 rintro e w' ⟨rfl,d',m,os,hp,hsrt,rfl⟩
 have hs':d'.size=n:=by have:=hp.1; omega
 have hmap:(List.range n).map (fun i=>d'[i]!)=d'.toList:=by
  apply List.ext_getElem (by simp [hs'])
  intro i h1 h2
  have hi:i<d'.size:=by simpa using h2
  simp [getElem!_pos d' i hi]
 refine ⟨rfl,fun i=>d'[i]!,?_,?_,?_,zbi id w m blk off _ os⟩
 ·rw [hmap]
  have:=zcP (d:=d) (d':=d') (by rw [hds]; exact hp)
  rw [hd] at this
  exact this
 ·intro p q hpq hq hlt
  have h1:=hsrt p q (by omega) hpq hq
  have h2:¬ ltE (d'[q]!) (d'[p]!):=by
   rw [<-zhE]
   simpa [ltOf] using h1
  exact h2 hlt
 ·exact zd3 id (Go.Sort.flatK encE 3 d') m os h (by simp [hs']) (hfl d' _ hs' fun _ _=>rfl)
theorem ze5 {l:List Nat} (h:l.Nodup) {i j:Nat} (hi:i<l.length) (hj:j<l.length) (e:l[i]=l[j]):i=j:=by
 have h1:=List.pairwise_iff_getElem.1 h
 rcases Nat.lt_trichotomy i j with h2 | h2 | h2
 ·exact absurd e (h1 i j hi hj h2)
 ·exact h2
 ·exact absurd e.symm (h1 j i hj hi h2)
def posIn (l:List Nat):Nat->Nat->Nat
 | 0,_=>0
 | k+1,u=>if l.getD k 0=u then k else posIn l k u
theorem ziG {l:List Nat} (hn:l.Nodup) {p:Nat}:∀ {k:Nat},p<k->k<=l.length->posIn l k (l.getD p 0)=p:=by
 intro k
 induction k with
 | zero=>intro h; omega
 | succ k ih =>
  intro hp hk
  unfold posIn
  by_cases e:l.getD k 0=l.getD p 0
  ·rw [if_pos e]
   rw [List.getD_eq_getElem?_getD,List.getD_eq_getElem?_getD,List.getElem?_eq_getElem (by omega),List.getElem?_eq_getElem (by omega)] at e
   exact ze5 hn (by omega) (by omega) e
  ·rw [if_neg e]
   exact ih (by
    by_cases h:p=k
    ·subst h; exact absurd rfl e
    ·omega) (by omega)
theorem zgK {key:Nat->Nat} {n:Nat} {l:List Nat} (hp:l.Perm (List.range n)) (hs:∀ p q,p<q->q<n->key (l.getD p 0)<=key (l.getD q 0)) (hk:∀ a b,a<n->b<n->key a=key b->a=b) {u:Nat} (hu:u<n):posIn l n u=rankOf key n u:=by
 have hlen:l.length=n:=by have:=hp.length_eq; simpa using this
 have hnd:l.Nodup:=hp.nodup_iff.2 List.nodup_range
 have hmem:u ∈ l:=hp.mem_iff.2 (List.mem_range.2 hu)
 obtain ⟨p,hpl,hpu⟩:=List.getElem_of_mem hmem
 have hg:∀ q (h:q<l.length),l.getD q 0=l[q]:=fun q h=>by rw [List.getD_eq_getElem?_getD,List.getElem?_eq_getElem h]; rfl
 have hlt:∀ q,q<n->l.getD q 0<n:=fun q hq=>by
  rw [hg q (by omega)]
  exact List.mem_range.1 (hp.mem_iff.1 (List.getElem_mem _))
 have e:l.getD p 0=u:=by rw [hg p hpl,hpu]
 have h1:=zer (k:=key) hp (fun p q hpq hq=>by
  have h1:=hs p q hpq (by omega)
  rcases Nat.lt_or_ge (key (l.getD p 0)) (key (l.getD q 0)) with h2 | h2
  ·exact h2
  ·have h3:=hk _ _ (hlt p (by omega)) (hlt q (by omega)) (by omega)
   rw [hg p (by omega),hg q (by omega)] at h3
   exact absurd (ze5 hnd (by omega) (by omega) h3) (by omega)) hpl
 rw [<-e,h1]
 exact ziG hnd (by omega) (by omega)
theorem ziH (n:Nat) (w:World) (hn:n<=1048576) :
  Calls Tryz.prog 132 #[.int .i64 0,.int .i64 (n:Nat)] w fun e w'=>Below w.heap.size w w'/\∃ v,e=.returned v/\Own w' w.heap.size 3 1 v n (fun i _=>.int .i64 (i:Nat)):=by
 have H0:Hid (Own w w.heap.size 3 1 (.slice none 0 0) 0 (fun i _=>.int .i64 (i:Nat))):=Own.nil _ _ _ _ _
 go_enter Tryz.func132, Tryz.ntmps132
 go_wp2
 obtain ⟨n1,hn1⟩:∃ x:Value,x=.slice none 0 0:=⟨_,rfl⟩
 rw [<-hn1] at H0 ⊢;clear hn1
 go_loopg [5,6] n (fun gg sv iv wx=>∃ k:Nat,iv=.int .i64 (k:Nat)/\k<=n/\n<=k+gg/\Hid (Own wx w.heap.size 3 1 sv k (fun i _=>.int .i64 (i:Nat)))/\Below w.heap.size w wx)
 case atStart=>exact ⟨0,rfl,by omega,by omega,H0,Below.refl _ _⟩
 case round =>
  clear H0
  obtain ⟨k,rfl,hk,hkg,HO,hB⟩:=hrel
  by_cases hlt:k<n
  ·have hlt':(k:Int)<(n:Int):=by omega
   have HZ:=hid hB.size
   have kb:Below wr.heap.size wr (wr.alloc (Obj.cells #[Value.int .i64 (k:Nat)] 3)):=(Below.refl _ _).alloc (Nat.le_refl _) _
   have HB1:=hid (onS hB kb)
   have HO1:=hid (HO.out.on kb)
   have HC1:Hid ((wr.alloc (Obj.cells #[Value.int .i64 (k:Nat)] 3)).cell? ⟨wr.heap.size,0,none⟩=some (.int .i64 (k:Nat))):=by show _=_; simp
   have HZ1:=hid HB1.out.size
   have HL1:Hid (k<=1048576):=by show _<=_; omega
   clear kb hB
   go_wp2_with (first | (at_builtin; (refine zbd rfl (.tmp 13) (.tmp 15) rfl (f:=fun i=>(i:Nat)) HO1.out rfl (ad:=⟨wr.heap.size,0,none⟩) (c:=1) rfl HC1.out HZ1.out HL1.out ?_); intro v17 w17 o1 o2 o3))
   have HO2:=hid o1
   have HB2:=hid (HB1.out.grown o2 HZ1.out fun q e=>(Own.lt HO1.out q e).1)
   clear o1 o2 o3
   go_wp2
   go_roundg (gk - 1)
   case measure=>omega
   case rel=>exact ⟨k+1,by go_num,by omega,by omega,HO2,HB2.out⟩
  ·have hlt':¬ (k:Int)<(n:Int):=by omega
   obtain rfl:k=n:=by omega
   have HB:=hid hB
   clear hB
   go_wp2
   go_ret
   exact ⟨HB.out,_,rfl,HO.out⟩
def eRow (x:Nat->Int × Int × Int) (k:Nat):Value:=edgeCell x (k / 3) (k % 3)
theorem zgL {w:World} {b n:Nat} {t:TypeId} {x:Nat->Int × Int × Int} (h:w.rowIs b t (n*3) (eRow x)) {u:Nat} (hu:u<n) :
  w.cell? ⟨b,u*3,none⟩=some (.int .i64 (x u).1)/\w.cell? ⟨b,u*3+1,none⟩=some (.int .i64 (x u).2.1)/\w.cell? ⟨b,u*3+2,none⟩=some (.int .i64 (x u).2.2):=by
 have h0:=h.cell (i:=u*3) (by omega)
 have h1:=h.cell (i:=u*3+1) (by omega)
 have h2:=h.cell (i:=u*3+2) (by omega)
 unfold eRow at h0 h1 h2
 rw [show u*3 / 3=u by omega,show u*3 % 3=0 by omega] at h0
 rw [show (u*3+1) / 3=u by omega,show (u*3+1) % 3=1 by omega] at h1
 rw [show (u*3+2) / 3=u by omega,show (u*3+2) % 3=2 by omega] at h2
 exact ⟨h0,h1,h2⟩
theorem zh1 (f l t f' l' t':Int) (W:World) :
  Calls Tryz.prog 151 #[.agg #[.int .i64 f,.int .i64 l,.int .i64 t],.agg #[.int .i64 f',.int .i64 l',.int .i64 t']] W fun e w'=>e=.returned (.int .i64 (lessV f l f' l'))/\∃ q os',w'=Go.Sort.grow (W.drewN q) os' :=
 (zh0 f l t f' l' t' W).mono fun _ _ ⟨he,_,hg⟩=>⟨he,hg⟩
theorem zev (bx lb n c:Nat) (x:Nat->Int × Int × Int) (W:World) (p:W.cell? ⟨bx,0,none⟩=some (.slice (some ⟨lb,0,none⟩) n c)) (hx:W.rowIs lb 90 (n*3) (eRow x)) (u v:Nat) (hu:u<n) (hv:v<n) :
  Calls Tryz.prog 152 #[.int .i64 (u:Nat),.int .i64 (v:Nat),.pointer (some ⟨bx,0,none⟩)] W fun e w'=>e=.returned (.int .i64 (lessV (x u).1 (x u).2.1 (x v).1 (x v).2.1))/\GG W w':=by
 have hbx:=World.block_lt_of_cell? W _ p
 obtain ⟨u0,u1,u2⟩:=zgL hx hu
 obtain ⟨v0,v1,v2⟩:=zgL hx hv
 have q:=fun k os=>_root_.Go.cell_grown hbx p k os
 have a0:=fun k os=>_root_.Go.cell_grown (World.block_lt_of_cell? W _ u0) u0 k os
 have a1:=fun k os=>_root_.Go.cell_grown (World.block_lt_of_cell? W _ u1) u1 k os
 have a2:=fun k os=>_root_.Go.cell_grown (World.block_lt_of_cell? W _ u2) u2 k os
 have b0:=fun k os=>_root_.Go.cell_grown (World.block_lt_of_cell? W _ v0) v0 k os
 have b1:=fun k os=>_root_.Go.cell_grown (World.block_lt_of_cell? W _ v1) v1 k os
 have b2:=fun k os=>_root_.Go.cell_grown (World.block_lt_of_cell? W _ v2) v2 k os
 have hu':(u:Int)<(n:Int):=by omega
 have hv':(v:Int)<(n:Int):=by omega
 have mixed:Tryz.prog.follows .mixedOrders=true:=by kernel_rfl
 have hc:=fun W=>zh1 (x u).1 (x u).2.1 (x u).2.2 (x v).1 (x v).2.1 (x v).2.2 W
 clear p hx u0 u1 u2 v0 v1 v2 hbx hu hv
 generalize (x u).1=f at *
 generalize (x u).2.1=l at *
 generalize (x u).2.2=t at *
 generalize (x v).1=f' at *
 generalize (x v).2.1=l' at *
 generalize (x v).2.2=t' at *
 generalize lessV f l f' l'=r at *
 go_enter Tryz.func152, Tryz.ntmps152
 go_upto_region 1 with fail
 go_quiet_grown (first | (go_at_call 151; refine Calls.grown_of (hc _)))
 go_wp2_with fail
 go_ret
 exact ⟨rfl,_,_,rfl⟩
def CmpB (bx n:Nat) (cf:Nat->Nat->Int) (w:World):Prop :=
 ∀ W,Below w.heap.size w W->∀ u v,u<n->v<n->Calls Tryz.prog 152 #[.int .i64 (u:Nat),.int .i64 (v:Nat),.pointer (some ⟨bx,0,none⟩)] W fun e w'=>e=.returned (.int .i64 (cf u v))/\GG W w'
theorem zgM (bx n:Nat) (cf:Nat->Nat->Int) (key:Nat->Nat) (w:World) (hc:CmpB bx n cf w) (hlt:∀ u v,u<n->v<n->(cf u v<0↔key u<key v)) (hk:∀ a b,a<n->b<n->key a=key b->a=b) (hn:0<n) (hn2:n<=1048576) :
  Calls Tryz.prog 81 #[.int .i64 (n:Nat),.func (.func 152) #[] #[.pointer (some ⟨bx,0,none⟩)]] w fun e w' =>
   ∃ go,e=.returned (.slice (some ⟨go,0,none⟩) n n)/\w'.rowIs go 3 n (fun u=>.int .i64 (rankOf key n u:Nat))/\w.heap.size<=go/\Below w.heap.size w w':=by
 have eg:∀ args w,(callFunc 152 args).run Tryz.prog w=.ok (.enter 152 args) w:=enters_of Tryz.func152 (by kernel_rfl) rfl
 have HC:=hid hc
 have HLT:=hid hlt
 have HK:=hid hk
 have HEG:=hid eg
 clear hc hlt hk eg
 go_enter Tryz.func81, Tryz.ntmps81
 go_wp2_with fail
 refine (ziH n w hn2).mono ?_
 rintro e w1 ⟨hB,v,rfl,hv⟩
 obtain ⟨lb,lo,lc,rfl,hlb,hlb1,_⟩:=hv.form hn
 go_wp2_with fail
 refine (zeu 152 #[.pointer (some ⟨bx,0,none⟩)] n cf key w1 w.heap.size _ HEG.out (fun W hg u v hu hv2=>HC.out W (hB.grown hg hB.size (fun k e=>(Own.lt hv k e).1)) u v hu hv2) HLT.out hv hn hn2).mono ?_
 rintro e w2 ⟨rfl,l,hl1,hl2,hl3,hg2⟩
 have hB2:Below w.heap.size w w2:=hB.grown hg2 hB.size (fun k e=>(Own.lt hv k e).1)
 have hlen:l.length=n:=by have:=hl1.length_eq; simpa using this
 have hmem:∀ i,i<n->l.getD i 0<n:=fun i hi=>by
  rw [List.getD_eq_getElem?_getD,List.getElem?_eq_getElem (by omega)]
  exact List.mem_range.1 (hl1.mem_iff.1 (List.getElem_mem _))
 have HM:=hid hmem
 have HRK:Hid (∀ u,u<n->posIn l n u=rankOf key n u):=fun u hu=>zgK hl1 hl2 HK.out hu
 have HL:=hid hl3
 have hl2b:=(hl3.lt lb rfl).2
 have HLB:Hid (lb<w2.heap.size):=hl2b
 have HW2:=hid hB2
 have hz2:=hB2.size
 have hmk:=fun W=>zah (P:=Tryz.prog) 22 3 _ 8 Tryz.underlying22 Tryz.infoInt rfl (n:Int) (by omega) (by omega) (by omega) W
 simp only [Int.toNat_natCast] at hmk
 clear hv hB hl1 hl2 hl3 hg2 hmem hlen hlb1
 go_upto_region 4 with fail
 have hr3:=World.rowIs_made w2 (.int .i64 0) n 3
 have kb3:Below w2.heap.size w2 (w2.alloc (Obj.cells (madeCells #[Value.int .i64 0] n) 3)):=(Below.refl _ _).alloc (Nat.le_refl _) _
 obtain ⟨w3,hw3⟩:∃ W,W=w2.alloc (Obj.cells (madeCells #[Value.int .i64 0] n) 3):=⟨_,rfl⟩
 obtain ⟨go,hgo⟩:∃ b,b=w2.heap.size:=⟨_,rfl⟩
 have HGO:=hid hgo
 rw [<-hgo] at hr3;rw [<-hw3] at hr3 kb3 ⊢;rw [<-hgo]
 have hr4:w3.rowIs go 3 n (fun u=>.int .i64 (posIn l 0 u:Nat)):=hr3
 clear hw3 hgo hmk hr3 hB2 hl2b
 go_wp2
 go_loopg [18] n (fun gg iv wx=>∃ k:Nat,iv=.int .i64 (k:Nat)/\k<=n/\n<=k+gg/\wx.rowIs go 3 n (fun u=>.int .i64 (posIn l k u:Nat))/\Below w2.heap.size w2 wx)
 case atStart=>exact ⟨0,rfl,by omega,by omega,hr4,kb3⟩
 case round =>
  clear hr4 kb3
  obtain ⟨k,rfl,hk,hkg,hrow,hB⟩:=hrel
  have hk0:(0:Int)<=(k:Int):=by omega
  by_cases hlt:k<n
  ·have hlt':(k:Int)<(n:Int):=by omega
   obtain ⟨b5,o5,c5,h5,_,_,_,_,hc5⟩:=(HL.out.on hB).form hn
   injection h5 with h5 _ h7
   injection h5 with h5
   injection h5 with h5 h6
   subst h5 h6 h7
   have x0:=hc5 k hlt 0 (by omega)
   rw [Nat.mul_one,Nat.add_zero] at x0
   have hm:=HM.out k hlt
   obtain ⟨m,hmm⟩:∃ m,m=l.getD k 0:=⟨_,rfl⟩
   have HMM:=hid hmm
   rw [<-hmm] at x0 hm
   have hm':(m:Int)<(n:Int):=by omega
   have z0:=hrow.frozen m
   have y0:=hrow.cell hm
   clear hc5 hmm
   have hrs:=hrow.set m (.int .i64 (k:Nat))
   have hBs:=hB.setCell (p:=⟨go,m,none⟩) (by have:=HGO.out; show _<=go; omega) (.int .i64 (k:Nat))
   have HRS:=hid hrs
   have HBS:=hid hBs
   clear hrs hBs hrow hB
   go_wp2
   go_roundg (gk - 1)
   case measure=>omega
   case rel =>
    refine ⟨k+1,by go_num,by omega,by omega,HRS.out.congr fun u _=>?_,HBS.out⟩
    show (if u=m then _ else _)=Value.int .i64 ((if l.getD k 0=u then k else posIn l k u:Nat):Int)
    by_cases e:u=m
    ·rw [if_pos e,if_pos (by rw [e,<-HMM.out])]
    ·rw [if_neg e,if_neg (by rw [<-HMM.out]; exact fun h=>e h.symm)]
  ·have hlt':¬ (k:Int)<(n:Int):=by omega
   obtain rfl:k=n:=by omega
   have HB:=hid hB
   have HR:=hid hrow
   clear hB hrow
   go_wp2
   go_ret
   refine ⟨go,rfl,HR.out.congr fun u hu=>?_,by rw [HGO.out]; exact hz2,HW2.out.trans (HB.out.mono hz2)⟩
   show Value.int .i64 (posIn l k u:Nat)=_
   rw [HRK.out u hu]
def RenOut (T:Trel) (y:Nat->Nat->Int × Int × Int) (w:World) (A B:Option Addr) (c d:Nat):Prop:=ETab w 0 (.slice B T.n d) T.n T.el y/\Own w 0 3 1 (.slice A T.nw c) T.nw (fun k _=>.int .i64 (T.W k))
theorem RenOut.setCell {T:Trel} {y:Nat->Nat->Int × Int × Int} {w:World} {A B:Option Addr} {c d:Nat} (h:RenOut T y w A B c d) {t:TypeId} {m:Nat} {F:Nat->Value} {b i:Nat} (hr:w.rowIs b t m F) (h1:t ≠ 86) (h2:t ≠ 90) (h3:t ≠ 3) (u:Value):RenOut T y (w.setCell ⟨b,i,none⟩ u) A B c d :=
 ⟨h.1.setCell hr h1 h2 u,h.2.setCell (zag hr h.2 h3) u⟩
theorem zd4 {w:World} {b n base:Nat} {t:TypeId} {F:Nat->Value} (h:w.rowIs b t n F) (hb:base<=b) (hn:n<=maxLen):Own w base t 1 (.slice (some ⟨b,0,none⟩) n n) n (fun i _=>F i):=by
 obtain ⟨cs,h1,h2,h3⟩:=h
 refine .inr ⟨b,0,n,cs,rfl,hb,h1,Nat.le_refl _,hn,by omega,fun i hi j hj=>?_⟩
 obtain rfl:j=0:=by omega
 rw [Nat.zero_add,Nat.mul_one,Nat.add_zero]
 exact h3 i hi
theorem zaq {w:World} {b b' n n':Nat} {t t':TypeId} {F F':Nat->Value} (h:w.rowIs b t n F) (h':w.rowIs b' t' n' F') (hne:t≠t'):b≠b':=by
 intro e
 subst e
 obtain ⟨cs,h1,_⟩:=h
 obtain ⟨cs',h1',_⟩:=h'
 rw [h1] at h1'
 injection h1' with h1'
 injection h1' with _ h1'
 exact hne h1'
section
variable {w w':World} {g base te e s m:Nat} {F:Nat->Value} {n n':Nat->Nat} {f f':Nat->Nat->Nat->Value}
theorem TabOwn.same (h:TabOwn w g base te e s m F n f) (hn:∀ v,v<m->n v=n' v) (hf:∀ v,v<m->∀ i,i<n v->∀ j,j<s->f v i j=f' v i j):TabOwn w g base te e s m F n' f' :=
 ⟨h.row,fun v hv=>by rw [<-hn v hv]; exact (h.own v hv).congr (hf v hv),h.apart⟩
theorem TabOwn.touch (h:TabOwn w g base te e s m F n f) (hgb:g<base) {v:Nat} (hv:v<m) {n1:Nat} {f1:Nat->Nat->Value} (hown:Own w' base e s (F v) n1 f1) (hg:w.grownBy w' (F v).ownBlock) :
  TabOwn w' g base te e s m F (fun u=>if u=v then n1 else n u) (fun u=>if u=v then f1 else f u):=by
 refine ⟨h.row.of_block (hg.block g h.row.lt (fun e=>by have:=((h.own v hv).lt _ e.symm).1; omega)),fun u hu=>?_,h.apart⟩
 by_cases e:u=v
 ·subst e
  simp only [if_true]
  exact hown
 ·simp only [if_neg e]
  exact (h.own u hu).kept hg (h.apart u v hu hv e)
theorem TabOwn.stays (h:TabOwn w g base te e s m F n f) (hb:Below w.heap.size w w'):TabOwn w' g base te e s m F n f:=⟨h.row.of_block (hb.block g h.row.lt),fun v hv=>(h.own v hv).on hb,h.apart⟩
end
theorem Trel.Proper.el_pos {T:Trel} (h:T.Proper) {i:Nat} (hi:i<T.n):0<T.el i:=by
 have h1:=(h.shape.wid (i:=i) (by omega)).1
 obtain ⟨j,hj,_⟩:=zcM.1 ((h.sec i hi).2.1 0 (by omega))
 omega
structure RnSt (T:Trel) (g base ob rb i j:Nat) (wv:Value) (y:Nat->Nat->Int × Int × Int) (F:Nat->Value) (w:World):Prop where
 res:w.rowIs rb 53 2 (fun _=>.slice none 0 0)
 box:w.rowIs ob 53 2 (fun k=>if k=0 then wv else .slice (some ⟨g,0,none⟩) T.n T.n)
 wid:Own w 0 3 1 wv T.nw (fun k _=>.int .i64 (T.W k))
 tab:TabOwn w g base 86 90 3 T.n F (fun v=>if v<i then T.el v else if v=i then j else 0) (fun v=>edgeCell (if v<i then y v else T.tri v))
 hrb:rb<base
 hob:ob<base
 hg:g<base
 hwv:∀ q,wv.ownBlock=some q->q<base
section
variable {T:Trel} {g base ob rb i j:Nat} {wv:Value} {y:Nat->Nat->Int × Int × Int} {F:Nat->Value} {w w':World}
theorem RnSt.on (h:RnSt T g base ob rb i j wv y F w) (hb:Below w.heap.size w w'):RnSt T g base ob rb i j wv y F w' :=
 ⟨h.res.of_block (hb.block _ h.res.lt),h.box.of_block (hb.block _ h.box.lt),h.wid.on hb,h.tab.stays hb,h.hrb,h.hob,h.hg,h.hwv⟩
theorem RnSt.row (h:RnSt T g base ob rb i j wv y F w) (hi:i<T.n):Own w base 90 3 (F i) j (edgeCell (T.tri i)):=by
 have:=h.tab.own i hi
 simpa using this
theorem RnSt.put (h:RnSt T g base ob rb i j wv y F w) (hi:i<T.n) {v':Value} (ho:Own w' base 90 3 v' (j+1) (edgeCell (T.tri i))) (hgr:w.grownBy w' (F i).ownBlock) (hat:v'.ownBlock=(F i).ownBlock∨v'.ownBlock=some w.heap.size) :
  RnSt T g base ob rb i (j+1) wv y (fun u=>if u=i then v' else F u) (w'.setCell ⟨g,i,none⟩ v'):=by
 have hF:=(h.tab.own i hi).lt
 have hne:∀ b,b<base->(F i).ownBlock≠some b:=fun b hb e=>by have:=(hF b e).1; omega
 have r1:=h.res.of_block (hgr.block rb h.res.lt fun e=>hne rb h.hrb e.symm)
 have r2:=h.box.of_block (hgr.block ob h.box.lt fun e=>hne ob h.hob e.symm)
 have r3:w'.rowIs g 86 T.n F:=h.tab.row.of_block (hgr.block g h.tab.row.lt fun e=>hne g h.hg e.symm)
 have r4:=h.wid.kept hgr (by
  cases e:wv.ownBlock with
  | none=>exact .inl rfl
  | some q=>exact .inr fun e2=>hne q (h.hwv q e) e2.symm)
 refine ⟨r1.setOther (a:=⟨g,i,none⟩) (by simpa using zaq r1 r3 (by decide)) v',r2.setOther (a:=⟨g,i,none⟩) (by simpa using zaq r2 r3 (by decide)) v',r4.setCell (zag r3 r4 (by decide)) v',?_,h.hrb,h.hob,h.hg,h.hwv⟩
 refine (h.tab.put h.hg hi ho hgr hat).same (fun v _=>?_) (fun v _ k _ q _=>?_)
 ·by_cases e:v=i
  ·subst e; rw [if_pos rfl,if_neg (by omega),if_pos rfl]
  ·rw [if_neg e,if_neg e]
   by_cases e2:v<i
   ·rw [if_pos e2,if_pos e2]
   ·rw [if_neg e2,if_neg e2,if_neg e]
 ·by_cases e:v=i
  ·subst e; rw [if_pos rfl,if_neg (by omega)]
  ·rw [if_neg e]
theorem RnSt.sort (h:RnSt T g base ob rb i (T.el i) wv y F w) (hi:i<T.n) {z:Nat->Int × Int × Int} (ho:Own w' base 90 3 (F i) (T.el i) (edgeCell z)) (hgr:w.grownBy w' (F i).ownBlock) :
  RnSt T g base ob rb (i+1) 0 wv (fun u=>if u=i then z else y u) F w':=by
 have hF:=(h.tab.own i hi).lt
 have hne:∀ b,b<base->(F i).ownBlock≠some b:=fun b hb e=>by have:=(hF b e).1; omega
 refine ⟨h.res.of_block (hgr.block rb h.res.lt fun e=>hne rb h.hrb e.symm),h.box.of_block (hgr.block ob h.box.lt fun e=>hne ob h.hob e.symm),h.wid.kept hgr (by
  cases e:wv.ownBlock with
  | none=>exact .inl rfl
  | some q=>exact .inr fun e2=>hne q (h.hwv q e) e2.symm),?_,h.hrb,h.hob,h.hg,h.hwv⟩
 refine (h.tab.touch h.hg hi ho hgr).same (fun v _=>?_) (fun v _ k _ q _=>?_)
 ·by_cases e:v=i
  ·subst e; rw [if_pos rfl,if_pos (by omega)]
  ·rw [if_neg e]
   by_cases e2:v<i
   ·rw [if_pos e2,if_pos (by omega)]
   ·rw [if_neg e2,if_neg e,if_neg (by omega)]
    split <;> rfl
 ·by_cases e:v=i
  ·subst e; rw [if_pos rfl,if_pos (by omega),if_pos rfl]
  ·rw [if_neg e]
   by_cases e2:v<i
   ·rw [if_pos e2,if_pos (by omega),if_neg e]
   ·rw [if_neg e2,if_neg (by omega)]
theorem RnSt.etab (h:RnSt T g base ob rb T.n 0 wv y F w) (hn:T.n<=maxLen):ETab w 0 (.slice (some ⟨g,0,none⟩) T.n T.n) T.n T.el y:=by
 refine ⟨F,zd4 h.tab.row (Nat.zero_le _) hn,fun i hi=>?_⟩
 have:=h.tab.own i hi
 simp only [if_pos hi] at this
 exact this.mono (Nat.zero_le _)
theorem RnSt.start (h0:w.rowIs rb 53 2 (fun _=>.slice none 0 0)) (h1:w.rowIs ob 53 2 (fun k=>if k=0 then wv else .slice (some ⟨g,0,none⟩) T.n T.n)) (h2:Own w 0 3 1 wv T.nw (fun k _=>.int .i64 (T.W k)))
  (h3:w.rowIs g 86 T.n (fun _=>.slice none 0 0)):RnSt T g w.heap.size ob rb 0 0 wv y (fun _=>.slice none 0 0) w :=
 ⟨h0,h1,h2,⟨h3,fun v _=>by
  have e:(if v<0 then T.el v else if v=0 then 0 else 0)=0:=by
   rw [if_neg (by omega)]
   split <;> rfl
  rw [e]
  exact Own.nil _ _ _ _ _,fun _ _ _ _ _=>.inl rfl⟩,h0.lt,h1.lt,h3.lt,fun q e=>(h2.lt q e).2⟩
end
def Trel.lx (T:Trel) (f:Nat->Nat) (i j v:Nat):Int × Int × Int:=if T.kt f i j v<1099511627776 then (((T.kt f i j v / 256:Nat):Int),((T.kt f i j v % 256:Nat):Int),0) else (0,0,0)
def Trel.sn (T:Trel) (f:Nat->Nat) (i j v:Nat):Bool:=decide (T.kt f i j v<1099511627776)
section
variable {T:Trel} {f:Nat->Nat} {i j tn:Nat}
theorem Trel.kt_take (ht:(T.to i j).toNat=tn) (h:T.code f i j<T.kt f i j tn) (v:Nat):T.kt f i (j+1) v=if v=tn then T.code f i j else T.kt f i j v:=by
 show (if (T.to i j).toNat=v/\T.code f i j<T.kt f i j v then T.code f i j else T.kt f i j v)=_
 by_cases e:v=tn
 ·subst e
  rw [if_pos rfl,if_pos ⟨ht,h⟩]
 ·rw [if_neg e,if_neg (fun h=>e (by omega))]
variable {a1:Nat} {lv:Int}
theorem Trel.lx_less (hl:0<=lv/\lv<256) (hc:T.code f i j=a1*256+lv.toNat) (hk:T.sn f i j tn=true):lessV (a1:Nat) lv (T.lx f i j tn).1 (T.lx f i j tn).2.1<0↔T.code f i j<T.kt f i j tn:=by
 have hk:T.kt f i j tn<1099511627776:=of_decide_eq_true hk
 rw [zbR]
 unfold Trel.lx
 rw [if_pos hk,hc]
 show ((a1:Nat):Int)<((T.kt f i j tn / 256:Nat):Int)∨((a1:Nat):Int)=((T.kt f i j tn / 256:Nat):Int)/\lv<((T.kt f i j tn % 256:Nat):Int)↔_
 omega
theorem Trel.lx_take (ht:(T.to i j).toNat=tn) (hl:0<=lv/\lv<256) (hc:T.code f i j=a1*256+lv.toNat) (ha:a1<65536) (h:T.code f i j<T.kt f i j tn) (v:Nat):T.lx f i (j+1) v=if v=tn then (((a1:Nat):Int),lv,0) else T.lx f i j v:=by
 unfold Trel.lx
 rw [Trel.kt_take ht h]
 by_cases e:v=tn
 ·rw [if_pos e,if_pos e,if_pos (by omega),hc]
  have e1:(a1*256+lv.toNat) / 256=a1:=by omega
  have e2:(a1*256+lv.toNat) % 256=lv.toNat:=by omega
  rw [e1,e2]
  have:((lv.toNat:Nat):Int)=lv:=by omega
  rw [this]
 ·rw [if_neg e,if_neg e]
theorem Trel.sn_take (ht:(T.to i j).toNat=tn) (hl:0<=lv/\lv<256) (hc:T.code f i j=a1*256+lv.toNat) (ha:a1<65536) (h:T.code f i j<T.kt f i j tn) (v:Nat):T.sn f i (j+1) v=if v=tn then true else T.sn f i j v:=by
 unfold Trel.sn
 rw [Trel.kt_take ht h]
 by_cases e:v=tn
 ·rw [if_pos e,if_pos e,decide_eq_true_iff]
  omega
 ·rw [if_neg e,if_neg e]
theorem Trel.kt_new (hl:0<=lv/\lv<256) (hc:T.code f i j=a1*256+lv.toNat) (ha:a1<65536) (h:T.sn f i j tn=false):T.code f i j<T.kt f i j tn:=by
 have h1:¬ T.kt f i j tn<1099511627776:=of_decide_eq_false h
 omega
end
section
variable {T:Trel} {f:Nat->Nat} {i j tn:Nat} (ht:(T.to i j).toNat=tn) (h:¬ T.code f i j<T.kt f i j tn)
include ht h
theorem Trel.kt_skip (v:Nat):T.kt f i (j+1) v=T.kt f i j v:=by
 show (if (T.to i j).toNat=v/\T.code f i j<T.kt f i j v then T.code f i j else T.kt f i j v)=_
 rw [if_neg]
 rintro ⟨e,h2⟩
 rw [ht] at e
 subst e
 exact h h2
theorem Trel.lx_skip (v:Nat):T.lx f i (j+1) v=T.lx f i j v:=by unfold Trel.lx; rw [Trel.kt_skip ht h]
theorem Trel.sn_skip (v:Nat):T.sn f i (j+1) v=T.sn f i j v:=by unfold Trel.sn; rw [Trel.kt_skip ht h]
end
theorem Trel.lx_zero (T:Trel) (f:Nat->Nat) (i v:Nat):T.lx f i 0 v=(0,0,0):=by
 unfold Trel.lx Trel.kt
 rw [if_neg (by omega)]
theorem Trel.sn_zero (T:Trel) (f:Nat->Nat) (i v:Nat):T.sn f i 0 v=false:=by
 unfold Trel.sn Trel.kt
 exact decide_eq_false (by omega)
theorem Trel.Proper.lx_key {T:Trel} (h:T.Proper) {i:Nat} (hi:i<T.n) (u v:Nat) (hu:u<(T.W (i+1)).toNat) (hv:v<(T.W (i+1)).toNat) :
  lessV (T.lx (T.nm i) i (T.el i) u).1 (T.lx (T.nm i) i (T.el i) u).2.1 (T.lx (T.nm i) i (T.el i) v).1 (T.lx (T.nm i) i (T.el i) v).2.1<0↔T.kt (T.nm i) i (T.el i) u<T.kt (T.nm i) i (T.el i) v:=by
 obtain ⟨p,hp,_,e1⟩:=h.kt_hit hi hu
 obtain ⟨q,hq,_,e2⟩:=h.kt_hit hi hv
 have h1:=h.code_lt hi hp
 have h2:=h.code_lt hi hq
 rw [zbR]
 unfold Trel.lx
 rw [if_pos (by omega),if_pos (by omega)]
 show ((T.kt (T.nm i) i (T.el i) u / 256:Nat):Int)<((T.kt (T.nm i) i (T.el i) v / 256:Nat):Int)∨((T.kt (T.nm i) i (T.el i) u / 256:Nat):Int)=((T.kt (T.nm i) i (T.el i) v / 256:Nat):Int)/\((T.kt (T.nm i) i (T.el i) u % 256:Nat):Int)<((T.kt (T.nm i) i (T.el i) v % 256:Nat):Int)↔_
 omega
theorem zew (n:Nat) (hn:n<=1048576) (w:World) :
  (Instr.makeSlice 86 (.int .i64 (n:Int)) (.int .i64 (n:Int))).run Tryz.prog w=.ok (.slice (some ⟨w.heap.size,0,none⟩) n n) (w.alloc (.cells (madeCells #[.int .i64 0,.int .i64 0,.int .i64 0] (n*3)) 90)):=by
 obtain ⟨i,hi,hz,hs,hb⟩:=info_parts Tryz.infoEdge
 have h:=run_make (P:=Tryz.prog) w 86 90 i _ Tryz.underlying86 hi hz .i64 .i64 (n:Int) (n:Int) (by omega) (by omega) (by rw [hb]; omega) (by omega)
 rw [h,hs,Int.toNat_natCast]
 rfl
theorem zdB (w:World) (n:Nat):(w.alloc (.cells (madeCells #[.int .i64 0,.int .i64 0,.int .i64 0] (n*3)) 90)).rowIs w.heap.size 90 (n*3) (eRow fun _=>(0,0,0)):=by
 refine ⟨_,zax rfl,size_madeCells _ _,fun i hi=>?_⟩
 have e:eRow (fun _=>(0,0,0)) i=.int .i64 0:=by
  unfold eRow edgeCell
  split
  ·rfl
  ·split <;> rfl
 rw [e]
 have h3:i % 3=0∨i % 3=1∨i % 3=2:=by omega
 rcases h3 with h3 | h3 | h3 <;> simp [madeCells,hi,h3]
theorem zgN {w:World} {b n u:Nat} {t:TypeId} {x x':Nat->Int × Int × Int} (h:w.rowIs b t (n*3) (eRow x)) {p q r:Int} (hx:∀ v,x' v=if v=u then (p,q,r) else x v) :
  (((w.setCell ⟨b,u*3,none⟩ (.int .i64 p)).setCell ⟨b,u*3+1,none⟩ (.int .i64 q)).setCell ⟨b,u*3+2,none⟩ (.int .i64 r)).rowIs b t (n*3) (eRow x'):=by
 refine (((h.set (u*3) (.int .i64 p)).set (u*3+1) (.int .i64 q)).set (u*3+2) (.int .i64 r)).congr fun k _=>?_
 unfold eRow edgeCell
 rw [hx]
 by_cases e:k / 3=u
 ·rw [if_pos e]
  have h3:k % 3=0∨k % 3=1∨k % 3=2:=by omega
  rcases h3 with h3 | h3 | h3
  ·rw [if_neg (by omega),if_neg (by omega),if_pos (by omega),if_pos h3]
  ·rw [if_neg (by omega),if_pos (by omega),if_neg (by omega),if_pos h3]
  ·rw [if_pos (by omega),if_neg (by omega),if_neg (by omega)]
 ·rw [if_neg e,if_neg (by omega),if_neg (by omega),if_neg (by omega)]
def Trel.nrow (T:Trel) (k:Nat):List Int:=(List.range (T.W k).toNat).map fun u=>((T.nm k u:Nat):Int)
def Trel.names (T:Trel) (i:Nat):List (List Int):=(List.range i).map T.nrow
theorem Trel.names_succ (T:Trel) (i:Nat):T.names (i+1)=T.names i ++ [T.nrow i]:=by
 unfold Trel.names
 rw [List.range_succ,List.map_append]
 rfl
theorem Trel.names_len (T:Trel) (i:Nat):(T.names i).length=i:=by simp [Trel.names]
theorem Trel.names_get (T:Trel) {i k:Nat} (h:k<i):(T.names i).getD k []=T.nrow k:=by
 unfold Trel.names
 rw [List.getD_eq_getElem?_getD,List.getElem?_map,List.getElem?_range h]
 rfl
theorem Trel.nrow_len (T:Trel) (k:Nat):(T.nrow k).length=(T.W k).toNat:=by simp [Trel.nrow]
theorem Trel.nrow_get (T:Trel) {k u:Nat} (h:u<(T.W k).toNat):(T.nrow k).getD u 0=(T.nm k u:Nat):=by
 unfold Trel.nrow
 rw [List.getD_eq_getElem?_getD,List.getElem?_map,List.getElem?_range h]
 rfl
theorem Trel.names_one {T:Trel} (h:T.Proper):T.names 1=[[0]]:=by
 have:(T.W 0).toNat=1:=by rw [h.w0]; rfl
 unfold Trel.names Trel.nrow
 simp [this,Trel.nm]
theorem Trel.names_rows {T:Trel} (h:T.Proper) {w:World} {base:Nat} {v:Value} (hT:TabL w base v (T.names (T.n+1))) :
  ∃ O c,v=.slice O (T.n+1) c/\IntRows w O (T.n+1) (fun i=>(T.W i).toNat) (fun i k=>(T.nm i k:Nat)):=by
 obtain ⟨O,c,e,h1,h2,h3⟩:=hT.rows (fun l hl x hx=>by
  obtain ⟨k,hk,rfl⟩:=List.mem_map.1 hl
  obtain ⟨u,hu,rfl⟩:=List.mem_map.1 hx
  rw [List.mem_range] at hk hu
  have:=h.nm_lt (by omega) hu
  have:=(h.shape.wid (i:=k) (by omega)).2
  omega)
 rw [T.names_len] at e h3
 refine ⟨O,c,e,fun i hi=>?_⟩
 obtain ⟨b,off,A,c',e1,k1,k2,k3,k4,k5,k6⟩:=h3 i hi
 simp only [T.names_get hi,T.nrow_len] at k2 k3 k5 k6
 refine ⟨b,off,A,c',e1,k1,k2,k3,k4,k5.congr fun u hu=>T.nrow_get hu,fun u hu=>?_⟩
 have:=k6 u hu
 rwa [T.nrow_get hu] at this
theorem TabL.readR {w:World} {base N c k:Nat} {A:Option Addr} {L:List (List Int)} (h:TabL w base (.slice A N c) L) (hk:k<L.length) :
  ∃ b o RA rc,A=some ⟨b,o,none⟩/\b<w.heap.size/\w.cell? ⟨b,o+k,none⟩=some (.slice RA (L.getD k []).length rc)/\OwnL w base (.slice RA (L.getD k []).length rc) (L.getD k []):=by
 obtain ⟨R,hA,hB⟩:=h
 obtain ⟨A1,c1,e1⟩:=hA.shape
 injection e1 with e1 e2 e3
 subst e1 e2 e3
 obtain ⟨b,o,e,hb1,hc1⟩:=hA.rd rfl k hk
 have g1:=hc1 0 (by omega)
 rw [Nat.mul_one,Nat.add_zero] at g1
 have hr:=hB k hk
 obtain ⟨RA,rc,hR⟩:=Own.shape hr
 rw [hR] at hr
 exact ⟨b,o,RA,rc,e,hb1,by rw [g1,<-hR],hr⟩
theorem zft {w:World} {g m base:Nat} {f:Nat->Int} (h:w.rowIs g 3 m (fun u=>.int .i64 (f u))) (hb:base<=g) (hm:m<=maxLen):OwnL w base (.slice (some ⟨g,0,none⟩) m m) ((List.range m).map f):=by
 have hl:((List.range m).map f).length=m:=by simp
 unfold OwnL
 rw [hl]
 refine (zd4 h hb hm).congr fun u hu _ _=>?_
 unfold listCell
 rw [List.getD_eq_getElem?_getD,List.getElem?_map,List.getElem?_range hu]
 rfl
theorem zfu (w:World):TabL ((w.alloc (Obj.cells #[.int .i64 0] 3)).alloc (Obj.cells #[.slice (some ⟨w.heap.size,0,none⟩) 1 1] 22)) w.heap.size (.slice (some ⟨w.heap.size+1,0,none⟩) 1 1) [[0]]:=by
 have h0:=Own.new (w:=w) (base:=w.heap.size) (e := 3) (s:=1) (m:=1) (cap:=1) (cur:=#[.int .i64 0]) (f:=listCell [0]) (Nat.le_refl _) (Nat.le_refl _) (by unfold maxLen; omega) (by simp) (fun k hk j hj=>by
  obtain rfl:k=0:=by omega
  obtain rfl:j=0:=by omega
  rfl)
 have h1:=Own.new (w:=w.alloc (Obj.cells #[.int .i64 0] 3)) (base:=w.heap.size) (e := 22) (s:=1) (m:=1) (cap:=1) (cur:=#[.slice (some ⟨w.heap.size,0,none⟩) 1 1]) (f:=fun _ _=>.slice (some ⟨w.heap.size,0,none⟩) 1 1) (by simp) (by omega) (by unfold maxLen; omega) (by simp) (fun k hk j hj=>by
  obtain rfl:k=0:=by omega
  obtain rfl:j=0:=by omega
  rfl)
 have e1:(w.alloc (Obj.cells #[.int .i64 0] 3)).heap.size=w.heap.size+1:=by simp
 rw [e1] at h1
 refine ⟨fun _=>.slice (some ⟨w.heap.size,0,none⟩) 1 1,h1,fun i hi=>?_⟩
 obtain rfl:i=0:=by simp at hi; omega
 exact h0.alloc _
open Go.ChangeShapes Go.WideShapes Go.ChangeAt
theorem zhF {w:World} {base:Nat} (hb:base<=w.heap.size) (x:Int × Int × Int):Own (w.alloc (.cells #[.int .i64 x.1,.int .i64 x.2.1,.int .i64 x.2.2] 90)) base 90 3 (.slice (some ⟨w.heap.size,0,none⟩) 1 1) 1 (edgeCell fun _=>x) :=
 Own.new (cur:=#[.int .i64 x.1,.int .i64 x.2.1,.int .i64 x.2.2]) hb (Nat.le_refl _) (by unfold maxLen; omega) (by simp) (fun k hk j hj=>by
  obtain rfl:k=0:=by omega
  match j,hj with
  | 0,_=>rfl
  | 1,_=>rfl
  | 2,_=>rfl)
theorem zbT (D:Nat->Bool) (n:Nat):cntB D (n+1)=cntB D n+if D n then 1 else 0:=rfl
def SectPost (q:Nat) (add mul:Nat->Nat->Nat) (n N:Nat) (pv:Nat->Nat) (R:Nat->Nat->Nat) (i:Nat) (w:World) (e:Ending) (w':World):Prop :=
 ∃ A m c y,e=.returned (.tuple #[.int .i64 (q ^ cntB (actA pv R N (i+1)) n:Nat),.slice A m c])/\SecM q add mul n N pv R i m y/\Own w' w.heap.size 90 3 (.slice A m c) m (edgeCell y)/\Below w.heap.size w w'
theorem zfv (P M:Nat) (m:Nat->Nat) (g n N i:Nat) (pv:Nat->Nat) (R:Nat->Nat->Nat) (T:Option Addr) (d:Nat) (w:World) (hG:GF w w.heap.size g P M m) (h:IntRows w T n (fun _=>N) (fun s j=>((R s j:Nat):Int))) (hS:SpanF (P ^ M) n N pv R) (hn:n<=64) (hN:N<=64) (hi:i<N)
  (hE:(P ^ M) ^ cntB (actE pv R N i) n<=262144) :
  Calls Tryz.prog 77 #[.pointer (some ⟨g,0,none⟩),.slice T n d,.int .i64 (i:Nat)] w (SectPost (P ^ M) (addF P M) (mulF P M m) n N pv R i w):=by
 have HG:=hid hG
 have HR:=hid h
 have HS:=hid hS
 have HL:=hid (fieldLaws hG.ok)
 have HE:=hid hE
 have HIN:=hid hi
 obtain ⟨q,hq⟩:∃ q,q=P ^ M:=⟨_,rfl⟩
 have hq2:2<=q:=by rw [hq]; exact HL.out.two
 have hq256:q<=256:=by rw [hq]; exact hG.ok.1.2.2.2
 clear hG h hS hE
 have HQ:=hid hq
 obtain ⟨mt,hmt⟩:∃ mt:Nat->Nat,mt=fun t=>q ^ cntB (actE pv R N i) t:=⟨_,rfl⟩
 obtain ⟨wt,hwt⟩:∃ wt:Nat->Nat,wt=fun t=>q ^ cntB (actA pv R N (i+1)) t:=⟨_,rfl⟩
 have HM0:Hid (mt 0=1):=hid (by rw [hmt]; rfl)
 have HW0:Hid (wt 0=1):=hid (by rw [hwt]; rfl)
 have HMt:=hid hmt
 have HWt:=hid hwt
 have HMN:Hid (∀ t,t<=n->mt t<=262144):=hid fun t ht=>by
  rw [hmt]
  refine Nat.le_trans (Nat.pow_le_pow_right (by omega) ?_) (by rw [hq]; exact HE.out)
  have:=zgJ (actE pv R N i) t (n - t)
  rwa [show t+(n - t)=n by omega] at this
 have HWN:Hid (∀ t,t<=n->wt t<=262144):=hid fun t ht=>by
  refine Nat.le_trans ?_ (HMN.out t ht)
  rw [hwt,hmt]
  refine Nat.pow_le_pow_right (by omega) (zgI (fun s hs=>?_) t)
  obtain ⟨h1,h2⟩:=(zaQ _ _).1 hs
  exact (zbu _ _).2 ⟨by omega,by omega⟩
 clear hmt hwt
 have hi0:(0:Int)<=(i:Int):=by omega
 clear hq
 go_enter Tryz.func77, Tryz.ntmps77
 go_wp2_with fail
 refine (zeN HG.out).mono ?_
 rintro e w1 ⟨he,kb⟩
 rw [<-HQ.out] at he
 subst he
 have HB1:=hid kb
 clear kb
 go_upto_region 3 with fail
 have ho1:=zhF (w:=w1) (base:=w.heap.size) HB1.out.size (0,0,0)
 have kb:Below w1.heap.size w1 (World.alloc w1 (Obj.cells #[Value.int .i64 0,Value.int .i64 0,Value.int .i64 0] 90)):=(Below.refl _ _).alloc (Nat.le_refl _) _
 obtain ⟨w2,hw2⟩:∃ W,W=World.alloc w1 (Obj.cells #[Value.int .i64 0,Value.int .i64 0,Value.int .i64 0] 90):=⟨_,rfl⟩
 rw [<-hw2] at kb ⊢
 have ho1:Own w2 w.heap.size 90 3 (.slice (some ⟨w1.heap.size,0,none⟩) 1 1) 1 (edgeCell fun _=>(0,0,0)):=by rw [hw2]; exact ho1
 have HO1:=hid ho1
 have HB2:=hid (onS HB1.out kb)
 clear kb hw2 ho1
 go_upto_region 5 with fail
 go_loopg [9,10,26] n (fun gg v9 v10 iv wx=>∃ (t:Nat) (x:Nat->Int × Int × Int),iv=.int .i64 (t:Nat)/\v10=.int .i64 (wt t:Nat)/\t<=n/\n<=t+gg/\Hid (Own wx w.heap.size 90 3 v9 (mt t) (edgeCell x))/\Hid (SecX q (addF P M) (mulF P M m) pv R N i t x)/\Below w.heap.size w wx)
 case atStart=>exact ⟨0,fun _=>(0,0,0),rfl,by rw [HW0.out]; rfl,by omega,by omega,hid (by rw [HM0.out]; exact HO1.out),zhA,HB2.out⟩
 case round =>
  clear HO1 HB2 HB1
  obtain ⟨t,x,rfl,rfl,ht,htg,HO,HX,hBx⟩:=hrel
  have ht0:(0:Int)<=(t:Int):=by omega
  have HB:=hid hBx
  obtain ⟨w3,hw3⟩:∃ X,X=wr:=⟨_,rfl⟩
  subst hw3
  clear hBx
  obtain ⟨mm,hmm⟩:∃ mm,mm=mt t:=⟨_,rfl⟩
  have hmml:mm<=262144:=by rw [hmm]; exact HMN.out t ht
  obtain ⟨ww,hww⟩:∃ ww,ww=wt t:=⟨_,rfl⟩
  have hwwl:ww<=262144:=by rw [hww]; exact HWN.out t ht
  rw [<-hww];rw [<-hmm] at HO
  have HMM:=hid hmm
  have HWW:=hid hww
  clear hmm hww
  obtain ⟨EA,ec,hv⟩:=HO.out.shape
  subst hv
  by_cases htn:t<n
  ·have htn':(t:Int)<(n:Int):=by omega
   obtain ⟨b1,o1,RA,rc,hTe,hb1,x0,h1,h2,h3,h4⟩:=HR.out t htn
   subst hTe
   replace x0:=cellS HB.out x0
   have HROW:=hid h3
   clear h3 h4 h1 h2 hb1
   go_wp2_with fail
   clear x0
   refine (zdA RA N rc (R t) w3 (HROW.out.on HB.out) (by omega)).mono ?_
   rintro e w4 ⟨rfl,kb⟩
   replace HB:=hid (onS HB.out kb);replace HO:=hid (HO.out.on kb);clear kb;rw [HS.out.first htn]
   have hE1:actE pv R N i t=true↔(pv t<=i/\(i:Int)<=lE (R t) N):=zbu i t
   obtain ⟨p,hp⟩:∃ p,p=pv t:=⟨_,rfl⟩
   obtain ⟨l,hl⟩:∃ l,l=lE (R t) N:=⟨_,rfl⟩
   have HP:=hid hp
   have HLL:=hid hl
   rw [<-hp,<-hl] at hE1 ⊢;clear hp hl
   by_cases g0:p<=i/\(i:Int)<=l
   rotate_left
   ·have hE0:actE pv R N i t=false:=by
     cases hb:actE pv R N i t with
     | false=>rfl
     | true=>exact absurd (hE1.1 hb) g0
    have hA0:actA pv R N (i+1) t=false:=by
     cases hb:actA pv R N (i+1) t with
     | false=>rfl
     | true =>
      obtain ⟨k1,k2⟩:=(zaQ _ _).1 hb
      rw [<-HP.out] at k1;rw [<-HLL.out] at k2
      exact absurd ⟨by omega,by omega⟩ g0
    have HX2:Hid (SecX q (addF P M) (mulF P M m) pv R N i (t+1) x):=hid (by
     have:=HX.out
     rw [HQ.out] at this ⊢
     exact zhB HL.out HS.out HIN.out htn hE0 this)
    have HM2:Hid (mt (t+1)=mm):=hid (by rw [HMM.out,HMt.out]; show q ^ cntB _ (t+1)=q ^ cntB _ t; rw [zbT,hE0]; rfl)
    have HW2:Hid (ww=wt (t+1)):=hid (by rw [HWW.out,HWt.out]; show q ^ cntB _ t=q ^ cntB _ (t+1); rw [zbT,hA0]; rfl)
    clear hE0 hA0 hE1
    by_cases g1:p<=i
    ·have g1':¬ (p:Int) > (i:Int):=by omega
     have g1d:decide ((p:Int) > (i:Int))=false:=by simp; omega
     have g2:l<(i:Int):=by omega
     have g2d:decide (l<(i:Int))=true:=by simp; omega
     clear g0
     go_wp2
     go_roundg (gk - 1)
     case measure=>omega
     case rel=>exact ⟨t+1,x,by go_num,by rw [<-HW2.out],by omega,by omega,hid (by rw [HM2.out]; exact HO.out),HX2,HB.out⟩
    ·have g1':(p:Int) > (i:Int):=by omega
     have g1d:decide ((p:Int) > (i:Int))=true:=by simp; omega
     clear g0
     go_wp2
     go_roundg (gk - 1)
     case measure=>omega
     case rel=>exact ⟨t+1,x,by go_num,by rw [<-HW2.out],by omega,by omega,hid (by rw [HM2.out]; exact HO.out),HX2,HB.out⟩
   ·obtain ⟨g1,g2⟩:=g0
    have g1':¬ (p:Int) > (i:Int):=by omega
    have g1d:decide ((p:Int) > (i:Int))=false:=by simp; omega
    have g1n:¬ i<p:=by omega
    have g1m:decide (i<p)=false:=by simp; omega
    have g2d:decide (l<(i:Int))=false:=by simp; omega
    have g2':¬ l<(i:Int):=by omega
    have hE0:actE pv R N i t=true:=hE1.2 ⟨g1,g2⟩
    obtain ⟨z,hz⟩:∃ z:Nat->Int × Int × Int,z=fun y=>stepE q (addF P M) (mulF P M m) pv R N i t (x (y / q)) (y % q):=⟨_,rfl⟩
    have HX2:Hid (SecX q (addF P M) (mulF P M m) pv R N i (t+1) z):=hid (by rw [hz]; exact zhC hE0 HX.out)
    have HM2:Hid (mt (t+1)=mm*q):=hid (by rw [HMM.out,HMt.out]; show q ^ cntB _ (t+1)=q ^ cntB _ t*q; rw [zbT,hE0,if_pos rfl,Nat.pow_succ])
    have HW2:Hid (wt (t+1)=if (i:Int)<l then ww*q else ww):=hid (by
     have hA1:actA pv R N (i+1) t=true↔(i:Int)<l:=by
      rw [zaQ,<-HP.out,<-HLL.out]
      omega
     rw [HWW.out,HWt.out]
     show q ^ cntB _ (t+1)=if (i:Int)<l then q ^ cntB _ t*q else q ^ cntB _ t
     rw [zbT]
     by_cases g:(i:Int)<l
     ·rw [hA1.2 g,if_pos g,if_pos rfl,Nat.pow_succ]
     ·have:actA pv R N (i+1) t=false:=by
       cases hb:actA pv R N (i+1) t with
       | false=>rfl
       | true=>exact absurd (hA1.1 hb) g
      rw [this,if_neg g]; rfl)
    have hmq:mm*q<=262144:=by rw [<-HM2.out]; exact HMN.out (t+1) htn
    have HZ:Hid (∀ u a,a<q->z (u*q+a)=stepE q (addF P M) (mulF P M m) pv R N i t (x u) a):=hid fun u a ha=>by
     rw [hz]
     show stepE q (addF P M) (mulF P M m) pv R N i t (x ((u*q+a) / q)) ((u*q+a) % q)=_
     rw [Nat.mul_add_mod_self_right,Nat.mod_eq_of_lt ha,Nat.mul_comm u q,Nat.mul_add_div (by omega),Nat.div_eq_of_lt ha,Nat.add_zero]
    have HXB:Hid (∀ u,u<mm->0<=(x u).1/\(x u).1<=262144/\0<=(x u).2.1/\(x u).2.1<(q:Int)/\0<=(x u).2.2/\(x u).2.2<=262144):=hid fun u hu=>by
     have hx:=HX.out
     rw [HQ.out] at hx
     have hu2:u<(P ^ M) ^ cntB (actE pv R N i) t:=by rw [<-HQ.out]; rw [HMM.out,HMt.out] at hu; exact hu
     have k:=zjf HL.out hx hu2
     have c1:(P ^ M) ^ cntB (actA pv R N i) t<=262144:=by
      have:=HMN.out t ht
      rw [HMt.out] at this;rw [<-HQ.out]
      refine Nat.le_trans (Nat.pow_le_pow_right (by omega) (zgI (fun s hs=>?_) t)) this
      obtain ⟨h1,h2⟩:=(zaQ _ _).1 hs
      exact (zbu _ _).2 ⟨by omega,by omega⟩
     have c2:(P ^ M) ^ cntB (actA pv R N (i+1)) t<=262144:=by
      have:=HWN.out t ht
      rw [HWt.out] at this;rw [<-HQ.out]
      exact this
     rw [HQ.out]
     omega
    have htn0:t<n:=htn
    clear hz hE0 hE1
    obtain ⟨gO,hgO⟩:∃ y,y=gk:=⟨_,rfl⟩
    subst hgO
    go_upto_region 11 with fail
    go_loopg [15,45] mm (fun gg v15 uv wx=>∃ u:Nat,uv=.int .i64 (u:Nat)/\u<=mm/\mm<=u+gg/\Hid (Own wx w.heap.size 90 3 (.slice EA mm ec) mm (edgeCell x))/\Hid (Own wx w.heap.size 90 3 v15 (u*q) (edgeCell z))/\Hid ((Value.slice EA mm ec).ownBlock=none∨(Value.slice EA mm ec).ownBlock≠v15.ownBlock)/\Below w.heap.size w wx)
    case atStart=>exact ⟨0,rfl,by omega,by omega,HO,hid (by rw [Nat.zero_mul]; exact Own.nil _ _ _ _ _),hid (by
     cases hc:(Value.slice EA mm ec).ownBlock with
     | none=>exact .inl rfl
     | some b=>exact .inr (by simp [Value.ownBlock])),HB.out⟩
    case round =>
     clear HO HB
     obtain ⟨u,rfl,hu,hug,HO,HO2,HAP,hBx⟩:=hrel
     have hu0:(0:Int)<=(u:Int):=by omega
     have HB:=hid hBx
     obtain ⟨w5,hw5⟩:∃ X,X=wr:=⟨_,rfl⟩
     subst hw5
     clear hBx
     by_cases hum:u<mm
     ·have hum':(u:Int)<(mm:Int):=by omega
      obtain ⟨eb,eo,ed,hEe,_,heb,_,_,hcell⟩:=HO.out.form (by omega)
      injection hEe with hEA _ hec
      subst hEA
      have y0:w5.cell? ⟨eb,eo+u*3,none⟩=some (.int .i64 (x u).1):=hcell u hum 0 (by omega)
      have y1:w5.cell? ⟨eb,eo+u*3+1,none⟩=some (.int .i64 (x u).2.1):=hcell u hum 1 (by omega)
      have y2:w5.cell? ⟨eb,eo+u*3+2,none⟩=some (.int .i64 (x u).2.2):=hcell u hum 2 (by omega)
      clear hcell hec
      obtain ⟨k0,k1,k2,k3,k4,k5⟩:=HXB.out u hum
      obtain ⟨E0,hE0⟩:∃ e,e=x u:=⟨_,rfl⟩
      rw [<-hE0] at y0 y1 y2 k0 k1 k2 k3 k4 k5
      obtain ⟨F,L,O⟩:=E0
      have HE0:=hid hE0
      clear hE0;replace y0:w5.cell? ⟨eb,eo+u*3,none⟩=some (.int .i64 F):=y0;replace y1:w5.cell? ⟨eb,eo+u*3+1,none⟩=some (.int .i64 L):=y1;replace y2:w5.cell? ⟨eb,eo+u*3+2,none⟩=some (.int .i64 O):=y2;replace k0:0<=F:=k0;replace k1:F<=262144:=k1;replace k2:0<=L:=k2;replace k3:L<(q:Int):=k3;replace k4:0<=O:=k4;replace k5:O<=262144:=k5
      obtain ⟨gP,hgP⟩:∃ y,y=gk:=⟨_,rfl⟩
      subst hgP
      go_upto_region 13 with fail
      clear y0 y1 y2
      have rx:(w5.alloc (Obj.cells #[.int .i64 F,.int .i64 L,.int .i64 O] 90)).rowIs w5.heap.size 90 3 (fun j=>edgeCell (fun _=>(F,L,O)) 0 j):=World.rowIs_alloc w5 _ _ _ (fun j hj=>by
       match j,hj with
       | 0,_=>rfl
       | 1,_=>rfl
       | 2,_=>rfl)
      have kb:Below w5.heap.size w5 (w5.alloc (Obj.cells #[.int .i64 F,.int .i64 L,.int .i64 O] 90)):=(Below.refl _ _).alloc (Nat.le_refl _) _
      obtain ⟨w6,hw6⟩:∃ W,W=w5.alloc (Obj.cells #[.int .i64 F,.int .i64 L,.int .i64 O] 90):=⟨_,rfl⟩
      rw [<-hw6] at rx kb ⊢
      obtain ⟨xb,hxb⟩:∃ b,b=w5.heap.size:=⟨_,rfl⟩
      have HNX:Hid (∀ v:Value,(∀ k,v.ownBlock=some k->w.heap.size<=k/\k<w5.heap.size)->v.ownBlock≠some xb):=hid fun v hv e=>by
       have:=(hv xb e).2
       omega
      rw [<-hxb] at rx ⊢
      have HXR:=hid rx
      have HNB:Hid (∀ v15,Own w5 w.heap.size 90 3 v15 (u*q) (edgeCell z)->v15.ownBlock≠some xb):=hid fun v15 ho=>HNX.out v15 ho.lt
      have HNE:=hid (HNB.out _ HO2.out)
      replace HO:=hid (HO.out.on kb);replace HO2:=hid (HO2.out.on kb);replace HB:=hid (onS HB.out kb);clear kb hw6 hxb HNX HNB rx
      go_upto_region 14 with fail
      go_loopg [15,50] q (fun gg v15 av wx=>∃ a:Nat,av=.int .i64 (a:Nat)/\a<=q/\q<=a+gg/\Hid (Own wx w.heap.size 90 3 (.slice (some ⟨eb,eo,none⟩) mm ec) mm (edgeCell x))/\Hid (Own wx w.heap.size 90 3 v15 (u*q+a) (edgeCell z))/\Hid ((Value.slice (some ⟨eb,eo,none⟩) mm ec).ownBlock=none∨(Value.slice (some ⟨eb,eo,none⟩) mm ec).ownBlock≠v15.ownBlock)/\Hid (wx.rowIs xb 90 3 (fun j=>edgeCell (fun _=>(F,L,O)) 0 j))/\Hid (v15.ownBlock≠some xb)/\Below w.heap.size w wx)
      case atStart=>exact ⟨0,rfl,by omega,by omega,HO,HO2,HAP,HXR,HNE,HB.out⟩
      case round =>
       clear HO HO2 HAP HXR HNE HB
       obtain ⟨a,rfl,ha,hag,HO,HO2,HAP,HXR,HNE,hBx⟩:=hrel
       have ha0:(0:Int)<=(a:Int):=by omega
       have HB:=hid hBx
       obtain ⟨w7,hw7⟩:∃ X,X=wr:=⟨_,rfl⟩
       subst hw7
       clear hBx
       obtain ⟨ZA,zc,hv15⟩:=HO2.out.shape
       subst hv15
       by_cases haq:a<q
       ·have haq':(a:Int)<(q:Int):=by omega
        obtain ⟨cr,hcr⟩:∃ cr,cr=R t i:=⟨_,rfl⟩
        obtain ⟨mv,hmv⟩:∃ mv,mv=mulF P M m a cr:=⟨_,rfl⟩
        obtain ⟨lv,hlv⟩:∃ lv,lv=addF P M L.toNat mv:=⟨_,rfl⟩
        have hcq:cr<q:=by rw [hcr,HQ.out]; exact HS.out.lt t htn0 i HIN.out
        have hmq2:mv<q:=by rw [hmv,HQ.out]; exact HL.out.mulLt _ _
        have hlq:lv<q:=by rw [hlv,HQ.out]; exact HL.out.addLt _ _
        obtain ⟨rb,ro,hRA,hrb,r0⟩:=(HROW.out.on HB.out).at HIN.out
        subst hRA
        have hin':(i:Int)<(N:Int):=by omega
        rw [<-hcr] at r0
        have HIA:Hid (inV (P ^ M) (a:Int)=a):=hid (by rw [<-HQ.out]; exact zak haq)
        have HIC:Hid (inV (P ^ M) (cr:Int)=cr):=hid (by rw [<-HQ.out]; exact zak hcq)
        have HIM:Hid (inV (P ^ M) (mv:Int)=mv):=hid (by rw [<-HQ.out]; exact zak hmq2)
        have HIL:Hid (inV (P ^ M) L=L.toNat):=hid (by rw [<-HQ.out]; have:=zak (q:=q) (x:=L.toNat) (by omega); rwa [show ((L.toNat:Nat):Int)=L by omega] at this)
        have HMV:=hid hmv
        have HLV:=hid hlv
        have HCR:=hid hcr
        clear hcr hmv hlv
        have x0:=HXR.out.cell (i:=0) (by omega)
        have x1:=HXR.out.cell (i:=1) (by omega)
        have x2:=HXR.out.cell (i:=2) (by omega)
        replace x0:w7.cell? ⟨xb,0,none⟩=some (.int .i64 F):=x0;replace x1:w7.cell? ⟨xb,1,none⟩=some (.int .i64 L):=x1;replace x2:w7.cell? ⟨xb,2,none⟩=some (.int .i64 O):=x2
        go_upto_region 16 with fail
        go_cut [19] (fun v19 wx=>∃ yb,v19=.pointer (some ⟨yb,0,none⟩)/\w7.heap.size<=yb/\Hid (wx.rowIs yb 90 3 (fun j=>edgeCell (fun _=>(F,((lv:Nat):Int),O)) 0 j))/\Below w7.heap.size w7 wx)
        case first =>
         have HSS:Hid (∀ X,Below w7.heap.size w7 X->X.cell? ⟨xb,0,none⟩=some (.int .i64 F)/\X.cell? ⟨xb,1,none⟩=some (.int .i64 L)/\X.cell? ⟨xb,2,none⟩=some (.int .i64 O)/\X.cell? ⟨rb,ro+i,none⟩=some (.int .i64 (cr:Nat))):=hid fun X hx=>⟨cellS hx x0,cellS hx x1,cellS hx x2,cellS hx r0⟩
         refine wp_region_held_drew (S:=fun X=>X.cell? ⟨xb,0,none⟩=some (.int .i64 F)/\X.cell? ⟨xb,1,none⟩=some (.int .i64 L)/\X.cell? ⟨xb,2,none⟩=some (.int .i64 O)/\X.cell? ⟨rb,ro+i,none⟩=some (.int .i64 (cr:Nat))) (by kernel_rfl) (HSS.out _ (Below.refl _ _).drew) (fun hHeld=>?_)
         obtain ⟨w8,hw⟩:∃ W,W=World.drew w7:=⟨_,rfl⟩
         have kb:Below w7.heap.size w7 w8:=by rw [hw]; exact (Below.refl _ _).drew
         rw [<-hw] at hHeld ⊢;clear hw x0 x1 x2 r0
         have K8:=hid kb
         clear kb
         refine tkq 0 (h:=tkq 1 (h:=tkq 2 (h:=tkq 3 (h:=tkq 4 (h:=tkq 5 (h:=tkq 6 (h:=tkq 7 (h:=tkq 8 (h:=tkq 9 (h:=tkq 10 (h:=tkq 13 (h:=tkq 14 (h:=?_)))))))))))))
         clear hHeld
         refine rdq2 11 16 (h:=fun K hK=>?_) (h2:=fun K hK=>?_)
         ·go_simp
          go_wp2_with fail
          refine (zaM (a:Int) (cr:Int) (HG.out.at (onS HB.out K8.out) (onS HB.out K8.out).size)).mono ?_
          rintro e x9 ⟨rfl,kb⟩
          rw [HIA.out,HIC.out,<-HMV.out];replace K8:=hid (onS K8.out kb);clear kb
          refine bkq hK (HSS.out _ K8.out) (h:=fun hHeld=>?_)
          clear hK K;clear hHeld
          refine rdq2 12 16 (h:=fun K hK=>?_) (h2:=fun K hK=>?_)
          ·go_simp
           go_wp2_with fail
           refine (zby L (mv:Int) (HG.out.at (onS HB.out K8.out) (onS HB.out K8.out).size)).mono ?_
           rintro e x10 ⟨rfl,kb⟩
           rw [HIL.out,HIM.out,<-HLV.out];replace K8:=hid (onS K8.out kb);clear kb
           refine bkq hK (HSS.out _ K8.out) (h:=fun hHeld=>?_)
           clear hK K
           refine tkq 15 (h:=?_)
           clear hHeld
           refine rdq 16 (h:=fun K hK=>?_)
           go_simp
           have ra:(x10.alloc (Obj.cells #[Value.int .i64 0,Value.int .i64 0,Value.int .i64 0] 90)).rowIs x10.heap.size 90 3 (fun _=>.int .i64 0):=World.rowIs_alloc _ _ _ _ (fun j hj=>by
            match j,hj with
            | 0,_=>rfl
            | 1,_=>rfl
            | 2,_=>rfl)
           have kb:Below x10.heap.size x10 (x10.alloc (Obj.cells #[Value.int .i64 0,Value.int .i64 0,Value.int .i64 0] 90)):=(Below.refl _ _).alloc (Nat.le_refl _) _
           obtain ⟨x11,hwn⟩:∃ W,W=x10.alloc (Obj.cells #[Value.int .i64 0,Value.int .i64 0,Value.int .i64 0] 90):=⟨_,rfl⟩
           rw [<-hwn] at ra kb ⊢
           obtain ⟨yb,hyb⟩:∃ b,b=x10.heap.size:=⟨_,rfl⟩
           rw [<-hyb] at ra ⊢
           have HYL:Hid (w7.heap.size<=yb):=hid (by rw [hyb]; exact K8.out.size)
           have HYR:=hid ra
           replace K8:=hid (onS K8.out kb);clear kb hwn hyb ra
           refine bkq hK (HSS.out _ K8.out) (h:=fun hHeld=>?_)
           clear hK K;clear hHeld
           refine rdq 17 (h:=fun K hK=>?_)
           have c0:=HYR.out.cell (i:=0) (by omega)
           have z0:=HYR.out.frozen 0
           have o1:=HYR.out.set 0 (.int .i64 F)
           have c1:=o1.cell (i:=1) (by omega)
           rw [if_neg (by omega)] at c1
           have z1:=o1.frozen 1
           have o2:=o1.set 1 (.int .i64 (lv:Nat))
           have c2:=o2.cell (i:=2) (by omega)
           rw [if_neg (by omega),if_neg (by omega)] at c2
           have z2:=o2.frozen 2
           have o3:=o2.set 2 (.int .i64 O)
           have kb:=((K8.out.setCell (p:=⟨yb,0,none⟩) HYL.out (.int .i64 F)).setCell (p:=⟨yb,1,none⟩) HYL.out (.int .i64 (lv:Nat))).setCell (p:=⟨yb,2,none⟩) HYL.out (.int .i64 O)
           have HO3:=hid (o3.congr (g:=fun j=>edgeCell (fun _=>(F,((lv:Nat):Int),O)) 0 j) fun j hj=>by
            match j,hj with
            | 0,_=>rfl
            | 1,_=>rfl
            | 2,_=>rfl)
           have K9:=hid kb
           clear o1 o2 o3 kb
           go_simp
           clear c0 c1 c2 z0 z1 z2
           refine bkq hK (HSS.out _ K9.out) (h:=fun hHeld=>?_)
           clear hK K
           refine wpAnyH_done (by kernel_rfl) ?_ _
           clear hHeld
           go_wp2_with fail
           go_meet
           exact ⟨yb,rfl,HYL.out,HO3,K9.out⟩
          ·go_simp
           have ra:(x9.alloc (Obj.cells #[Value.int .i64 0,Value.int .i64 0,Value.int .i64 0] 90)).rowIs x9.heap.size 90 3 (fun _=>.int .i64 0):=World.rowIs_alloc _ _ _ _ (fun j hj=>by
            match j,hj with
            | 0,_=>rfl
            | 1,_=>rfl
            | 2,_=>rfl)
           have kb:Below x9.heap.size x9 (x9.alloc (Obj.cells #[Value.int .i64 0,Value.int .i64 0,Value.int .i64 0] 90)):=(Below.refl _ _).alloc (Nat.le_refl _) _
           obtain ⟨x12,hwn⟩:∃ W,W=x9.alloc (Obj.cells #[Value.int .i64 0,Value.int .i64 0,Value.int .i64 0] 90):=⟨_,rfl⟩
           rw [<-hwn] at ra kb ⊢
           obtain ⟨yb,hyb⟩:∃ b,b=x9.heap.size:=⟨_,rfl⟩
           rw [<-hyb] at ra ⊢
           have HYL:Hid (w7.heap.size<=yb):=hid (by rw [hyb]; exact K8.out.size)
           have HYR:=hid ra
           replace K8:=hid (onS K8.out kb);clear kb hwn hyb ra
           refine bkq hK (HSS.out _ K8.out) (h:=fun hHeld=>?_)
           clear hK K;clear hHeld
           refine rdq 12 (h:=fun K hK=>?_)
           go_simp
           go_wp2_with fail
           refine (zby L (mv:Int) (HG.out.at (onS HB.out K8.out) (onS HB.out K8.out).size)).mono ?_
           rintro e x13 ⟨rfl,kb⟩
           rw [HIL.out,HIM.out,<-HLV.out];replace HYR:=hid (zab HYR.out kb);replace K8:=hid (onS K8.out kb);clear kb
           refine bkq hK (HSS.out _ K8.out) (h:=fun hHeld=>?_)
           clear hK K
           refine tkq 15 (h:=?_)
           clear hHeld
           refine rdq 17 (h:=fun K hK=>?_)
           have c0:=HYR.out.cell (i:=0) (by omega)
           have z0:=HYR.out.frozen 0
           have o1:=HYR.out.set 0 (.int .i64 F)
           have c1:=o1.cell (i:=1) (by omega)
           rw [if_neg (by omega)] at c1
           have z1:=o1.frozen 1
           have o2:=o1.set 1 (.int .i64 (lv:Nat))
           have c2:=o2.cell (i:=2) (by omega)
           rw [if_neg (by omega),if_neg (by omega)] at c2
           have z2:=o2.frozen 2
           have o3:=o2.set 2 (.int .i64 O)
           have kb:=((K8.out.setCell (p:=⟨yb,0,none⟩) HYL.out (.int .i64 F)).setCell (p:=⟨yb,1,none⟩) HYL.out (.int .i64 (lv:Nat))).setCell (p:=⟨yb,2,none⟩) HYL.out (.int .i64 O)
           have HO3:=hid (o3.congr (g:=fun j=>edgeCell (fun _=>(F,((lv:Nat):Int),O)) 0 j) fun j hj=>by
            match j,hj with
            | 0,_=>rfl
            | 1,_=>rfl
            | 2,_=>rfl)
           have K9:=hid kb
           clear o1 o2 o3 kb
           go_simp
           clear c0 c1 c2 z0 z1 z2
           refine bkq hK (HSS.out _ K9.out) (h:=fun hHeld=>?_)
           clear hK K
           refine wpAnyH_done (by kernel_rfl) ?_ _
           clear hHeld
           go_wp2_with fail
           go_meet
           exact ⟨yb,rfl,HYL.out,HO3,K9.out⟩
         ·go_simp
          have ra:(w8.alloc (Obj.cells #[Value.int .i64 0,Value.int .i64 0,Value.int .i64 0] 90)).rowIs w8.heap.size 90 3 (fun _=>.int .i64 0):=World.rowIs_alloc _ _ _ _ (fun j hj=>by
           match j,hj with
           | 0,_=>rfl
           | 1,_=>rfl
           | 2,_=>rfl)
          have kb:Below w8.heap.size w8 (w8.alloc (Obj.cells #[Value.int .i64 0,Value.int .i64 0,Value.int .i64 0] 90)):=(Below.refl _ _).alloc (Nat.le_refl _) _
          obtain ⟨x14,hwn⟩:∃ W,W=w8.alloc (Obj.cells #[Value.int .i64 0,Value.int .i64 0,Value.int .i64 0] 90):=⟨_,rfl⟩
          rw [<-hwn] at ra kb ⊢
          obtain ⟨yb,hyb⟩:∃ b,b=w8.heap.size:=⟨_,rfl⟩
          rw [<-hyb] at ra ⊢
          have HYL:Hid (w7.heap.size<=yb):=hid (by rw [hyb]; exact K8.out.size)
          have HYR:=hid ra
          replace K8:=hid (onS K8.out kb);clear kb hwn hyb ra
          refine bkq hK (HSS.out _ K8.out) (h:=fun hHeld=>?_)
          clear hK K;clear hHeld
          refine rdq 11 (h:=fun K hK=>?_)
          go_simp
          go_wp2_with fail
          refine (zaM (a:Int) (cr:Int) (HG.out.at (onS HB.out K8.out) (onS HB.out K8.out).size)).mono ?_
          rintro e x15 ⟨rfl,kb⟩
          rw [HIA.out,HIC.out,<-HMV.out];replace HYR:=hid (zab HYR.out kb);replace K8:=hid (onS K8.out kb);clear kb
          refine bkq hK (HSS.out _ K8.out) (h:=fun hHeld=>?_)
          clear hK K;clear hHeld
          refine rdq 12 (h:=fun K hK=>?_)
          go_simp
          go_wp2_with fail
          refine (zby L (mv:Int) (HG.out.at (onS HB.out K8.out) (onS HB.out K8.out).size)).mono ?_
          rintro e x16 ⟨rfl,kb⟩
          rw [HIL.out,HIM.out,<-HLV.out];replace HYR:=hid (zab HYR.out kb);replace K8:=hid (onS K8.out kb);clear kb
          refine bkq hK (HSS.out _ K8.out) (h:=fun hHeld=>?_)
          clear hK K
          refine tkq 15 (h:=?_)
          clear hHeld
          refine rdq 17 (h:=fun K hK=>?_)
          have c0:=HYR.out.cell (i:=0) (by omega)
          have z0:=HYR.out.frozen 0
          have o1:=HYR.out.set 0 (.int .i64 F)
          have c1:=o1.cell (i:=1) (by omega)
          rw [if_neg (by omega)] at c1
          have z1:=o1.frozen 1
          have o2:=o1.set 1 (.int .i64 (lv:Nat))
          have c2:=o2.cell (i:=2) (by omega)
          rw [if_neg (by omega),if_neg (by omega)] at c2
          have z2:=o2.frozen 2
          have o3:=o2.set 2 (.int .i64 O)
          have kb:=((K8.out.setCell (p:=⟨yb,0,none⟩) HYL.out (.int .i64 F)).setCell (p:=⟨yb,1,none⟩) HYL.out (.int .i64 (lv:Nat))).setCell (p:=⟨yb,2,none⟩) HYL.out (.int .i64 O)
          have HO3:=hid (o3.congr (g:=fun j=>edgeCell (fun _=>(F,((lv:Nat):Int),O)) 0 j) fun j hj=>by
           match j,hj with
           | 0,_=>rfl
           | 1,_=>rfl
           | 2,_=>rfl)
          have K9:=hid kb
          clear o1 o2 o3 kb
          go_simp
          clear c0 c1 c2 z0 z1 z2
          refine bkq hK (HSS.out _ K9.out) (h:=fun hHeld=>?_)
          clear hK K
          refine wpAnyH_done (by kernel_rfl) ?_ _
          clear hHeld
          go_wp2_with fail
          go_meet
          exact ⟨yb,rfl,HYL.out,HO3,K9.out⟩
        case rest =>
         obtain ⟨yb,rfl,hyb,HYR,hBy⟩:=hcut
         obtain ⟨w8,hw8⟩:∃ X,X=wc:=⟨_,rfl⟩
         subst hw8
         have HYL:Hid (w7.heap.size<=yb):=hid hyb
         have K8:=hid hBy
         clear x0 x1 x2 r0
         have x0:w8.cell? ⟨xb,0,none⟩=some (.int .i64 F):=(zab HXR.out hBy).cell (i:=0) (by omega)
         clear hBy hyb
         obtain ⟨F1,hF1⟩:∃ F1:Int,F1=if p<i then F*(q:Nat)+(a:Nat) else F:=⟨_,rfl⟩
         obtain ⟨O1,hO1⟩:∃ O1:Int,O1=if (i:Int)<l then O*(q:Nat)+(a:Nat) else O:=⟨_,rfl⟩
         have hFq0:0<=F*(q:Int):=Int.mul_nonneg k0 (by omega)
         have hFq1:F*(q:Int)<=262144*256:=Int.mul_le_mul k1 (by omega) (by omega) (by omega)
         have hOq0:0<=O*(q:Int):=Int.mul_nonneg k4 (by omega)
         have hOq1:O*(q:Int)<=262144*256:=Int.mul_le_mul k5 (by omega) (by omega) (by omega)
         have HF1:=hid hF1
         have HO1:=hid hO1
         clear hF1 hO1
         go_upto_if 71 with fail
         go_cut [] (fun wx=>Hid (wx.rowIs yb 90 3 (fun j=>edgeCell (fun _=>(F1,((lv:Nat):Int),O)) 0 j))/\Below w7.heap.size w7 wx)
         case first =>
          by_cases g3:p<i
          ·have g3':(p:Int)<(i:Int):=by omega
           have c0:=qc0 HYR.out
           have z0:=HYR.out.frozen 0
           have o1:=(HYR.out.set 0 (.int .i64 (F*(q:Nat)+(a:Nat)))).congr (g:=fun j=>edgeCell (fun _=>(F1,((lv:Nat):Int),O)) 0 j) fun j hj=>by
            match j,hj with
            | 0,_=>rw [if_pos rfl]; show _=Value.int .i64 F1; rw [HF1.out,if_pos g3]
            | 1,_=>rfl
            | 2,_=>rfl
           have kb:=K8.out.setCell (p:=⟨yb,0,none⟩) HYL.out (.int .i64 (F*(q:Nat)+(a:Nat)))
           have HO4:=hid o1
           have K9:=hid kb
           clear o1 kb
           go_wp2
           go_meet
           exact ⟨HO4,K9.out⟩
          ·have g3':¬ (p:Int)<(i:Int):=by omega
           have HO4:Hid (w8.rowIs yb 90 3 (fun j=>edgeCell (fun _=>(F1,((lv:Nat):Int),O)) 0 j)):=hid (by rw [HF1.out,if_neg g3]; exact HYR.out)
           go_wp2
           go_meet
           exact ⟨HO4,K8.out⟩
         case rest =>
          clear HYR K8
          obtain ⟨HYR,hBy⟩:=hcut
          obtain ⟨w9,hw9⟩:∃ X,X=wc:=⟨_,rfl⟩
          subst hw9
          have K8:=hid hBy
          clear x0
          have x2:w9.cell? ⟨xb,2,none⟩=some (.int .i64 O):=(zab HXR.out hBy).cell (i:=2) (by omega)
          clear hBy
          go_upto_if 81 with fail
          go_cut [] (fun wx=>Hid (wx.rowIs yb 90 3 (fun j=>edgeCell (fun _=>(F1,((lv:Nat):Int),O1)) 0 j))/\Below w7.heap.size w7 wx)
          case first =>
           by_cases g4:(i:Int)<l
           ·have g4':l > (i:Int):=by omega
            have c2:=qc2 HYR.out
            have z2:=HYR.out.frozen 2
            have o1:=(HYR.out.set 2 (.int .i64 (O*(q:Nat)+(a:Nat)))).congr (g:=fun j=>edgeCell (fun _=>(F1,((lv:Nat):Int),O1)) 0 j) fun j hj=>by
             match j,hj with
             | 0,_=>rfl
             | 1,_=>rfl
             | 2,_=>rw [if_pos rfl]; show _=Value.int .i64 O1; rw [HO1.out,if_pos g4]
            have kb:=K8.out.setCell (p:=⟨yb,2,none⟩) HYL.out (.int .i64 (O*(q:Nat)+(a:Nat)))
            have HO4:=hid o1
            have K9:=hid kb
            clear o1 kb
            go_wp2
            go_meet
            exact ⟨HO4,K9.out⟩
           ·have g4':¬ l > (i:Int):=by omega
            have HO4:Hid (w9.rowIs yb 90 3 (fun j=>edgeCell (fun _=>(F1,((lv:Nat):Int),O1)) 0 j)):=hid (by rw [HO1.out,if_neg g4]; exact HYR.out)
            go_wp2
            go_meet
            exact ⟨HO4,K8.out⟩
          case rest =>
           clear HYR K8
           obtain ⟨HYR,hBy⟩:=hcut
           obtain ⟨wd,hwd⟩:∃ X,X=wc:=⟨_,rfl⟩
           subst hwd
           clear x2
           have d0:=qc0 HYR.out
           have d1:=qc1 HYR.out
           have d2:=qc2 HYR.out
           have HZE:Hid (z (u*q+a)=(F1,((lv:Nat):Int),O1)):=hid (by
            rw [HZ.out u a haq,<-HE0.out]
            unfold stepE
            rw [HF1.out,HO1.out,HLV.out,HMV.out,HCR.out,HP.out,HLL.out])
           have kb:Below wd.heap.size wd (wd.alloc (Obj.cells #[Value.int .i64 F1,Value.int .i64 (lv:Nat),Value.int .i64 O1] 90)):=(Below.refl _ _).alloc (Nat.le_refl _) _
           have ky:=onS hBy kb
           have ra:=World.rowIs_alloc wd #[Value.int .i64 F1,Value.int .i64 (lv:Nat),Value.int .i64 O1] 90 (fun j=>edgeCell z (u*q+a) j) (fun j hj=>by
            unfold edgeCell
            rw [HZE.out]
            match j,hj with
            | 0,_=>rfl
            | 1,_=>rfl
            | 2,_=>rfl)
           have HO5:=hid (HO2.out.on ky)
           have HOX5:=hid (HO.out.on ky)
           have HXR5:=hid (zab HXR.out ky)
           have HB5:=hid (onS HB.out ky)
           have HC5:Hid (∀ j,j<3->(wd.alloc (Obj.cells #[Value.int .i64 F1,Value.int .i64 (lv:Nat),Value.int .i64 O1] 90)).cell? ((⟨wd.heap.size,0,none⟩:Addr).add j)=some (edgeCell z (u*q+a) j)):=hid fun j hj=>by
            match j,hj with
            | 0,_=>exact ra.cell (i:=0) (by simp)
            | 1,_=>exact ra.cell (i:=1) (by simp)
            | 2,_=>exact ra.cell (i:=2) (by simp)
           have HZ5:Hid (w.heap.size<=(wd.alloc (Obj.cells #[Value.int .i64 F1,Value.int .i64 (lv:Nat),Value.int .i64 O1] 90)).heap.size):=hid HB5.out.size
           have HLQ:Hid (u*q+a<=1048576):=hid (by
            have h1:(u+1)*q<=mm*q:=Nat.mul_le_mul_right q hum
            rw [Nat.add_mul,Nat.one_mul] at h1
            omega)
           clear kb ky ra hBy
           go_wp2_with (first | (at_builtin; (refine zb9 rfl (.tmp 89) (.tmp 91) rfl HO5.out rfl (ad:=⟨wd.heap.size,0,none⟩) (c:=1) rfl HC5.out HZ5.out HLQ.out ?_); intro v9 we o1 o2 o3))
           have HO9:=hid o1
           have HOX9:=hid (HOX5.out.kept o2 HAP.out)
           have HXR9:=hid (HXR5.out.of_block (o2.block xb HXR5.out.lt fun e=>HNE.out e.symm))
           have HB9:=hid (HB5.out.grown o2 HZ5.out fun q e=>(HO5.out.lt _ e).1)
           have HAP9:Hid ((Value.slice (some ⟨eb,eo,none⟩) mm ec).ownBlock=none∨(Value.slice (some ⟨eb,eo,none⟩) mm ec).ownBlock≠v9.ownBlock):=hid (by
            rcases HAP.out with h | h
            ·exact .inl h
            ·refine .inr fun e=>?_
             rcases o3 with h3 | h3
             ·exact h (e.trans h3)
             ·have:=(HOX5.out.lt _ (e.trans h3)).2
              omega)
           have HNE9:Hid (v9.ownBlock≠some xb):=hid fun e=>by
            rcases o3 with h3 | h3
            ·exact HNE.out (h3.symm.trans e)
            ·have h5:=HXR5.out.lt
             rw [h3] at e
             injection e with e
             omega
           clear o1 o2 o3 HO5 HOX5 HXR5 HB5 HC5 HZ5 d0 d1 d2 HO HO2 HAP HXR HNE HB hFq0 hFq1 hOq0 hOq1
           go_wp2
           go_roundg (gk - 1)
           case measure=>omega
           case rel=>exact ⟨a+1,by go_num,by omega,by omega,HOX9,HO9,HAP9,HXR9,HNE9,HB9.out⟩
       ·have haq':¬ (a:Int)<(q:Int):=by omega
        obtain rfl:q=a:=by omega
        have HO2':Hid (Own w7 w.heap.size 90 3 (.slice ZA (u*q+q) zc) ((u+1)*q) (edgeCell z)):=hid (by rw [Nat.add_mul,Nat.one_mul]; exact HO2.out)
        go_wp2
        go_roundg (gP - 1)
        case measure=>omega
        case rel=>exact ⟨u+1,by go_num,by omega,by omega,HO,HO2',HAP,HB.out⟩
     ·have hum':¬ (u:Int)<(mm:Int):=by omega
      obtain rfl:mm=u:=by omega
      obtain ⟨ZA,zc,hv15⟩:=HO2.out.shape
      subst hv15
      have HO9:Hid (Own w5 w.heap.size 90 3 (.slice ZA (mm*q) zc) (mt (t+1)) (edgeCell z)):=hid (by rw [HM2.out]; exact HO2.out)
      by_cases g5:(i:Int)<l
      ·have g5':l > (i:Int):=by omega
       have hwq0:0<=(ww:Int)*(q:Int):=Int.mul_nonneg (by omega) (by omega)
       have hwq1:(ww:Int)*(q:Int)<=262144*256:=Int.mul_le_mul (by omega) (by omega) (by omega) (by omega)
       have HWE:Hid ((ww:Int)*(q:Int)=(wt (t+1):Nat)):=hid (by rw [HW2.out,if_pos g5]; push_cast; rfl)
       go_wp2
       go_roundg (gO - 1)
       case measure=>omega
       case rel=>exact ⟨t+1,z,by go_num,by rw [<-HWE.out],by omega,by omega,HO9,HX2,HB.out⟩
      ·have g5':¬ l > (i:Int):=by omega
       have HWE:Hid (ww=wt (t+1)):=hid (by rw [HW2.out,if_neg g5])
       go_wp2
       go_roundg (gO - 1)
       case measure=>omega
       case rel=>exact ⟨t+1,z,by go_num,by rw [<-HWE.out],by omega,by omega,HO9,HX2,HB.out⟩
  ·have htn':¬ (t:Int)<(n:Int):=by omega
   obtain rfl:n=t:=by omega
   have hm0:0<mm:=by rw [HMM.out,HMt.out]; exact Nat.pow_pos (by omega)
   go_wp2_with fail
   refine (zcg mm x w3 w.heap.size (.slice EA mm ec) HO.out hm0 (by omega)).mono ?_
   rintro e w4 ⟨rfl,y,hp,hs,ho,hgr⟩
   have HSM:Hid (SecM (P ^ M) (addF P M) (mulF P M m) n N pv R i mm y):=hid (by
    have e1:mm=(P ^ M) ^ cntB (actE pv R N i) n:=by rw [HMM.out,HMt.out,HQ.out]
    have hx:=HX.out
    rw [HQ.out] at hx;rw [e1] at hp hs ⊢
    exact zjg HL.out HS.out HIN.out hx hp hs)
   have HOF:=hid ho
   have HBF:=hid (HB.out.grown hgr HB.out.size fun q e=>(HO.out.lt _ e).1)
   have HWF:Hid (ww=(P ^ M) ^ cntB (actA pv R N (i+1)) n):=hid (by rw [HWW.out,HWt.out,HQ.out])
   clear hp hs ho hgr
   go_wp2
   go_ret2
   exact ⟨EA,mm,ec,y,by rw [<-HWF.out]; rfl,HSM.out,HOF.out,HBF.out⟩
end Go.Proofs.YtgekjfpapmlndaaGreat