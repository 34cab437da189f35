/- Merged texts of a claim: NumRows, Valued, Forward, Repeat, Proper. -/
import Derived.Test.YtgekjfpapmlndaaGreatTY10
import Derived.Laws.CopyOwn
namespace Go.Proofs.YtgekjfpapmlndaaGreat
set_option maxRecDepth 100000
set_option maxHeartbeats 32000000
open KA KB KC KD KE KF
open Go.RowKit
theorem Tryz.infoNats:(Tryz.prog.info? 64).map (fun i=>(i.zero,i.size,i.bytes))=some (some (.slice none 0 0),1,24):=by kernel_rfl
theorem zaj {w w':World} {g k:Nat} {v:Value} {row:Option Nat} (h:w.cell? ⟨g,k,none⟩=some v) (hg:w.grownBy w' row) (hne:row≠some g):w'.cell? ⟨g,k,none⟩=some v:=by
 have hl:=World.block_lt_of_cell? _ _ h
 have hb:=hg.block g hl (fun e=>hne e.symm)
 rw [<-h]
 simp only [World.cell?,hb]
theorem zfV {w wr:World} {o1 o2:Obj} (h:Below (w.heap.size+2) ((w.alloc o1).alloc o2) wr):Below w.heap.size w wr:=(((Below.refl w.heap.size w).alloc (Nat.le_refl _) o1).alloc (by simp) o2).trans (h.mono (by omega))
theorem zkF {w wr:World} {o1 o2:Obj} (h:Below (w.heap.size+2) ((w.alloc o1).alloc o2) wr):w.heap.size+2<=wr.heap.size:=by have:=h.size; simp at this; omega
theorem zkG {w wr w':World} {o1 o2:Obj} (h:Below (w.heap.size+2) ((w.alloc o1).alloc o2) wr) (hb:Below wr.heap.size wr w'):Below (w.heap.size+2) ((w.alloc o1).alloc o2) w':=h.trans (hb.mono (zkF h))
theorem zbq {b:Nat} {w W Y:World} (h:Below b w W) (hl:b<=W.heap.size) (kb:Below W.heap.size W Y):Below b w Y:=h.trans (kb.mono hl)
theorem zfn {w:World} {g base m:Nat} {x:Nat->Nat->Nat} (h:w.rowIs g 64 m (fun _=>.slice none 0 0)):NumTab w g base m (fun _=>.slice none 0 0) (fun _=>0) x :=
 ⟨h,fun _ _=>NatOwn.nil _ _ _,fun _ _ _ _ _=>.inl rfl⟩
def TabPost (T:Trel) (x:Nat->Nat->Nat) (w:World) (e:Ending) (w':World):Prop :=
 ∃ g F,e=.returned (.slice (some ⟨g,0,none⟩) T.nw T.nw)/\w.heap.size<=g/\NumTab w' g (g+1) T.nw F (fun v=>(T.W v).toNat) x/\Below w.heap.size w w'
theorem ziD (T:Trel) (A B:Option Addr) (c d:Nat) (w:World) (h:T.Reads w A B) (hs:T.Shape) :
  Calls Tryz.prog 194 #[.agg #[],.agg #[.slice A T.nw c,.slice B T.n d]] w (TabPost T (fun _ _=>0) w):=by
 obtain ⟨O1,U⟩:=exx ((Obj.cells #[] 175))
 obtain ⟨O2,G⟩:=exx ((Obj.cells #[.slice A T.nw c,.slice B T.n d] 53))
 have u:Below (w.heap.size+2) ((w.alloc O1).alloc O2) ((w.alloc O1).alloc O2):=Below.refl _ _
 have HS:Hid (∀ w',Below (w.heap.size+2) ((w.alloc O1).alloc O2) w'->(w'.cell? ⟨w.heap.size+1,0,none⟩=some (.slice A T.nw c)/\w'.cell? ⟨w.heap.size+1,1,none⟩=some (.slice B T.n d))/\Below w.heap.size w w'):=fun w' hB=>by
  have ad:=zfV hB
  subst G
  have hr:=zdS hB
  exact ⟨⟨hr.cell (i:=0) (by simp),hr.cell (i:=1) (by simp)⟩,ad⟩
 obtain ⟨⟨p0,p1⟩,hW⟩:=HS.out _ u
 have a4:=hs.n64
 have a3:=hs.nw
 have L:=fun W=>zaf (P:=Tryz.prog) 148 64 _ 24 Tryz.underlying148 Tryz.infoNats rfl (T.nw:Int) (by omega) (by omega) (by omega) W
 simp only [Int.toNat_natCast] at L
 have HR:=hid h
 have X:=hid hs
 have J:T.nw<=65:=by omega
 clear h hs a3
 go_enter Tryz.func194, Tryz.ntmps194
 go_wp2_with fail
 rw [<-U,<-G]
 go_upto_region 2 with fail
 obtain ⟨W2,s⟩:∃ W,W=(w.alloc O1).alloc O2:=⟨_,rfl⟩
 have b:W2.heap.size=w.heap.size+2:=by rw [s]; simp
 have Y:Hid (∀ w',Below (w.heap.size+2) W2 w'->(w'.cell? ⟨w.heap.size+1,0,none⟩=some (.slice A T.nw c)/\w'.cell? ⟨w.heap.size+1,1,none⟩=some (.slice B T.n d))/\Below w.heap.size w w'):=by rw [s]; exact HS
 rw [<-s] at u ⊢
 obtain ⟨g,hg⟩:=exx (w.heap.size+1+1)
 have N:g=W2.heap.size:=by omega
 have r:=World.rowIs_made W2 (.slice none 0 0) T.nw 64
 have H:=zbq u (Nat.le_of_eq b.symm) ((Below.refl W2.heap.size W2).alloc (Nat.le_refl _) (Obj.cells (madeCells #[Value.slice none 0 0] T.nw) 64))
 have C:w.heap.size+2<(W2.alloc (Obj.cells (madeCells #[Value.slice none 0 0] T.nw) 64)).heap.size:=by simp; omega
 obtain ⟨W3,O⟩:=exx (W2.alloc (Obj.cells (madeCells #[Value.slice none 0 0] T.nw) 64))
 rw [<-N] at r;rw [<-O] at r H C ⊢;rw [<-hg]
 have Q:NumTab W3 g (g+1) T.nw (fun _=>.slice none 0 0) (fun v=>if v<0 then (T.W v).toNat else 0) (fun _ _=>0):=(zfn r).congr (fun v _=>(if_neg (by omega)).symm) (fun v _ k hk=>rfl)
 have a9:w.heap.size+2<=g:=by omega
 clear O N hg r s HS u L U G b
 go_loopg [15] T.nw (fun gg iv wx=>∃ (k:Nat) (F:Nat->Value),iv=.int .i64 (k:Nat)/\k<=T.nw/\T.nw<=k+gg/\NumTab wx g (g+1) T.nw F (fun v=>if v<k then (T.W v).toNat else 0) (fun _ _=>0)/\Below (w.heap.size+2) W2 wx/\w.heap.size+2<wx.heap.size)
 case atStart=>exact ⟨0,_,rfl,by omega,by omega,Q,H,C⟩
 clear hW p0 p1 Q H C
 obtain ⟨gK,a8⟩:=exx gk
 subst a8
 obtain ⟨k,F,rfl,hk,ah,hT,hB,hl⟩:=hrel
 obtain ⟨wk,a1⟩:=exx wr
 subst a1
 have ai:(0:Int)<=(k:Int):=by omega
 obtain ⟨⟨p0,p1⟩,hW⟩:=Y.out _ hB
 by_cases hlt:k<T.nw
 rotate_left
 ·have z:¬ (k:Int)<(T.nw:Int):=by omega
  have aa:Hid (NumTab wk g (g+1) T.nw F (fun v=>(T.W v).toNat) (fun _ _=>0)):=hT.congr (fun v hv=>if_pos (by omega)) (fun v _ q hq=>rfl)
  clear hT
  go_wp2
  go_ret
  exact ⟨g,F,rfl,by omega,aa.out,hW⟩
 have z:(k:Int)<(T.nw:Int):=by omega
 obtain ⟨wb,wo,rfl,ag,y0,a0,Z⟩:=(HR.out.on hW).width hlt
 have x:=X.out.wid (i:=k) (by have:=X.out.nw; omega)
 obtain ⟨n1,y⟩:∃ n:Nat,(n:Int)=T.W k:=⟨(T.W k).toNat,by omega⟩
 rw [<-y] at y0 x
 have ae:=hid y
 clear y a0 Z
 have R:NumTab wk g (g+1) T.nw F (fun v=>if v<k then (T.W v).toNat else if v=k then 0 else 0) (fun _ _=>0):=hT.congr (fun v _=>by split <;> simp) (fun v _ q hq=>rfl)
 clear hT
 go_wp2
 go_loopg [21] n1 (fun gg jv wx=>∃ (j:Nat) (F:Nat->Value),jv=.int .i64 (j:Nat)/\j<=n1/\n1<=j+gg/\NumTab wx g (g+1) T.nw F (fun v=>if v<k then (T.W v).toNat else if v=k then j else 0) (fun _ _=>0)/\Below (w.heap.size+2) W2 wx/\w.heap.size+2<wx.heap.size)
 case atStart=>exact ⟨0,F,rfl,by omega,by omega,R,hB,hl⟩
 clear hW p0 p1 R hB hl y0
 obtain ⟨j,F2,rfl,hj,aj,hT,hB,hl⟩:=hrel
 have ak:(0:Int)<=(j:Int):=by omega
 obtain ⟨⟨p0,p1⟩,hW⟩:=Y.out _ hB
 by_cases hltj:j<n1
 rotate_left
 ·have l:¬ (j:Int)<(n1:Int):=by omega
  have M:j=n1:=by omega
  have ab:Hid (NumTab wr g (g+1) T.nw F2 (fun v=>if v<k+1 then (T.W v).toNat else 0) (fun _ _=>0)):=hT.congr (fun v _=>by
   by_cases e:v<k
   ·rw [if_pos e,if_pos (by omega)]
   rw [if_neg e]
   by_cases e2:v=k
   ·subst e2
    rw [if_pos rfl,if_pos (by omega),M]
    have:=ae.out
    omega
   ·rw [if_neg e2,if_neg (by omega)]) (fun v _ q hq=>rfl)
  have HB:=hid hB
  clear hT hB M
  go_wp2
  go_roundg (gK - 1)
  case measure=>omega
  case rel=>exact ⟨k+1,F2,by go_num,by omega,by omega,ab.out,HB.out,hl⟩
 have l:(j:Int)<(n1:Int):=by omega
 obtain ⟨fk,E⟩:=exx (F2 k)
 have q0:wr.cell? ⟨g,k,none⟩=some fk:=by rw [E]; exact hT.row.cell hlt
 have I:=hid E
 clear E p0 p1 hW
 rename World=>w50
 go_upto_region 7 with fail
 refine wp_region_held_drew (S:=fun _=>True) (by kernel_rfl) trivial (fun hHeld=>?_)
 obtain ⟨w51,hw,kb⟩:=dwx w50
 rw [<-hw];clear hw;replace hB:=zbq hB (Nat.le_of_lt hl) kb;replace hl:=Nat.lt_of_lt_of_le hl kb.size;replace hT:=hT.on kb;replace q0:=cellS kb q0;clear kb
 refine tkq 0 (h:=tkq 1 (h:=tkq 2 (h:=tkq 3 (h:=tkq 4 (h:=tkq 6 (h:=tkq 7 (h:=?_)))))))
 refine rdq2 5 8 (h:=fun K hK=>?_) (h2:=fun K hK=>?_)
 focus
  go_simp
  refine bkq hK trivial (h:=fun hHeld=>?_)
  clear hK K
  refine rdq 8 (h:=fun K hK=>?_)
  go_simp
  go_wp2_with fail
  refine (zfU w51).mono ?_
  rintro e w52 ⟨A0,c0,rfl,z1,z2,z3,kb⟩
  replace hB:=zbq hB (Nat.le_of_lt hl) kb;replace hl:=Nat.lt_of_lt_of_le hl kb.size;replace hT:=hT.on kb;replace q0:=cellS kb q0;clear kb
  refine bkq hK trivial (h:=fun hHeld=>?_)
  clear hK K
  refine rdq 9 (h:=fun K hK=>?_)
  go_simp
  obtain ⟨w53,hw⟩:=exx (World.alloc w52 (Obj.cells #[Value.slice A0 (dl 0) c0] 69))
  have kb:=alx hw
  have n1c:w53.cell? ⟨w52.heap.size,0,none⟩=some (.slice A0 (dl 0) c0):=by rw [hw]; simp
  rw [<-hw];clear hw
  obtain ⟨nb,a⟩:=exx w52.heap.size
  rw [<-a] at n1c ⊢;clear a;replace hB:=zbq hB (Nat.le_of_lt hl) kb;replace hl:=Nat.lt_of_lt_of_le hl kb.size;replace hT:=hT.on kb;replace q0:=cellS kb q0;replace z3:=z3.on kb;clear kb
 rotate_left
 focus
  go_simp
  go_wp2_with fail
  refine (zfU w51).mono ?_
  rintro e w52 ⟨A0,c0,rfl,z1,z2,z3,kb⟩
  replace hB:=zbq hB (Nat.le_of_lt hl) kb;replace hl:=Nat.lt_of_lt_of_le hl kb.size;replace hT:=hT.on kb;replace q0:=cellS kb q0;clear kb
  refine bkq hK trivial (h:=fun hHeld=>?_)
  clear hK K
  refine rdq2 5 9 (h:=fun K hK=>?_) (h2:=fun K hK=>?_)
  focus
   go_simp
   refine bkq hK trivial (h:=fun hHeld=>?_)
   clear hK K
   refine rdq 9 (h:=fun K hK=>?_)
   go_simp
   obtain ⟨w53,hw⟩:=exx (World.alloc w52 (Obj.cells #[Value.slice A0 (dl 0) c0] 69))
   have kb:=alx hw
   have n1c:w53.cell? ⟨w52.heap.size,0,none⟩=some (.slice A0 (dl 0) c0):=by rw [hw]; simp
   rw [<-hw];clear hw
   obtain ⟨nb,a⟩:=exx w52.heap.size
   rw [<-a] at n1c ⊢;clear a;replace hB:=zbq hB (Nat.le_of_lt hl) kb;replace hl:=Nat.lt_of_lt_of_le hl kb.size;replace hT:=hT.on kb;replace q0:=cellS kb q0;replace z3:=z3.on kb;clear kb
  rotate_left
  focus
   go_simp
   obtain ⟨w53,hw⟩:=exx (World.alloc w52 (Obj.cells #[Value.slice A0 (dl 0) c0] 69))
   have kb:=alx hw
   have n1c:w53.cell? ⟨w52.heap.size,0,none⟩=some (.slice A0 (dl 0) c0):=by rw [hw]; simp
   rw [<-hw];clear hw
   obtain ⟨nb,a⟩:=exx w52.heap.size
   rw [<-a] at n1c ⊢;clear a;replace hB:=zbq hB (Nat.le_of_lt hl) kb;replace hl:=Nat.lt_of_lt_of_le hl kb.size;replace hT:=hT.on kb;replace q0:=cellS kb q0;replace z3:=z3.on kb;clear kb
   refine bkq hK trivial (h:=fun hHeld=>?_)
   clear hK K
   refine rdq 5 (h:=fun K hK=>?_)
   go_simp
  rotate_left
 rotate_left 2
 all_goals
  refine bkq hK trivial (h:=fun hHeld=>?_)
  clear hK K
  refine rdq 10 (h:=fun K hK=>?_)
  have o:NatOwn w53 (g+1) fk j (fun _=>0):=by
   have:=hT.own k hlt
   rw [if_neg (Nat.lt_irrefl k),if_pos rfl,<-I.out] at this
   exact this
  have a7:g+1<=w53.heap.size:=hT.row.lt
  have af:=hT.row.frozen k
  refine zdc (by rfl) (.tmp 28) (.tmp 32) (by rfl) (g+1) fk j (fun _=>0) (by rfl) o a7 (by omega) nb 1 (by rfl) A0 c0 n1c z3 z1 z2 ?_
  intro v9 w9 o1 o2 o3
  obtain ⟨A9,c9,a2⟩:=o1.isSlice
  subst a2
  have D:∀ q,fk.ownBlock=some q->g+1<=q:=fun q e=>(o.lt q e).1
  have q9:w9.cell? ⟨g,k,none⟩=some fk:=zaj q0 o2 fun e=>by have:=D g e; omega
  have z9:w9.frozen? ⟨g,k,none⟩=false:=by
   have:=(hT.row.of_block (o2.block g hT.row.lt fun e=>by have:=D g e.symm; omega)).frozen k
   exact this
  have V:Below (w.heap.size+2) W2 w9:=hB.grown o2 (Nat.le_of_lt hl) fun q e=>by have:=D q e; omega
  have a6:w.heap.size+2<w9.heap.size:=Nat.lt_of_lt_of_le hl o2.size
  have m:=hid (hT.put (by omega) hlt o1 (by rw [<-I.out]; exact o2) (by rw [<-I.out]; exact o3))
  refine bkq hK trivial (h:=fun hHeld=>?_)
  clear hK K
  refine tkq 11 (h:=?_)
  refine rdq 12 (h:=fun K hK=>?_)
  go_simp
  refine bkq hK trivial (h:=fun hHeld=>?_)
  clear hK K
  refine wpAnyH_done (by kernel_rfl) ?_ _
  clear hHeld
  have hN:=m.out.congr (n':=fun v=>if v<k then (T.W v).toNat else if v=k then j+1 else 0) (x':=fun _ _=>0) (fun v _=>by
    by_cases e:v=k
    ·subst e; simp
    ·simp [e]) (fun v _ q hq=>by split <;> rfl)
  have HN:=hid hN
  have ac:=V.setCell (p:=⟨g,k,none⟩) a9 (.slice A9 (j+1) c9)
  have a5:w.heap.size+2<(w9.setCell ⟨g,k,none⟩ (.slice A9 (j+1) c9)).heap.size:=by simp; exact a6
  clear m hN q9 z9 V
  go_wp2
  go_roundg (gk - 1)
  case measure=>omega
  case rel=>exact ⟨j+1,_,by go_num,by omega,by omega,HN.out,ac,a5⟩
def VTab (w:World) (V:Option Addr) (m:Nat) (ln:Nat->Nat) (y:Nat->Nat->Nat):Prop :=
 ∀ i,i<m->∃ b off R rc,V=some ⟨b,off,none⟩/\b<w.heap.size/\w.cell? ⟨b,off+i,none⟩=some (.slice R (ln i) rc)/\NatTab w w.heap.size R (ln i) (y i)
theorem VTab.on {w w':World} {V:Option Addr} {m:Nat} {ln:Nat->Nat} {y:Nat->Nat->Nat} (h:VTab w V m ln y) (hb:Below w.heap.size w w'):VTab w' V m ln y:=fun i hi=>by
 obtain ⟨b,off,R,rc,e,h1,h2,h3⟩:=h i hi
 exact ⟨b,off,R,rc,e,Nat.lt_of_lt_of_le h1 hb.size,(hb.cell (p:=⟨b,_,none⟩) h1).trans h2,h3.on hb⟩
def Trel.fwdE (T:Trel) (y:Nat->Nat->Nat) (prev:Nat->Nat) (i:Nat):Nat->Nat->Nat
 | 0,_=>0
 | j+1,v=>T.fwdE y prev i j v+if (T.to i j).toNat=v then prev (T.fr i j).toNat*y i j else 0
def Trel.fwd (T:Trel) (y:Nat->Nat->Nat):Nat->Nat->Nat
 | 0,v=>if v=0 then 1 else 0
 | i+1,v=>T.fwdE y (T.fwd y i) i (T.el i) v
theorem Trel.fwdE_le {T:Trel} {y:Nat->Nat->Nat} {prev:Nat->Nat} {i M:Nat} (hp:∀ v,prev v<=M):∀ j,(∀ q,q<j->y i q<=1)->∀ v,T.fwdE y prev i j v<=j*M:=by
 intro j
 induction j with
 | zero=>intro _ v; simp [Trel.fwdE]
 | succ j ih =>
  intro hy v
  have h1:=ih (fun q hq=>hy q (by omega)) v
  have h2:prev (T.fr i j).toNat*y i j<=M*1:=Nat.mul_le_mul (hp _) (hy j (by omega))
  show _+(if _ then _ else 0)<=(j+1)*M
  rw [Nat.add_mul]
  obtain ⟨z,hz⟩:=exx (prev (T.fr i j).toNat*y i j)
  rw [<-hz] at h2 ⊢
  obtain ⟨a,ha⟩:=exx (T.fwdE y prev i j v)
  rw [<-ha] at h1 ⊢
  split <;> omega
theorem Trel.fwd_le {T:Trel} (hs:T.Shape) {y:Nat->Nat->Nat} (hy:∀ i,i<T.n->∀ j,j<T.el i->y i j<=1):∀ i,i<=T.n->∀ v,T.fwd y i v<=262144 ^ i:=by
 intro i
 induction i with
 | zero=>intro _ v; show (if v=0 then 1 else 0)<=_; split <;> simp
 | succ i ih =>
  intro hi v
  have h1:=Trel.fwdE_le (T:=T) (y:=y) (i:=i) (ih (by omega)) (T.el i) (hy i (by omega)) v
  have h2:=hs.elb (i:=i) (by omega)
  show T.fwdE y (T.fwd y i) i (T.el i) v<=_
  rw [Nat.pow_succ,Nat.mul_comm]
  exact Nat.le_trans h1 (Nat.mul_le_mul_right _ h2)
theorem zhA {x i:Nat} (hi:i<=64) (h:x<=262144 ^ i):dl x<=37:=by
 refine zj9 ?_
 have h1:(262144:Nat) ^ i<=262144 ^ 64:=Nat.pow_le_pow_right (by omega) hi
 have h2:(262144:Nat) ^ 64<4294967296 ^ 37:=by decide +kernel
 omega
theorem Trel.fwd_dl {T:Trel} (hs:T.Shape) {y:Nat->Nat->Nat} (hy:∀ i,i<T.n->∀ j,j<T.el i->y i j<=1) {i:Nat} (hi:i<=T.n) (v:Nat):dl (T.fwd y i v)<=37 :=
 zhA (Nat.le_trans hi hs.n64) (Trel.fwd_le hs hy i hi v)
theorem Trel.fwdE_dl {T:Trel} (hs:T.Shape) {y:Nat->Nat->Nat} (hy:∀ i,i<T.n->∀ j,j<T.el i->y i j<=1) {i j:Nat} (hi:i<T.n) (hj:j<=T.el i) (v:Nat):dl (T.fwdE y (T.fwd y i) i j v)<=37:=by
 have h1:=Trel.fwdE_le (T:=T) (y:=y) (i:=i) (Trel.fwd_le hs hy i (by omega)) j (fun q hq=>hy i hi q (by omega)) v
 have h2:=hs.elb (i:=i) hi
 have h3:j*262144 ^ i<=262144*262144 ^ i:=Nat.mul_le_mul_right _ (by omega)
 refine zhA (i:=i+1) (by have:=hs.n64; omega) ?_
 rw [Nat.pow_succ,Nat.mul_comm (262144 ^ i)]
 exact Nat.le_trans h1 h3
theorem zgr (T:Trel) (A B V:Option Addr) (c d vc:Nat) (y:Nat->Nat->Nat) (w:World) (h:T.Reads w A B) (hs:T.shapeE=0) (hv:VTab w V T.n T.el y) :
  Calls Tryz.prog 193 #[.agg #[.slice A T.nw c,.slice B T.n d],.slice V T.n vc] w fun e w'=>e=.returned (.int .i64 0)/\Below w.heap.size w w':=by
 obtain ⟨RB,i⟩:=exx ((Obj.cells #[.slice A T.nw c,.slice B T.n d] 53))
 have j:Below (w.heap.size+1) (w.alloc RB) (w.alloc RB):=Below.refl _ _
 have HS:Hid (∀ w',Below (w.heap.size+1) (w.alloc RB) w'->(w'.cell? ⟨w.heap.size,0,none⟩=some (.slice A T.nw c)/\w'.cell? ⟨w.heap.size,1,none⟩=some (.slice B T.n d))/\Below w.heap.size w w'):=fun w' hB=>by
  have p:=zaL hB
  subst i
  exact ⟨⟨tbox hB rfl,tbox hB rfl⟩,p⟩
 obtain ⟨⟨p0,p1⟩,hW⟩:=HS.out _ j
 go_enter Tryz.func193, Tryz.ntmps193
 go_wp2_with fail
 rw [<-i]
 refine (zeG T A B c d _ (h.on hW)).mono ?_
 rintro e w1 ⟨rfl,hb⟩
 have m:=zaD j hb
 rw [hs]
 have HR:=hid h
 have HV:=hid hv
 have l:=(Trel.shape_of hs).n64
 clear hW p0 p1 hb j i h hv hs
 obtain ⟨⟨p0,p1⟩,hW⟩:=HS.out _ m
 go_wp2
 go_loopg [22] T.n (fun gg iv wx=>∃ k:Nat,iv=.int .i64 (k:Nat)/\k<=T.n/\T.n<=k+gg/\Below w1.heap.size w1 wx)
 case atStart=>exact ⟨0,rfl,by omega,by omega,Below.refl _ _⟩
 obtain ⟨k,rfl,hk,r,hb⟩:=hrel
 have s:(0:Int)<=(k:Int):=by omega
 replace p0:=cellS hb p0;replace p1:=cellS hb p1
 have g:=onS hW hb
 clear hW
 by_cases hlt:k<T.n
 ·have a:(k:Int)<(T.n:Int):=by omega
  obtain ⟨b,o,E,ec,rfl,_,x0,_,_,_,_⟩:=(HR.out.on g).sec hlt
  obtain ⟨vb,vo,R,rc,rfl,_,x1,_⟩:=(HV.out.on g) k hlt
  have q:((T.el k:Int) != (T.el k:Int))=false:=by simp
  go_wp2
  go_roundg (gk - 1)
  case measure=>omega
  case rel=>exact ⟨k+1,by go_num,by omega,by omega,hb⟩
 have a:¬ (k:Int)<(T.n:Int):=by omega
 go_wp2
 go_ret
 exact ⟨rfl,g⟩
def Trel.fwdX (T:Trel) (y:Nat->Nat->Nat) (i j:Nat):Nat->Nat->Nat:=fun u v=>if u<=i then T.fwd y u v else if u=i+1 then T.fwdE y (T.fwd y i) i j v else 0
theorem Trel.fwdX_next (T:Trel) (y:Nat->Nat->Nat) (i u v:Nat):T.fwdX y i (T.el i) u v=T.fwdX y (i+1) 0 u v:=by
 simp only [Trel.fwdX]
 by_cases h:u<=i
 ·rw [if_pos h,if_pos (by omega)]
 rw [if_neg h]
 by_cases h2:u=i+1
 ·subst h2
  rw [if_pos rfl,if_pos (Nat.le_refl _)]
  rfl
 rw [if_neg h2,if_neg (by omega)]
 split
 ·rfl
 ·rfl
theorem Trel.fwdX_put (T:Trel) (y:Nat->Nat->Nat) (i j u v:Nat):upd2 (T.fwdX y i j) (i+1) (T.to i j).toNat (T.fwdE y (T.fwd y i) i j (T.to i j).toNat+T.fwd y i (T.fr i j).toNat*y i j) u v=T.fwdX y i (j+1) u v:=by
 simp only [Trel.fwdX,upd2]
 by_cases h:u<=i
 ·rw [if_pos h,if_pos h,if_neg (by omega)]
 rw [if_neg h,if_neg h]
 by_cases h2:u=i+1
 ·rw [if_pos h2,if_pos h2]
  show _=T.fwdE y (T.fwd y i) i j v+if (T.to i j).toNat=v then _ else 0
  by_cases h3:v=(T.to i j).toNat
  ·rw [if_pos ⟨h2,h3⟩,if_pos h3.symm,h3]
  ·rw [if_neg (fun hh=>h3 hh.2),if_neg (fun e=>h3 e.symm)]
   rfl
 ·rw [if_neg h2,if_neg h2,if_neg (by omega)]
def FwdPost (T:Trel) (x:Nat->Nat->Nat) (w:World) (e:Ending) (w':World):Prop :=
 ∃ g F,e=.returned (.tuple #[.slice (some ⟨g,0,none⟩) T.nw T.nw,.int .i64 0])/\w.heap.size<=g/\NumTab w' g (g+1) T.nw F (fun v=>(T.W v).toNat) x/\Below w.heap.size w w'
theorem zfo (T:Trel) (A B V:Option Addr) (c d vc:Nat) (y:Nat->Nat->Nat) (w:World) (h:T.Reads w A B) (hs:T.shapeE=0) (hv:VTab w V T.n T.el y) (hy:∀ i,i<T.n->∀ j,j<T.el i->y i j<=1) :
  Calls Tryz.prog 139 #[.agg #[],.agg #[.slice A T.nw c,.slice B T.n d],.slice V T.n vc] w (FwdPost T (T.fwd y) w):=by
 obtain ⟨O1,az⟩:=exx ((Obj.cells #[] 175))
 obtain ⟨O2,ac⟩:=exx ((Obj.cells #[.slice A T.nw c,.slice B T.n d] 53))
 have ag:Below (w.heap.size+2) ((w.alloc O1).alloc O2) ((w.alloc O1).alloc O2):=Below.refl _ _
 have HS:Hid (∀ w',Below (w.heap.size+2) ((w.alloc O1).alloc O2) w'->(w'.cell? ⟨w.heap.size+1,0,none⟩=some (.slice A T.nw c)/\w'.cell? ⟨w.heap.size+1,1,none⟩=some (.slice B T.n d))/\Below w.heap.size w w'):=fun w' hB=>by
  have bs:=zfV hB
  subst ac
  have hr:=zdS hB
  exact ⟨⟨hr.cell (i:=0) (by simp),hr.cell (i:=1) (by simp)⟩,bs⟩
 obtain ⟨⟨p0,p1⟩,hW⟩:=HS.out _ ag
 have q:=hid (Trel.shape_of hs)
 have bv:=hid hs
 have HR:=hid h
 have HV:=hid hv
 have HY:=hid hy
 clear h hs hv hy
 go_enter Tryz.func139, Tryz.ntmps139
 go_wp2_with fail
 rw [<-az,<-ac]
 refine (zgr T A B V c d vc y _ (HR.out.on hW) bv.out (HV.out.on hW)).mono ?_
 rintro e w1 ⟨rfl,kb⟩
 have U:=zkG ag kb
 clear p0 p1 hW kb ag az ac
 obtain ⟨⟨p0,p1⟩,hW⟩:=HS.out _ U
 go_wp2_with fail
 refine (ziD T A B c d _ (HR.out.on hW) q.out).mono ?_
 rintro e w2 ⟨g,F,rfl,hg,hT,kb⟩
 have z:=zkG U kb
 have be:=zkF U
 have ca:w.heap.size+2<=g:=by omega
 have bc:w.heap.size+2<w2.heap.size:=by have:=hT.row.lt; omega
 obtain ⟨W2,a9⟩:∃ W,W=(w.alloc O1).alloc O2:=⟨_,rfl⟩
 have ah:Hid (∀ w',Below (w.heap.size+2) W2 w'->(w'.cell? ⟨w.heap.size+1,0,none⟩=some (.slice A T.nw c)/\w'.cell? ⟨w.heap.size+1,1,none⟩=some (.slice B T.n d))/\Below w.heap.size w w'):=by rw [a9]; exact HS
 rw [<-a9] at z;clear p0 p1 hW kb U be hg a9 HS
 have ba:=q.out.n64
 have aj:=hid q.out.nw
 have o:0<T.nw:=by have:=aj.out; omega
 have ap:(0:Int)<(T.nw:Int):=by omega
 have b5:=q.out.wid (i:=0) (by omega)
 have m:0<(T.W 0).toNat:=by omega
 obtain ⟨b0,o0,d0,A0,c0,af,ci,a8,q0,_,_,_,z0,a1⟩:=hT.at (v:=0) o (k:=0) m
 obtain ⟨n0,a3⟩:=exx ((T.W 0).toNat)
 have ak:=hid a3
 have r0:=hT.row.cell o
 rw [af] at r0
 change w2.cell? ⟨g,0,none⟩=some (.slice (some ⟨b0,o0,none⟩) (T.W 0).toNat d0) at r0
 rw [<-a3] at m r0
 have D:(0:Int)<(n0:Int):=by omega
 clear a3
 go_upto_region 5 with fail
 have hl:=bc
 refine wp_region_held_drew (S:=fun w'=>w'.cell? ⟨g,0,none⟩=some (.slice (some ⟨b0,o0,none⟩) n0 d0)) (by kernel_rfl) (cellS (Below.refl _ _).drew r0) (fun hHeld=>?_)
 obtain ⟨w3,hw,kb⟩:=dwx w2
 rw [<-hw] at hHeld ⊢;clear hw;replace z:=zbq z (Nat.le_of_lt hl) kb;replace hl:=Nat.lt_of_lt_of_le hl kb.size;replace hT:=hT.on kb;replace r0:=cellS kb r0;replace q0:=cellS kb q0;clear kb
 refine tkq 0 (h:=tkq 1 (h:=tkq 2 (h:=tkq 3 (h:=tkq 4 (h:=?_)))))
 refine rdq 5 (h:=fun K hK=>?_)
 go_simp
 go_wp2_with fail
 refine (zjQ w3).mono ?_
 rintro e w4 ⟨A1,c1,rfl,z1,z2,z3,kb⟩
 replace z:=zbq z (Nat.le_of_lt hl) kb;replace hl:=Nat.lt_of_lt_of_le hl kb.size;replace hT:=hT.on kb;replace r0:=cellS kb r0;replace q0:=cellS kb q0;clear kb
 refine bkq hK r0 (h:=fun hHeld=>?_)
 clear hK K
 refine tkq 6 (h:=?_)
 refine rdq 7 (h:=fun K hK=>?_)
 have zf:w4.frozen? ⟨b0,o0,none⟩=false:=by
  obtain ⟨b9,o9,d9,A9,c9,N,_,_,_,_,_,_,z9,_⟩:=hT.at (v:=0) o (k:=0) (by rw [<-ak.out]; exact m)
  rw [af] at N
  injection N with e1 _ _
  injection e1 with e1
  injection e1 with e1 e2
  subst e1 e2
  exact z9
 rw [Nat.add_zero] at q0
 go_simp
 replace r0:=zab (p:=⟨b0,o0,none⟩) (u:=.slice A1 (dl 1) c1) r0 (by show g≠b0; omega)
 have s:=hT.set (by omega) o (k:=0) (by rw [<-ak.out]; exact m) af z3 z1 z2
 rw [Nat.add_zero] at s
 have x:=z.setCell (p:=⟨b0,o0,none⟩) (by show w.heap.size+2<=b0; omega) (.slice A1 (dl 1) c1)
 have I:w.heap.size+2<(World.setCell w4 ⟨b0,o0,none⟩ (.slice A1 (dl 1) c1)).heap.size:=by simp; exact hl
 refine bkq hK r0 (h:=fun hHeld=>?_)
 clear hK K
 refine wpAnyH_done (by kernel_rfl) ?_ _
 clear hHeld
 obtain ⟨w9,al⟩:=exx (World.setCell w4 ⟨b0,o0,none⟩ (.slice A1 (dl 1) c1))
 rw [<-al] at s x I ⊢;clear al hT z hl r0 q0 z3
 have ay:NumTab w9 g (g+1) T.nw F (fun v=>(T.W v).toNat) (T.fwdX y 0 0):=s.congr (fun v _=>rfl) (fun u _ v hv=>by
  simp only [Trel.fwdX,upd2]
  by_cases e:u=0
  ·subst e
   rw [if_pos (Nat.le_refl _)]
   show _=if v=0 then 1 else 0
   by_cases e2:v=0
   ·rw [if_pos ⟨rfl,e2⟩,if_pos e2]
   ·rw [if_neg (fun h=>e2 h.2),if_neg e2]
  ·rw [if_neg (fun h=>e h.1),if_neg (by omega)]
   split <;> rfl)
 clear s m D z0 a1 a8 z1 z2 ak b5
 obtain ⟨⟨p0,p1⟩,hW⟩:=ah.out _ x
 go_wp2
 go_loopg [33] T.n (fun gg iv wx=>∃ k:Nat,iv=.int .i64 (k:Nat)/\k<=T.n/\T.n<=k+gg/\NumTab wx g (g+1) T.nw F (fun v=>(T.W v).toNat) (T.fwdX y k 0)/\Below (w.heap.size+2) W2 wx/\w.heap.size+2<wx.heap.size)
 case atStart=>exact ⟨0,rfl,by omega,by omega,ay,x,I⟩
 clear hW p0 p1 ay x I
 obtain ⟨gK,bi⟩:=exx gk
 subst bi
 obtain ⟨k,rfl,hk,c5,hT,hB,hl⟩:=hrel
 obtain ⟨wk,b4⟩:=exx wr
 subst b4
 have c6:(0:Int)<=(k:Int):=by omega
 obtain ⟨⟨p0,p1⟩,hW⟩:=ah.out _ hB
 by_cases hlt:k<T.n
 rotate_left
 ·have a4:¬ (k:Int)<(T.n:Int):=by omega
  have a6:k=T.n:=by omega
  have bp:=hid (hT.congr (x':=T.fwd y) (fun v _=>rfl) (fun u hu v _=>if_pos (by have:=aj.out; omega)))
  clear hT a6
  go_wp2
  go_ret2
  exact ⟨g,F,rfl,by omega,bp.out,hW⟩
 have a4:(k:Int)<(T.n:Int):=by omega
 have J:k+1<T.nw:=by have:=aj.out; omega
 have a5:k<T.nw:=by omega
 have bg:(k:Int)+1<(T.nw:Int):=by omega
 have bf:(k:Int)<(T.nw:Int):=by omega
 have bh:(0:Int)<=(k:Int)+1:=by omega
 have b3:IntKind.i64.wrap ((k:Int)+1)=(k:Int)+1:=IntWalk.i64_in _ (by omega)
 obtain ⟨eb,eo,E,ec,rfl,cf,x0w,cg,bl,ax,bk⟩:=HR.out.sec hlt
 obtain ⟨vb,vo,R,rc,rfl,c2,y0w,am⟩:=HV.out k hlt
 have ce:=q.out.elb hlt
 have bw:=hid ax
 have b1:=hid am
 have bu:=hid x0w
 have bt:=hid y0w
 have x0:=cellS hW x0w
 clear ax bk bl am x0w y0w
 go_wp2
 go_loopg [40] (T.el k) (fun gg jv wx=>∃ j:Nat,jv=.int .i64 (j:Nat)/\j<=T.el k/\T.el k<=j+gg/\NumTab wx g (g+1) T.nw F (fun v=>(T.W v).toNat) (T.fwdX y k j)/\Below (w.heap.size+2) W2 wx/\w.heap.size+2<wx.heap.size)
 case atStart=>exact ⟨0,rfl,by omega,by omega,hT,hB,hl⟩
 clear p0 p1 hT hB hl x0 hW
 obtain ⟨j,rfl,hj,c7,hT,hB,hl⟩:=hrel
 have c8:(0:Int)<=(j:Int):=by omega
 by_cases hltj:j<T.el k
 rotate_left
 ·have H:¬ (j:Int)<(T.el k:Int):=by omega
  have av:j=T.el k:=by omega
  rw [av] at hT
  have br:=hid (hT.congr (x':=T.fwdX y (k+1) 0) (fun v _=>rfl) (fun u _ v _=>T.fwdX_next y k u v))
  have HB:=hid hB
  clear hT hB av
  go_wp2
  go_roundg (gK - 1)
  case measure=>omega
  case rel=>exact ⟨k+1,by go_num,by omega,by omega,br.out,HB.out,hl⟩
 have H:(j:Int)<(T.el k:Int):=by omega
 have hW:=(ah.out _ hB).2
 obtain ⟨fb,fo,rfl,cc,e0,e1,e2⟩:=zdd ((Rd.below bw.out hW (Nat.le_refl _)).mono hW.size) hltj
 obtain ⟨i1,i2,i3,i4⟩:=q.out.ins k hlt j hltj
 obtain ⟨fn,aw⟩:∃ n:Nat,(n:Int)=T.fr k j:=⟨(T.fr k j).toNat,by omega⟩
 obtain ⟨tn,an⟩:∃ n:Nat,(n:Int)=T.to k j:=⟨(T.to k j).toNat,by omega⟩
 obtain ⟨lb,au⟩:=exx (T.lb k j)
 obtain ⟨n1,ar⟩:=exx ((T.W k).toNat)
 obtain ⟨n2,a2⟩:=exx ((T.W (k+1)).toNat)
 have cb:fn<n1:=by omega
 have b7:tn<n2:=by omega
 have bj:(fn:Int)<(n1:Int):=by omega
 have b6:(tn:Int)<(n2:Int):=by omega
 have cd:(0:Int)<=(fn:Int):=by omega
 have c3:(0:Int)<=(tn:Int):=by omega
 obtain ⟨ab,ao,ad,Ap,cp,ae,cj,bn,aq,ap1,ap2,apn,_,_⟩:=hT.at (v:=k) a5 (k:=fn) (by omega)
 obtain ⟨bb,bo,bd,Aq,cq,Q,ch,bm,bq,bq1,bq2,bqn,zq,_⟩:=hT.at (v:=k+1) J (k:=tn) (by omega)
 obtain ⟨rb,ro,Av,cv,rfl,c4,vq,vq1,vq2,vn⟩:=(b1.out.on hW) j hltj
 have b:=hT.row.cell a5
 have a:=hT.row.cell J
 have y0:=cellS hW bt.out
 have l:=hT.apart k (k+1) a5 J (by omega)
 rw [ae] at b;rw [Q] at a
 have b8:ab≠bb:=fun e=>by
  rw [ae,Q,e] at l
  simp [Value.ownBlock] at l
 have epv:T.fwdX y k j k fn=T.fwd y k fn:=if_pos (Nat.le_refl _)
 have eqv:T.fwdX y k j (k+1) tn=T.fwdE y (T.fwd y k) k j tn:=by
  show (if k+1<=k then _ else if k+1=k+1 then _ else 0)=_
  rw [if_neg (by omega),if_pos rfl]
 have d1:=Trel.fwd_dl q.out HY.out (i:=k) (by omega) fn
 have d2:=Trel.fwdE_dl q.out HY.out (i:=k) (j:=j) hlt hj tn
 have d3:=Trel.fwdE_dl q.out HY.out (i:=k) (j:=j+1) hlt hltj tn
 have P:=HY.out k hlt j hltj
 have G:T.fwdE y (T.fwd y k) k (j+1) tn=T.fwdE y (T.fwd y k) k j tn+T.fwd y k fn*y k j:=by
  show _+(if (T.to k j).toNat=tn then T.fwd y k (T.fr k j).toNat*y k j else 0)=_
  have e1:(T.fr k j).toNat=fn:=by omega
  have e2:(T.to k j).toNat=tn:=by omega
  rw [e1,e2,if_pos rfl]
 rw [epv] at aq ap1 apn;rw [eqv] at bq bq1 bqn;rw [G] at d3
 obtain ⟨pv,a0⟩:=exx (T.fwd y k fn)
 obtain ⟨qv,Z⟩:=exx (T.fwdE y (T.fwd y k) k j tn)
 obtain ⟨yv,r⟩:=exx (y k j)
 rw [<-a0] at aq ap1 apn d1 d3;rw [<-Z] at bq bq1 bqn d2 d3;rw [<-r] at vq vq1 vn P d3
 have d4:dl yv<=37:=zhA (i:=0) (by omega) (by simpa using P)
 have d5:dl (pv*yv)<=37:=by
  refine Nat.le_trans (zks (y:=pv) ?_) d1
  exact Nat.le_trans (Nat.mul_le_mul_left pv P) (by omega)
 have ai:Hid (∀ u v,upd2 (T.fwdX y k j) (k+1) tn (qv+pv*yv) u v=T.fwdX y k (j+1) u v):=fun u v=>by
  have:=Trel.fwdX_put T y k j u v
  have e1:(T.fr k j).toNat=fn:=by omega
  have e2:(T.to k j).toNat=tn:=by omega
  rw [e1,e2,<-a0,<-Z,<-r] at this
  exact this
 change wr.cell? ⟨g,k,none⟩=some (.slice (some ⟨ab,ao,none⟩) (T.W k).toNat ad) at b
 change wr.cell? ⟨g,k+1,none⟩=some (.slice (some ⟨bb,bo,none⟩) (T.W (k+1)).toNat bd) at a
 have x0:=cellS hW bu.out
 rw [<-ar] at b;rw [<-a2] at a;rw [<-aw] at e0;rw [<-au] at e1;rw [<-an] at e2
 have L:g≠bb:=by omega
 have a7:wr.heap.size≠bb:=by omega
 have X:vb≠bb:=by omega
 have ck:=hW.size
 have O:Hid (F (k+1)=.slice (some ⟨bb,bo,none⟩) (T.W (k+1)).toNat bd):=Q
 have b2:Hid (tn<(T.W (k+1)).toNat):=by rw [<-a2]; exact b7
 have Y:rb≠bb:=by
  obtain ⟨_,_,_,_,e8,h8,_⟩:=b1.out j hltj
  injection e8 with e8
  injection e8 with e8
  omega
 clear l ae Q epv eqv G a0 Z r P aw an au i1 i2 i3 i4 ar a2 hW
 go_upto_region 12 with fail
 obtain ⟨OB,aa⟩:=exx ((Obj.cells #[.int .i64 (fn:Int),.int .i64 lb,.int .i64 (tn:Int)] 90))
 have hq:∀ i v,(#[Value.int .i64 (fn:Int),.int .i64 lb,.int .i64 (tn:Int)]:Array Value)[i]?=some v->(wr.alloc OB).cell? ⟨wr.heap.size,i,none⟩=some v:=fun i v hv=>by subst aa; exact tbox (Below.refl _ _) hv
 have s0:=hq 0 _ rfl
 have s2:=hq 2 _ rfl
 have kb:=aly wr OB
 rw [<-aa]
 obtain ⟨w50,C⟩:=exx (wr.alloc OB)
 rw [<-C] at s0 s2 kb ⊢;replace hT:=hT.on kb;replace hB:=zbq hB (Nat.le_of_lt hl) kb;replace hl:=Nat.lt_of_lt_of_le hl kb.size;replace aq:=cellS kb aq;replace bq:=cellS kb bq;replace vq:=cellS kb vq;replace y0:=cellS kb y0;replace b:=cellS kb b;replace a:=cellS kb a;replace apn:=apn.on kb;replace bqn:=bqn.on kb;replace vn:=vn.on kb
 obtain ⟨bx,M⟩:=exx wr.heap.size
 rw [<-M] at s0 s2 a7 ⊢;clear hq C aa kb x0 e0 e1 e2 M
 refine wp_region_held_drew (S:=fun w'=>w'.cell? ⟨g,k,none⟩=some (.slice (some ⟨ab,ao,none⟩) n1 ad)/\w'.cell? ⟨g,k+1,none⟩=some (.slice (some ⟨bb,bo,none⟩) n2 bd)/\w'.cell? ⟨bx,0,none⟩=some (.int .i64 (fn:Int))/\w'.cell? ⟨bx,2,none⟩=some (.int .i64 (tn:Int))/\w'.cell? ⟨vb,vo+k,none⟩=some (.slice (some ⟨rb,ro,none⟩) (T.el k) rc)/\w'.cell? ⟨rb,ro+j,none⟩=some (.slice Av (dl yv) cv)/\w'.cell? ⟨ab,ao+fn,none⟩=some (.slice Ap (dl pv) cp)) (by kernel_rfl) ⟨cellS (Below.refl _ _).drew b,cellS (Below.refl _ _).drew a,cellS (Below.refl _ _).drew s0,cellS (Below.refl _ _).drew s2,cellS (Below.refl _ _).drew y0,cellS (Below.refl _ _).drew vq,cellS (Below.refl _ _).drew aq⟩ (fun hHeld=>?_)
 obtain ⟨w51,hw,kb⟩:=dwx w50
 rw [<-hw] at hHeld ⊢;clear hw;replace hB:=zbq hB (Nat.le_of_lt hl) kb;replace hl:=Nat.lt_of_lt_of_le hl kb.size;replace hT:=hT.on kb;replace aq:=cellS kb aq;replace bq:=cellS kb bq;replace vq:=cellS kb vq;replace y0:=cellS kb y0;replace b:=cellS kb b;replace a:=cellS kb a;replace s0:=cellS kb s0;replace s2:=cellS kb s2;replace apn:=apn.on kb;replace bqn:=bqn.on kb;replace vn:=vn.on kb
 clear kb
 refine tkq 0 (h:=tkq 1 (h:=tkq 2 (h:=tkq 3 (h:=tkq 4 (h:=tkq 5 (h:=tkq 6 (h:=tkq 7 (h:=tkq 8 (h:=tkq 9 (h:=tkq 10 (h:=tkq 11 (h:=tkq 12 (h:=tkq 13 (h:=tkq 14 (h:=tkq 15 (h:=tkq 16 (h:=tkq 18 (h:=tkq 19 (h:=tkq 20 (h:=tkq 21 (h:=tkq 22 (h:=tkq 23 (h:=tkq 24 (h:=tkq 25 (h:=tkq 26 (h:=tkq 27 (h:=tkq 28 (h:=tkq 29 (h:=tkq 30 (h:=tkq 31 (h:=tkq 32 (h:=tkq 33 (h:=tkq 34 (h:=?_))))))))))))))))))))))))))))))))))
 refine rdq2 17 35 (h:=fun K hK=>?_) (h2:=fun K hK=>?_)
 focus
  go_simp
  refine bkq hK ⟨b,a,s0,s2,y0,vq,aq⟩ (h:=fun hHeld=>?_)
  clear hK K
  refine rdq 35 (h:=fun K hK=>?_)
  go_simp
  go_wp2_with fail
  refine (zhz Ap Av cp cv pv yv w51 apn vn ap1 ap2 vq1 vq2 (by omega) (by omega) (by omega)).mono ?_
  rintro e w52 ⟨Am,cm,rfl,m1,m2,m3,kb⟩
  replace hB:=zbq hB (Nat.le_of_lt hl) kb;replace hl:=Nat.lt_of_lt_of_le hl kb.size;replace hT:=hT.on kb;replace aq:=cellS kb aq;replace bq:=cellS kb bq;replace vq:=cellS kb vq;replace y0:=cellS kb y0;replace b:=cellS kb b;replace a:=cellS kb a;replace s0:=cellS kb s0;replace s2:=cellS kb s2;replace apn:=apn.on kb;replace bqn:=bqn.on kb;replace vn:=vn.on kb;clear kb
 rotate_left
 focus
  go_simp
  go_wp2_with fail
  refine (zhz Ap Av cp cv pv yv w51 apn vn ap1 ap2 vq1 vq2 (by omega) (by omega) (by omega)).mono ?_
  rintro e w52 ⟨Am,cm,rfl,m1,m2,m3,kb⟩
  replace hB:=zbq hB (Nat.le_of_lt hl) kb;replace hl:=Nat.lt_of_lt_of_le hl kb.size;replace hT:=hT.on kb;replace aq:=cellS kb aq;replace bq:=cellS kb bq;replace vq:=cellS kb vq;replace y0:=cellS kb y0;replace b:=cellS kb b;replace a:=cellS kb a;replace s0:=cellS kb s0;replace s2:=cellS kb s2;replace apn:=apn.on kb;replace bqn:=bqn.on kb;replace vn:=vn.on kb;clear kb
  refine bkq hK ⟨b,a,s0,s2,y0,vq,aq⟩ (h:=fun hHeld=>?_)
  clear hK K
  refine rdq 17 (h:=fun K hK=>?_)
  go_simp
 rotate_left
 all_goals
  refine bkq hK ⟨b,a,s0,s2,y0,vq,aq⟩ (h:=fun hHeld=>?_)
  clear hK K
  refine rdq 36 (h:=fun K hK=>?_)
  go_simp
  go_wp2_with fail
  refine (zjR Aq Am cq cm qv (pv*yv) w52 bqn m3 bq1 bq2 m1 m2 (by omega) (by omega) (by omega)).mono ?_
  rintro e w53 ⟨As,cs,rfl,t1,t2,t3,kb⟩
  replace hB:=zbq hB (Nat.le_of_lt hl) kb;replace hl:=Nat.lt_of_lt_of_le hl kb.size;replace hT:=hT.on kb;replace aq:=cellS kb aq;replace bq:=cellS kb bq;replace vq:=cellS kb vq;replace y0:=cellS kb y0;replace b:=cellS kb b;replace a:=cellS kb a;replace s0:=cellS kb s0;replace s2:=cellS kb s2;replace apn:=apn.on kb;replace bqn:=bqn.on kb;replace vn:=vn.on kb;replace m3:=m3.on kb;clear kb
  refine bkq hK ⟨b,a,s0,s2,y0,vq,aq⟩ (h:=fun hHeld=>?_)
  clear hK K
  refine tkq 37 (h:=?_)
  refine rdq 38 (h:=fun K hK=>?_)
  have zf:w53.frozen? ⟨bb,bo+tn,none⟩=false:=by
   obtain ⟨b9,o9,d9,A9,c9,N,_,_,_,_,_,_,z9,_⟩:=hT.at (v:=k+1) J (k:=tn) b2.out
   rw [O.out] at N
   injection N with e1 _ _
   injection e1 with e1
   injection e1 with e1 e2
   subst e1 e2
   exact z9
  go_simp
  replace b:=zab (p:=⟨bb,bo+tn,none⟩) (u:=(.slice As (dl (qv+pv*yv)) cs)) b (by simpa using L)
  replace a:=zab (p:=⟨bb,bo+tn,none⟩) (u:=(.slice As (dl (qv+pv*yv)) cs)) a (by simpa using L)
  replace s0:=zab (p:=⟨bb,bo+tn,none⟩) (u:=(.slice As (dl (qv+pv*yv)) cs)) s0 (by simpa using a7)
  replace s2:=zab (p:=⟨bb,bo+tn,none⟩) (u:=(.slice As (dl (qv+pv*yv)) cs)) s2 (by simpa using a7)
  replace y0:=zab (p:=⟨bb,bo+tn,none⟩) (u:=(.slice As (dl (qv+pv*yv)) cs)) y0 (by simpa using X)
  replace vq:=zab (p:=⟨bb,bo+tn,none⟩) (u:=(.slice As (dl (qv+pv*yv)) cs)) vq (by simpa using Y)
  replace aq:=zab (p:=⟨bb,bo+tn,none⟩) (u:=(.slice As (dl (qv+pv*yv)) cs)) aq (by simpa using b8)
  have s:=hT.set (by omega) J (k:=tn) b2.out O.out t3 t1 t2
  have x:=hB.setCell (p:=⟨bb,bo+tn,none⟩) (by show w.heap.size+2<=bb; omega) (.slice As (dl (qv+pv*yv)) cs)
  have I:w.heap.size+2<(World.setCell w53 ⟨bb,bo+tn,none⟩ (.slice As (dl (qv+pv*yv)) cs)).heap.size:=by simp; exact hl
  refine bkq hK ⟨b,a,s0,s2,y0,vq,aq⟩ (h:=fun hHeld=>?_)
  clear hK K
  refine wpAnyH_done (by kernel_rfl) ?_ _
  clear hHeld
  have hN:=hid (s.congr (x':=T.fwdX y k (j+1)) (fun v _=>rfl) (fun u _ v _=>ai.out u v))
  have bz:=hid x
  clear s hT x hB bq
  go_wp2
  go_roundg (gk - 1)
  case measure=>omega
  case rel=>exact ⟨j+1,by go_num,by omega,by omega,hN.out,bz.out,I⟩
theorem zhB (n:Nat) (h:n<4294967296):bits .and .u64 (n:Int) 4294967295=(n:Int):=by
 have h1:(BitVec.ofInt 64 4294967295).toNat=2 ^ 32 - 1:=by decide
 have a:(BitVec.ofInt 64 (n:Int) &&& BitVec.ofInt 64 4294967295).toNat=((n:Int) % ((2 ^ 64:Nat):Int)).toNat % 2 ^ 32:=by
  rw [BitVec.toNat_and,BitVec.toNat_ofInt,h1,Nat.and_two_pow_sub_one_eq_mod]
 show IntKind.u64.wrap ((BitVec.ofInt 64 (n:Int) &&& BitVec.ofInt 64 4294967295).toNat:Nat)=(n:Int)
 rw [a,IntKind.wrap_u64]
 omega
theorem ziE (n:Nat) (h:n<4294967296) (w:World):Calls Tryz.prog 221 #[.int .u64 1,.int .u64 (n:Nat)] w fun e w'=>e=.returned (.tuple #[.int .u64 0,.int .u64 (n:Nat)])/\w'=w:=by
 have h1:bits .and .u64 1 4294967295=1:=zhB 1 (by omega)
 have h0:bits .and .u64 0 4294967295=0:=zhB 0 (by omega)
 have hn:=zhB n h
 have hd:(n:Int) / 4294967296=0:=by omega
 have hw:IntKind.u64.wrap (n:Int)=(n:Int):=IntWalk.u64_in _ (by omega)
 go_enter Tryz.func221, Tryz.ntmps221
 go_wp2
 go_ret2
 exact ⟨rfl,rfl⟩
theorem zkH (n:Nat) (h:n<4294967296) (w:World):Calls Tryz.prog 179 #[.int .u64 1,.int .u64 (n:Nat)] w fun e w'=>e=.returned (.tuple #[.int .u64 0,.int .u64 (n:Nat)])/\w'=w:=by
 have hw:IntKind.u64.wrap (n:Int)=(n:Int):=IntWalk.u64_in _ (by omega)
 go_enter Tryz.func179, Tryz.ntmps179
 go_wp2_with fail
 refine (ziE n h w).mono ?_
 rintro e w1 ⟨rfl,rfl⟩
 go_wp2
 go_ret2
 exact ⟨rfl,rfl⟩
def filled (U Z:Value) (k n:Nat):List Value:=List.replicate k U ++ List.replicate (n - k) Z
theorem zcG (U Z:Value) {k n:Nat} (h:k<=n):(filled U Z k n).length=n:=by simp [filled]; omega
theorem zeI {U Z:Value} {k n j:Nat} (hj:j<k):(filled U Z k n)[j]?=some U:=by
 unfold filled
 rw [List.getElem?_append_left (by simpa using hj)]
 simp [hj]
theorem zcH (U Z:Value) (k m n:Nat):splice (filled U Z k n) k (List.replicate m U)=filled U Z (k+m) n:=by
 unfold splice filled
 rw [List.take_append_of_le_length (by simp),List.take_of_length_le (by simp),List.length_replicate,List.drop_append,List.drop_of_length_le (by simp),List.nil_append,List.length_replicate,List.drop_replicate,show k+m - k=m by omega,show n - k - m=n - (k+m) by omega,<-List.append_assoc,List.replicate_append_replicate]
theorem zdf (U Z:Value) (n:Nat):(madeCells #[Z] n).toList=filled U Z 0 n:=by
 apply List.ext_getElem?
 intro i
 simp only [filled,List.replicate_zero,List.nil_append,Nat.sub_zero,List.getElem?_replicate,Array.getElem?_toList]
 by_cases h:i<n
 ·rw [if_pos h]
  simp [madeCells,h]
  have:i % 1=0:=Nat.mod_one i
  simp [this]
 rw [if_neg h]
 simp [madeCells]
 omega
theorem zhC (b:Nat) (U:Value) (n c:Nat) (w:World) (hcell:w.cell? ⟨b,0,none⟩=some U) (hU:U.oneCell'=true) (h1:1<=n) (hn:n<=1048576) :
  Calls Tryz.prog 138 #[.slice (some ⟨b,0,none⟩) 1 c,.int .i64 (n:Nat)] w fun e w' =>
   ∃ g,e=.returned (.slice (some ⟨g,0,none⟩) n n)/\w.heap.size<=g/\w'.rowIs g 69 n (fun _=>U)/\Below w.heap.size w w':=by
 have T:¬ (n:Int)<0:=by omega
 have N:IntKind.u64.wrap (n:Int)=(n:Int):=IntWalk.u64_in _ (by omega)
 have O:IntKind.i64.wrap (n:Int)=(n:Int):=IntWalk.i64_in _ (by omega)
 go_enter Tryz.func138, Tryz.ntmps138
 go_wp2_with fail
 refine (zkH n (by omega) w).mono ?_
 rintro e w1 ⟨rfl,rfl⟩
 have R:¬ (n:Int) > 9223372036854775807:=by omega
 have G:decide ((n:Int) > 9223372036854775807)=false:=by simp; omega
 have F:decide (9223372036854775807<(n:Int))=false:=by simp; omega
 have s:=fun W=>zaf (P:=Tryz.prog) 64 69 _ 24 Tryz.underlying64 Tryz.infoNat rfl (n:Int) (by omega) (by omega) (by omega) W
 simp only [Int.toNat_natCast] at s
 go_upto_region 7 with fail
 obtain ⟨i0,J⟩:∃ i,Tryz.prog.info? 69 = some i:=by cases h:Tryz.prog.info? 69 with | none=>have:=Tryz.infoNat; simp [h] at this | some i=>exact ⟨i,rfl⟩
 have z:(Tryz.prog.info? 69).map (·.size)=some 1:=by
  have:=Tryz.infoNat
  rw [J] at this ⊢
  simp only [Option.map_some,Option.some.injEq,Prod.mk.injEq] at this ⊢
  exact this.2.1
 have q:(w1.alloc (Obj.cells (madeCells #[Value.slice none 0 0] n) 69)).heap[w1.heap.size]?=some (.cells (filled U (.slice none 0 0) 0 n).toArray 69 (0,0)):=by
  rw [<-zdf,Array.toArray_toList]
  exact heap_alloc_new _ _
 have r:=aly w1 (Obj.cells (madeCells #[Value.slice none 0 0] n) 69)
 have x:=cellS r hcell
 obtain ⟨wm,y⟩:=exx (w1.alloc (Obj.cells (madeCells #[Value.slice none 0 0] n) 69))
 rw [<-y] at q r x ⊢
 obtain ⟨g,hg⟩:=exx w1.heap.size
 have o:w1.heap.size<=g:=by omega
 rw [<-hg] at q ⊢
 have M:=hid x
 clear y s x hg hcell
 have a:Hid (∀ j v,(List.replicate 1 U)[j]?=some v->wm.cell? ((⟨b,0,none⟩:Addr).add j)=some v):=fun j v hv=>by
  have hj:j=0:=by
   have:=(List.getElem?_eq_some_iff.1 hv).1
   simp at this; omega
  subst hj
  have:U=v:=by simpa using hv
  rw [<-this]
  exact M.out
 have p:Hid (∀ m,∀ v ∈ List.replicate m U,v.oneCell'=true):=fun m v hv=>by rw [List.eq_of_mem_replicate hv]; exact hU
 have l:Hid (0+(List.replicate 1 U).length<=(filled U (.slice none 0 0) 0 n).length):=by
  show _<=_
  rw [zcG _ _ (by omega)]; simp; omega
 have d:Hid ((List.replicate 1 U).length=Nat.min 1 n):=by show 1=min 1 n; omega
 go_wp2_with (first | (refine wpList_copy_splice (cur:=filled U (.slice none 0 0) 0 n) (cs:=List.replicate 1 U) (B:=w1.heap.size) (w0:=w1) rfl (.tmp 31) (.tmp 32) 64 64 rfl 69 Tryz.underlying64 z (some ⟨g,0,none⟩) (some ⟨b,0,none⟩) n n 1 c rfl rfl g 0 69 q d.out (fun _=>⟨rfl,_,rfl,a.out⟩) l.out (p.out 1) r o ?_; intro w2 hm2 hb2))
 have C:Hid (w2.heap[g]?=some (.cells (filled U (.slice none 0 0) 1 n).toArray 69 (0,0))):=by
  have:=hm2.out
  rwa [zcH] at this
 clear q r hm2 hU d l a
 go_wp2
 go_loopg [8] n (fun gg iv wx=>∃ k:Nat,iv=.int .i64 (k:Nat)/\1<=k/\k<=n/\n<=k+gg/\Hid (wx.heap[g]?=some (.cells (filled U (.slice none 0 0) k n).toArray 69 (0,0)))/\Below w1.heap.size w1 wx)
 case atStart=>exact ⟨1,rfl,by omega,by omega,by omega,C,hb2⟩
 clear C hb2
 obtain ⟨k,rfl,a0,hk,Z,HM,hb⟩:=hrel
 have a1:(0:Int)<=(k:Int):=by omega
 by_cases hlt:k<n
 rotate_left
 ·obtain rfl:k=n:=by omega
  have u:wr.rowIs g 69 k (fun _=>U):=⟨_,HM.out,by simp [filled],fun i hi=>by
   rw [List.getElem?_toArray,zeI hi]⟩
  go_wp2
  go_ret
  exact ⟨g,rfl,o,u,hb⟩
 have H:(k:Int)<(n:Int):=by omega
 obtain ⟨m,hm⟩:=exx (min k (n - k))
 have V:1<=m:=by omega
 have s:m<=k:=by omega
 have Y:k+m<=n:=by omega
 have I:(k:Int)<=(n:Int):=by omega
 have X:k≠n:=by omega
 have Q:¬ n=k:=by omega
 have a:Hid (∀ j v,(List.replicate m U)[j]?=some v->(World.drew wr).cell? ((⟨g,0,none⟩:Addr).add j)=some v):=fun j v hv=>by
  have hj:j<m:=by
   have:=(List.getElem?_eq_some_iff.1 hv).1
   simpa using this
  have E:U=v:=by
   rw [List.getElem?_replicate,if_pos hj] at hv
   simpa using hv
  rw [zcC,Nat.zero_add,<-E]
  show wr.cell? ⟨g,j,none⟩=some U
  rw [cell_of_row wr g j _ _ _ HM.out,List.getElem?_toArray,zeI (by omega)]
 have l:Hid (k+(List.replicate m U).length<=(filled U (.slice none 0 0) k n).length):=by
  show _<=_
  rw [zcG _ _ hk]; simp; omega
 have d:Hid ((List.replicate m U).length=Nat.min k (n - k)):=by show _=_; rw [List.length_replicate]; exact hm
 clear hm
 have D:IntKind.i64.wrap ((k:Int)+(m:Int))=(k:Int)+(m:Int):=IntWalk.i64_in _ (by omega)
 go_upto_region 9 with fail
 refine wp_region_held_drew (S:=fun w'=>Below w1.heap.size w1 w') (by kernel_rfl) hb.drew (fun hHeld=>?_)
 refine tkq 0 (h:=tkq 1 (h:=tkq 2 (h:=tkq 3 (h:=tkq 4 (h:=tkq 5 (h:=tkq 6 (h:=?_)))))))
 refine rdq 7 (h:=fun K hK=>?_)
 refine step_copy_splice (cur:=filled U (.slice none 0 0) k n) (cs:=List.replicate m U) (B:=w1.heap.size) (w0:=w1) (by rfl) (.tmp 41) (.tmp 44) 64 64 (by rfl) 69 Tryz.underlying64 z (some ⟨g,k,none⟩) (some ⟨g,0,none⟩) (n - k) (n - k) k n (by rfl) (by rfl) g k 69 HM.out d.out (fun _=>⟨rfl,_,rfl,a.out⟩) l.out (p.out m) hb.drew o ?_
 intro w3 hm3 hb3
 refine bkq hK hb3 (h:=fun hHeld=>?_)
 clear hK K
 refine tkq 8 (h:=tkq 9 (h:=?_))
 refine wpAnyH_done (by kernel_rfl) ?_ _
 clear hHeld
 have L:Hid (w3.heap[g]?=some (.cells (filled U (.slice none 0 0) (k+m) n).toArray 69 (0,0))):=by
  have:=hm3.out
  rwa [zcH] at this
 clear hm3
 go_wp2
 go_roundg (gk - 1)
 case measure=>omega
 case rel=>exact ⟨k+m,by go_num,by omega,by omega,by omega,L,hb3⟩
def hitB (f:Nat->Int):Nat->Int->Bool
 | 0,_=>false
 | j+1,v=>hitB f j v || decide (f j=v)
theorem za2 {f:Nat->Int} {v:Int}:∀ {j:Nat},hitB f j v=true↔∃ i,i<j/\f i=v:=by
 intro j
 induction j with
 | zero=>simp [hitB]
 | succ j ih =>
  simp only [hitB,Bool.or_eq_true,decide_eq_true_eq,ih]
  constructor
  ·rintro (⟨i,hi,e⟩ | e)
   ·exact ⟨i,by omega,e⟩
   ·exact ⟨j,by omega,e⟩
  ·rintro ⟨i,hi,e⟩
   by_cases h:i=j
   ·subst h; exact .inr e
   ·exact .inl ⟨i,by omega,e⟩
def Trel.after (T:Trel) (i j:Nat):Prop:=T.fr i (j - 1)<T.fr i j∨T.fr i (j - 1)=T.fr i j/\T.lb i (j - 1)<T.lb i j
instance (T:Trel) (i j:Nat):Decidable (T.after i j):=by unfold Trel.after; exact inferInstance
def Trel.edgeOk (T:Trel) (i j:Nat):Prop:=0<=T.lb i j/\T.lb i j<256/\(0<j->T.after i j)
instance (T:Trel) (i j:Nat):Decidable (T.edgeOk i j):=by unfold Trel.edgeOk; exact inferInstance
def Trel.secOk (T:Trel) (i:Nat):Prop :=
 (∀ j,j<T.el i->T.edgeOk i j)/\(∀ v,v<(T.W i).toNat->hitB (T.fr i) (T.el i) (v:Nat)=true)/\(∀ v,v<(T.W (i+1)).toNat->hitB (T.to i) (T.el i) (v:Nat)=true)
instance (T:Trel) (i:Nat):Decidable (T.secOk i):=by unfold Trel.secOk; exact inferInstance
def Trel.properE (T:Trel):Int :=
 if T.shapeE≠0 then T.shapeE else if T.W 0≠1∨T.W T.n≠1 then 5 else if ∀ i,i<T.n->T.secOk i then 0 else 5
structure Trel.Proper (T:Trel):Prop where
 shape:T.Shape
 w0:T.W 0=1
 wn:T.W T.n=1
 sec:∀ i,i<T.n->T.secOk i
theorem Trel.proper_of {T:Trel} (h:T.properE=0):T.Proper:=by
 unfold Trel.properE at h
 by_cases h1:T.shapeE=0
 ·rw [if_neg (by simpa using h1)] at h
  by_cases h2:T.W 0≠1∨T.W T.n≠1
  ·rw [if_pos h2] at h; omega
  rw [if_neg h2] at h
  by_cases h3:∀ i,i<T.n->T.secOk i
  ·exact ⟨Trel.shape_of h1,by omega,by omega,h3⟩
  ·rw [if_neg h3] at h; omega
 ·rw [if_pos h1] at h; exact absurd h h1
theorem Trel.properE_shape {T:Trel} (h:T.shapeE≠0):T.properE=T.shapeE:=by unfold Trel.properE; rw [if_pos h]
theorem Trel.properE_end {T:Trel} (h:T.shapeE=0) (h2:T.W 0≠1∨T.W T.n≠1):T.properE=5:=by unfold Trel.properE; rw [if_neg (by simpa using h),if_pos h2]
theorem Trel.properE_sec {T:Trel} (h:T.shapeE=0) {i:Nat} (hi:i<T.n) (h2:¬ T.secOk i):T.properE=5:=by
 unfold Trel.properE
 rw [if_neg (by simpa using h)]
 split
 ·rfl
 ·rw [if_neg fun h3=>h2 (h3 i hi)]
theorem Trel.properE_ok {T:Trel} (h:T.shapeE=0) (h0:T.W 0=1) (hn:T.W T.n=1) (h2:∀ i,i<T.n->T.secOk i):T.properE=0:=by
 unfold Trel.properE
 rw [if_neg (by simpa using h),if_neg (by omega),if_pos h2]
end Go.Proofs.YtgekjfpapmlndaaGreat