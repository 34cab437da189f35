/- Merged texts of a claim: PRows, PValued, PVals, PForward. -/
import Derived.Test.YtgekjfpapmlndaaGreatUW14
namespace Go.Proofs.YtgekjfpapmlndaaGreat
set_option maxRecDepth 100000
set_option maxHeartbeats 32000000
open KA KB KC KD KE KF
open Go.RowKit
theorem Tryz.infoPols:(Tryz.prog.info? 148).map (fun i=>(i.zero,i.size,i.bytes))=some (some (.slice none 0 0),1,24):=by kernel_rfl
theorem zfh (w:World):Calls Tryz.prog 287 #[.agg #[]] w (PolRet (fun _=>0) w):=by
 go_enter Tryz.func287, Tryz.ntmps287
 go_wp2
 go_ret
 refine ⟨_,_,_,rfl,⟨0,?_,by omega,fun _ _=>rfl,fun _ _=>Nat.zero_le _⟩,((Below.refl _ _).alloc (Nat.le_refl _) _).alloc (by simp) _⟩
 refine ⟨fun _ _=>undef,.inr ⟨w.heap.size+1,0,0,#[],rfl,Nat.zero_le _,zah (by simp),Nat.le_refl _,by unfold maxLen; omega,by simp,fun i hi=>absurd hi (Nat.not_lt_zero i)⟩,fun g hg=>?_,fun i hi=>absurd hi (Nat.not_lt_zero i)⟩
 obtain rfl:w.heap.size+1=g:=by simpa [Value.ownBlock] using hg
 exact zcy (c:=#[]) (zah (by simp)) fun u hu=>by simp at hu
theorem zcU {w:World} {n:Nat} {x:Nat->Nat} {cs:Array Value} (hn:n<=66) (hsz:cs.size=n) (h:∀ i,i<n->∃ A c,cs[i]?=some (.slice A (dl (x i)) c)/\NatOk w w.heap.size A (x i)/\dl (x i)<=c/\c<=maxLen) :
  NatOwn (w.alloc (Obj.cells cs 69)) 0 (.slice (some ⟨w.heap.size,0,none⟩) n n) n x:=by
 have kb:=aly w (Obj.cells cs 69)
 refine ⟨fun i _=>cs.getD i undef,.inr ⟨w.heap.size,0,n,cs,rfl,Nat.zero_le _,zah rfl,Nat.le_refl _,by unfold maxLen; omega,by omega,fun i hi j hj=>?_⟩,fun g hg=>?_,fun i hi=>?_⟩
 ·obtain rfl:j=0:=by omega
  rw [Nat.mul_one,Nat.zero_add,Nat.add_zero]
  have a:i<cs.size:=by omega
  simp [Array.getD,a]
 ·obtain rfl:w.heap.size=g:=by simpa [Value.ownBlock] using hg
  refine zcy (c:=cs) (zah rfl) fun u hu z e=>?_
  rw [Array.mem_toList_iff] at hu
  obtain ⟨j,hj,e2⟩:=Array.getElem_of_mem hu
  obtain ⟨A,c,e3,_⟩:=h j (by omega)
  rw [Array.getElem?_eq_getElem hj,e2,e] at e3
  cases e3
 obtain ⟨A,c,e3,n1,n2,n3⟩:=h i hi
 have a:i<cs.size:=by omega
 rw [Array.getElem?_eq_getElem a] at e3
 injection e3 with e3
 refine ⟨A,c,?_,n1.on kb,n2,n3⟩
 simp [Array.getD,a,e3]
theorem zg1 (w:World):Calls Tryz.prog 106 #[.agg #[]] w (PolRet (mono 0) w):=by
 go_enter Tryz.func106, Tryz.ntmps106
 go_wp2_with fail
 refine (zeR 1 _ (by omega)).mono ?_
 rintro e w1 ⟨A,c,rfl,h1,h2,h3,h4⟩
 have hB:=onS ((Below.refl _ _).alloc (Nat.le_refl _) _) h4
 have hO:=zcU (w:=w1) (n:=1) (x:=mono 0) (cs:=#[.slice A (dl 1) c]) (by omega) rfl (fun i hi=>by
  obtain rfl:i=0:=by omega
  exact ⟨A,c,rfl,h3,h1,h2⟩)
 have a:=hid (onS hB ((Below.refl w1.heap.size w1).alloc (Nat.le_refl _) (Obj.cells #[.slice A (dl 1) c] 69)))
 have HO:=hid hO
 clear h4 h3 hB hO h1
 go_wp2
 go_ret
 exact ⟨_,_,_,rfl,⟨1,HO.out,by omega,fun t ht=>if_neg (by omega),fun D hD=>zec hD⟩,a.out⟩
def PTabPost (T:Trel) (x:Nat->Nat->Nat->Nat) (w:World) (e:Ending) (w':World):Prop :=
 ∃ g F,e=.returned (.slice (some ⟨g,0,none⟩) T.nw T.nw)/\w.heap.size<=g/\PolTab w' g (g+1) T.nw F (fun v=>(T.W v).toNat) x/\Below w.heap.size w w'
theorem zic (T:Trel) (A B:Option Addr) (c d:Nat) (w:World) (h:T.Reads w A B) (hs:T.Shape) :
  Calls Tryz.prog 171 #[.agg #[],.agg #[.slice A T.nw c,.slice B T.n d]] w (PTabPost T (fun _ _ _=>0) w):=by
 obtain ⟨O1,U⟩:=exx ((Obj.cells #[] 141))
 obtain ⟨O2,G⟩:=exx ((Obj.cells #[.slice A T.nw c,.slice B T.n d] 53))
 have u:Below (w.heap.size+2) ((w.alloc O1).alloc O2) ((w.alloc O1).alloc O2):=Below.refl _ _
 have HS:Hid (∀ w',Below (w.heap.size+2) ((w.alloc O1).alloc O2) w'->(w'.cell? ⟨w.heap.size+1,0,none⟩=some (.slice A T.nw c)/\w'.cell? ⟨w.heap.size+1,1,none⟩=some (.slice B T.n d))/\Below w.heap.size w w'):=fun w' hB=>by
  have ad:=zbx hB
  subst G
  have hr:=zbT hB
  exact ⟨⟨hr.cell (i:=0) (by simp),hr.cell (i:=1) (by simp)⟩,ad⟩
 obtain ⟨⟨p0,p1⟩,hW⟩:=HS.out _ u
 have a4:=hs.n64
 have a3:=hs.nw
 have L:=fun W=>zaf (P:=Tryz.prog) 142 148 _ 24 Tryz.underlying142 Tryz.infoPols rfl (T.nw:Int) (by omega) (by omega) (by omega) W
 simp only [Int.toNat_natCast] at L
 have HR:=hid h
 have X:=hid hs
 have J:T.nw<=65:=by omega
 clear h hs a3
 go_enter Tryz.func171, Tryz.ntmps171
 go_wp2_with fail
 rw [<-U,<-G]
 go_upto_region 2 with fail
 obtain ⟨W2,s⟩:∃ W,W=(w.alloc O1).alloc O2:=⟨_,rfl⟩
 have b:W2.heap.size=w.heap.size+2:=by rw [s]; simp
 have Y:Hid (∀ w',Below (w.heap.size+2) W2 w'->(w'.cell? ⟨w.heap.size+1,0,none⟩=some (.slice A T.nw c)/\w'.cell? ⟨w.heap.size+1,1,none⟩=some (.slice B T.n d))/\Below w.heap.size w w'):=by rw [s]; exact HS
 rw [<-s] at u ⊢
 obtain ⟨g,hg⟩:=exx (w.heap.size+1+1)
 have N:g=W2.heap.size:=by omega
 have r:=World.rowIs_made W2 (.slice none 0 0) T.nw 148
 have H:=zag u (Nat.le_of_eq b.symm) ((Below.refl W2.heap.size W2).alloc (Nat.le_refl _) (Obj.cells (madeCells #[Value.slice none 0 0] T.nw) 148))
 have C:w.heap.size+2<(W2.alloc (Obj.cells (madeCells #[Value.slice none 0 0] T.nw) 148)).heap.size:=by simp; omega
 obtain ⟨W3,O⟩:=exx (W2.alloc (Obj.cells (madeCells #[Value.slice none 0 0] T.nw) 148))
 rw [<-N] at r;rw [<-O] at r H C ⊢;rw [<-hg]
 have Q:PolTab W3 g (g+1) T.nw (fun _=>.slice none 0 0) (fun v=>if v<0 then (T.W v).toNat else 0) (fun _ _ _=>0):=(zcT r).congr (fun v _=>(if_neg (by omega)).symm) (fun v _ k hk _=>rfl)
 have a9:w.heap.size+2<=g:=by omega
 clear O N hg r s HS u L U G b
 go_loopg [15] T.nw (fun gg iv wx=>∃ (k:Nat) (F:Nat->Value),iv=.int .i64 (k:Nat)/\k<=T.nw/\T.nw<=k+gg/\PolTab wx g (g+1) T.nw F (fun v=>if v<k then (T.W v).toNat else 0) (fun _ _ _=>0)/\Below (w.heap.size+2) W2 wx/\w.heap.size+2<wx.heap.size)
 case atStart=>exact ⟨0,_,rfl,by omega,by omega,Q,H,C⟩
 clear hW p0 p1 Q H C
 obtain ⟨gK,a8⟩:=exx gk
 subst a8
 obtain ⟨k,F,rfl,hk,ag,hT,hB,hl⟩:=hrel
 obtain ⟨wk,a1⟩:=exx wr
 subst a1
 have ah:(0:Int)<=(k:Int):=by omega
 obtain ⟨⟨p0,p1⟩,hW⟩:=Y.out _ hB
 by_cases hlt:k<T.nw
 rotate_left
 ·have z:¬ (k:Int)<(T.nw:Int):=by omega
  have aa:Hid (PolTab wk g (g+1) T.nw F (fun v=>(T.W v).toNat) (fun _ _ _=>0)):=hT.congr (fun v hv=>if_pos (by omega)) (fun v _ q hq _=>rfl)
  clear hT
  go_wp2
  go_ret
  exact ⟨g,F,rfl,by omega,aa.out,hW⟩
 have z:(k:Int)<(T.nw:Int):=by omega
 obtain ⟨wb,wo,rfl,af,y0,a0,Z⟩:=(HR.out.on hW).width hlt
 have x:=X.out.wid (i:=k) (by have:=X.out.nw; omega)
 obtain ⟨n1,y⟩:∃ n:Nat,(n:Int)=T.W k:=⟨(T.W k).toNat,by omega⟩
 rw [<-y] at y0 x
 have ae:=hid y
 clear y a0 Z
 have R:PolTab wk g (g+1) T.nw F (fun v=>if v<k then (T.W v).toNat else if v=k then 0 else 0) (fun _ _ _=>0):=hT.congr (fun v _=>by split <;> simp) (fun v _ q hq _=>rfl)
 clear hT
 go_wp2
 go_loopg [21] n1 (fun gg jv wx=>∃ (j:Nat) (F:Nat->Value),jv=.int .i64 (j:Nat)/\j<=n1/\n1<=j+gg/\PolTab wx g (g+1) T.nw F (fun v=>if v<k then (T.W v).toNat else if v=k then j else 0) (fun _ _ _=>0)/\Below (w.heap.size+2) W2 wx/\w.heap.size+2<wx.heap.size)
 case atStart=>exact ⟨0,F,rfl,by omega,by omega,R,hB,hl⟩
 clear hW p0 p1 R hB hl y0
 obtain ⟨j,F2,rfl,hj,ai,hT,hB,hl⟩:=hrel
 have aj:(0:Int)<=(j:Int):=by omega
 obtain ⟨⟨p0,p1⟩,hW⟩:=Y.out _ hB
 by_cases hltj:j<n1
 rotate_left
 ·have l:¬ (j:Int)<(n1:Int):=by omega
  have M:j=n1:=by omega
  have ab:Hid (PolTab wr g (g+1) T.nw F2 (fun v=>if v<k+1 then (T.W v).toNat else 0) (fun _ _ _=>0)):=hT.congr (fun v _=>by
   by_cases e:v<k
   ·rw [if_pos e,if_pos (by omega)]
   rw [if_neg e]
   by_cases e2:v=k
   ·subst e2
    rw [if_pos rfl,if_pos (by omega),M]
    have:=ae.out
    omega
   ·rw [if_neg e2,if_neg (by omega)]) (fun v _ q hq _=>rfl)
  have HB:=hid hB
  clear hT hB M
  go_wp2
  go_roundg (gK - 1)
  case measure=>omega
  case rel=>exact ⟨k+1,F2,by go_num,by omega,by omega,ab.out,HB.out,hl⟩
 have l:(j:Int)<(n1:Int):=by omega
 obtain ⟨fk,E⟩:=exx (F2 k)
 have q0:wr.cell? ⟨g,k,none⟩=some fk:=by rw [E]; exact hT.row.cell hlt
 have I:=hid E
 clear E p0 p1 hW
 rename World=>w50
 go_upto_region 7 with fail
 refine wp_region_held_drew (S:=fun _=>True) (by kernel_rfl) trivial (fun hHeld=>?_)
 obtain ⟨w51,hw,kb⟩:=dwx w50
 rw [<-hw];clear hw;replace hB:=zag hB (Nat.le_of_lt hl) kb;replace hl:=Nat.lt_of_lt_of_le hl kb.size;replace hT:=hT.on kb;replace q0:=cellS kb q0;clear kb
 refine tkq 0 (h:=tkq 1 (h:=tkq 2 (h:=tkq 3 (h:=tkq 4 (h:=tkq 6 (h:=tkq 7 (h:=?_)))))))
 refine rdq2 5 8 (h:=fun K hK=>?_) (h2:=fun K hK=>?_)
 focus
  go_simp
  refine bkq hK trivial (h:=fun hHeld=>?_)
  clear hK K
  refine rdq 8 (h:=fun K hK=>?_)
  go_simp
  go_wp2_with fail
  refine (zfh w51).mono ?_
  rintro e w52 ⟨VA,vn,vc,rfl,zv,kb⟩
  replace hB:=zag hB (Nat.le_of_lt hl) kb;replace hl:=Nat.lt_of_lt_of_le hl kb.size;replace hT:=hT.on kb;replace q0:=cellS kb q0;clear kb
  refine bkq hK trivial (h:=fun hHeld=>?_)
  clear hK K
  refine rdq 9 (h:=fun K hK=>?_)
  go_simp
  obtain ⟨w53,hw⟩:=exx (World.alloc w52 (Obj.cells #[Value.slice VA vn vc] 64))
  have kb:=alx hw
  have n1c:w53.cell? ⟨w52.heap.size,0,none⟩=some (Value.slice VA vn vc):=by rw [hw]; simp
  rw [<-hw];clear hw
  obtain ⟨nb_n1c,a⟩:=exx w52.heap.size
  rw [<-a] at n1c ⊢;clear a;replace hB:=zag hB (Nat.le_of_lt hl) kb;replace hl:=Nat.lt_of_lt_of_le hl kb.size;replace hT:=hT.on kb;replace q0:=cellS kb q0;replace zv:=zv.on kb;clear kb
 rotate_left
 focus
  go_simp
  go_wp2_with fail
  refine (zfh w51).mono ?_
  rintro e w52 ⟨VA,vn,vc,rfl,zv,kb⟩
  replace hB:=zag hB (Nat.le_of_lt hl) kb;replace hl:=Nat.lt_of_lt_of_le hl kb.size;replace hT:=hT.on kb;replace q0:=cellS kb q0;clear kb
  refine bkq hK trivial (h:=fun hHeld=>?_)
  clear hK K
  refine rdq2 5 9 (h:=fun K hK=>?_) (h2:=fun K hK=>?_)
  focus
   go_simp
   refine bkq hK trivial (h:=fun hHeld=>?_)
   clear hK K
   refine rdq 9 (h:=fun K hK=>?_)
   go_simp
   obtain ⟨w53,hw⟩:=exx (World.alloc w52 (Obj.cells #[Value.slice VA vn vc] 64))
   have kb:=alx hw
   have n1c:w53.cell? ⟨w52.heap.size,0,none⟩=some (Value.slice VA vn vc):=by rw [hw]; simp
   rw [<-hw];clear hw
   obtain ⟨nb_n1c,a⟩:=exx w52.heap.size
   rw [<-a] at n1c ⊢;clear a;replace hB:=zag hB (Nat.le_of_lt hl) kb;replace hl:=Nat.lt_of_lt_of_le hl kb.size;replace hT:=hT.on kb;replace q0:=cellS kb q0;replace zv:=zv.on kb;clear kb
  rotate_left
  focus
   go_simp
   obtain ⟨w53,hw⟩:=exx (World.alloc w52 (Obj.cells #[Value.slice VA vn vc] 64))
   have kb:=alx hw
   have n1c:w53.cell? ⟨w52.heap.size,0,none⟩=some (Value.slice VA vn vc):=by rw [hw]; simp
   rw [<-hw];clear hw
   obtain ⟨nb_n1c,a⟩:=exx w52.heap.size
   rw [<-a] at n1c ⊢;clear a;replace hB:=zag hB (Nat.le_of_lt hl) kb;replace hl:=Nat.lt_of_lt_of_le hl kb.size;replace hT:=hT.on kb;replace q0:=cellS kb q0;replace zv:=zv.on kb;clear kb
   refine bkq hK trivial (h:=fun hHeld=>?_)
   clear hK K
   refine rdq 5 (h:=fun K hK=>?_)
   go_simp
  rotate_left
 rotate_left 2
 all_goals
  refine bkq hK trivial (h:=fun hHeld=>?_)
  clear hK K
  refine rdq 10 (h:=fun K hK=>?_)
  have o:PolOwn w53 (g+1) fk j (fun _ _=>0):=by
   have:=hT.own k hlt
   rw [if_neg (Nat.lt_irrefl k),if_pos rfl,<-I.out] at this
   exact this
  have a7:g+1<=w53.heap.size:=hT.row.lt
  refine zbC (by rfl) (.tmp 28) (.tmp 32) (by rfl) (g+1) fk j (fun _ _=>0) (by rfl) o a7 (by omega) nb_n1c 1 (by rfl) _ n1c zv ?_
  intro v9 w9 o1 o2 o3
  obtain ⟨A9,c9,a2⟩:=o1.isSlice
  subst a2
  have D:∀ q,fk.ownBlock=some q->g+1<=q:=fun q e=>(o.lt q e).1
  have q9:w9.cell? ⟨g,k,none⟩=some fk:=zae q0 o2 fun e=>by have:=D g e; omega
  have z9:w9.frozen? ⟨g,k,none⟩=false:=by
   have:=(hT.row.of_block (o2.block g hT.row.lt fun e=>by have:=D g e.symm; omega)).frozen k
   exact this
  have V:Below (w.heap.size+2) W2 w9:=hB.grown o2 (Nat.le_of_lt hl) fun q e=>by have:=D q e; omega
  have a6:w.heap.size+2<w9.heap.size:=Nat.lt_of_lt_of_le hl o2.size
  have m:=hid (hT.put (by omega) hlt o1 (by rw [<-I.out]; exact o2) (by rw [<-I.out]; exact o3))
  refine bkq hK trivial (h:=fun hHeld=>?_)
  clear hK K
  refine tkq 11 (h:=?_)
  refine rdq 12 (h:=fun K hK=>?_)
  go_simp
  refine bkq hK trivial (h:=fun hHeld=>?_)
  clear hK K
  refine wpAnyH_done (by kernel_rfl) ?_ _
  clear hHeld
  have hN:=m.out.congr (n':=fun v=>if v<k then (T.W v).toNat else if v=k then j+1 else 0) (x':=fun _ _ _=>0) (fun v _=>by
    by_cases e:v=k
    ·subst e; simp
    ·simp [e]) (fun v _ q hq t=>by split <;> rfl)
  have HN:=hid hN
  have ac:=V.setCell (p:=⟨g,k,none⟩) a9 (.slice A9 (j+1) c9)
  have a5:w.heap.size+2<(w9.setCell ⟨g,k,none⟩ (.slice A9 (j+1) c9)).heap.size:=by simp; exact a6
  clear m hN q9 z9 V
  go_wp2
  go_roundg (gk - 1)
  case measure=>omega
  case rel=>exact ⟨j+1,_,by go_num,by omega,by omega,HN.out,ac,a5⟩
def PolRows (w:World) (V:Option Addr) (m:Nat) (n:Nat->Nat) (y:Nat->Nat->Nat->Nat):Prop :=
 ∀ i,i<m->∃ b off R c,V=some ⟨b,off,none⟩/\b<w.heap.size/\w.cell? ⟨b,off+i,none⟩=some (.slice R (n i) c) /\
  ∀ j,j<n i->∃ b2 o2 U,R=some ⟨b2,o2,none⟩/\b2<w.heap.size/\w.cell? ⟨b2,o2+j,none⟩=some U/\PolV w U (y i j)
theorem PolRows.on {w w':World} {V:Option Addr} {m:Nat} {n:Nat->Nat} {y:Nat->Nat->Nat->Nat} (h:PolRows w V m n y) (hb:Below w.heap.size w w'):PolRows w' V m n y:=fun i hi=>by
 obtain ⟨b,off,R,c,e,h1,h2,h3⟩:=h i hi
 refine ⟨b,off,R,c,e,Nat.lt_of_lt_of_le h1 hb.size,(hb.cell (p:=⟨b,_,none⟩) h1).trans h2,fun j hj=>?_⟩
 obtain ⟨b2,o2,U,e2,h4,h5,h6⟩:=h3 j hj
 exact ⟨b2,o2,U,e2,Nat.lt_of_lt_of_le h4 hb.size,(hb.cell (p:=⟨b2,_,none⟩) h4).trans h5,h6.on hb⟩
theorem PolTab.rows {w:World} {g base m:Nat} {F:Nat->Value} {n:Nat->Nat} {x:Nat->Nat->Nat->Nat} (h:PolTab w g base m F n x):PolRows w (some ⟨g,0,none⟩) m n x:=fun i hi=>by
 have hc:=h.row.cell hi
 obtain ⟨A,c,e⟩:=(h.own i hi).isSlice
 rw [e] at hc
 refine ⟨g,0,A,c,rfl,h.row.lt,by rw [Nat.zero_add]; exact hc,fun j hj=>?_⟩
 obtain ⟨b,o,d,U,e2,_,hl,hc2,hU,_⟩:=h.at hi hj
 rw [e] at e2
 injection e2 with e2
 exact ⟨b,o,U,e2,hl,hc2,hU⟩
theorem zfU (T:Trel) (A B V:Option Addr) (c d vc:Nat) (y:Nat->Nat->Nat->Nat) (w:World) (h:T.Reads w A B) (hs:T.shapeE=0) (hv:PolRows w V T.n T.el y) :
  Calls Tryz.prog 170 #[.agg #[.slice A T.nw c,.slice B T.n d],.slice V T.n vc] w fun e w'=>e=.returned (.int .i64 0)/\Below w.heap.size w w':=by
 obtain ⟨RB,i⟩:=exx ((Obj.cells #[.slice A T.nw c,.slice B T.n d] 53))
 have j:Below (w.heap.size+1) (w.alloc RB) (w.alloc RB):=Below.refl _ _
 have HS:Hid (∀ w',Below (w.heap.size+1) (w.alloc RB) w'->(w'.cell? ⟨w.heap.size,0,none⟩=some (.slice A T.nw c)/\w'.cell? ⟨w.heap.size,1,none⟩=some (.slice B T.n d))/\Below w.heap.size w w'):=fun w' hB=>by
  have p:=zax hB
  subst i
  exact ⟨⟨tbox hB rfl,tbox hB rfl⟩,p⟩
 obtain ⟨⟨p0,p1⟩,hW⟩:=HS.out _ j
 go_enter Tryz.func170, Tryz.ntmps170
 go_wp2_with fail
 rw [<-i]
 refine (zcG T A B c d _ (h.on hW)).mono ?_
 rintro e w1 ⟨rfl,hb⟩
 have m:=zap j hb
 rw [hs]
 have HR:=hid h
 have HV:=hid hv
 have l:=(Trel.shape_of hs).n64
 clear hW p0 p1 hb j i h hv hs
 obtain ⟨⟨p0,p1⟩,hW⟩:=HS.out _ m
 go_wp2
 go_loopg [22] T.n (fun gg iv wx=>∃ k:Nat,iv=.int .i64 (k:Nat)/\k<=T.n/\T.n<=k+gg/\Below w1.heap.size w1 wx)
 case atStart=>exact ⟨0,rfl,by omega,by omega,Below.refl _ _⟩
 obtain ⟨k,rfl,hk,r,hb⟩:=hrel
 have s:(0:Int)<=(k:Int):=by omega
 replace p0:=cellS hb p0;replace p1:=cellS hb p1
 have g:=onS hW hb
 clear hW
 by_cases hlt:k<T.n
 ·have a:(k:Int)<(T.n:Int):=by omega
  obtain ⟨b,o,E,ec,rfl,_,x0,_,_,_,_⟩:=(HR.out.on g).sec hlt
  obtain ⟨vb,vo,R,rc,rfl,_,x1,_⟩:=(HV.out.on g) k hlt
  have q:((T.el k:Int) != (T.el k:Int))=false:=by simp
  go_wp2
  go_roundg (gk - 1)
  case measure=>omega
  case rel=>exact ⟨k+1,by go_num,by omega,by omega,hb⟩
 have a:¬ (k:Int)<(T.n:Int):=by omega
 go_wp2
 go_ret
 exact ⟨rfl,g⟩
theorem zed (i l:Int) (sb zb:Nat) (ZA:Option Addr) (zn zc:Nat) (w:World) (hz:w.cell? ⟨zb,0,none⟩=some (.slice ZA zn zc)) (hZ:PolV w (.slice ZA zn zc) (mono 1)) :
  Calls Tryz.prog 105 #[.int .i64 i,.int .i64 l,.pointer (some ⟨sb,0,none⟩),.pointer (some ⟨zb,0,none⟩)] w (PolRet (mono (if l=0 then 0 else 1)) w):=by
 go_enter Tryz.func105, Tryz.ntmps105
 by_cases h:l=0
 ·have b1:(l == 0)=true:=by simpa using h
  rw [if_pos h];clear h hZ
  go_wp2_with fail
  refine (zg1 w).mono ?_
  rintro e w1 ⟨A,n,c,rfl,hV,hB⟩
  clear hz
  go_wp2
  go_ret
  exact ⟨A,n,c,rfl,hV,hB⟩
 have b1:(l == 0)=false:=by simpa using h
 rw [if_neg h];clear h
 go_wp2
 go_ret
 exact ⟨ZA,zn,zc,rfl,hZ,Below.refl _ _⟩
def PSecPost (T:Trel) (x:Nat->Nat->Nat->Nat) (w:World) (e:Ending) (w':World):Prop :=
 ∃ g F,e=.returned (.slice (some ⟨g,0,none⟩) T.n T.n)/\w.heap.size<=g/\PolTab w' g (g+1) T.n F T.el x/\Below w.heap.size w w'
theorem zid (T:Trel) (A B ZA:Option Addr) (c d zn zc sb zb:Nat) (w:World) (h:T.Reads w A B) (hs:T.Shape) (hz:w.cell? ⟨zb,0,none⟩=some (.slice ZA zn zc)) (hZ:PolV w (.slice ZA zn zc) (mono 1)) :
  Calls Tryz.prog 104 #[.agg #[.slice A T.nw c,.slice B T.n d],.func (.func 105) #[] #[.pointer (some ⟨sb,0,none⟩),.pointer (some ⟨zb,0,none⟩)]] w (PSecPost T (fun i j=>mono (T.dg i j)) w):=by
 have b4:∀ (x y p q:Value) (W:World),(callFunc 105 #[x,y,p,q]).run Tryz.prog W=.ok (.enter 105 #[x,y,p,q]) W:=fun _ _ _ _ _=>by kernel_rfl
 obtain ⟨RB,U⟩:=exx ((Obj.cells #[.slice A T.nw c,.slice B T.n d] 53))
 have J:Below (w.heap.size+1) (w.alloc RB) (w.alloc RB):=Below.refl _ _
 have HS:Hid (∀ w',Below (w.heap.size+1) (w.alloc RB) w'->(w'.cell? ⟨w.heap.size,0,none⟩=some (.slice A T.nw c)/\w'.cell? ⟨w.heap.size,1,none⟩=some (.slice B T.n d))/\Below w.heap.size w w'):=fun w' hB=>by
  have au:=zax hB
  subst U
  exact ⟨⟨tbox hB rfl,tbox hB rfl⟩,au⟩
 obtain ⟨⟨p0,p1⟩,hW⟩:=HS.out _ J
 have ae:=hs.n64
 have a1:=fun W=>zaf (P:=Tryz.prog) 142 148 _ 24 Tryz.underlying142 Tryz.infoPols rfl (T.n:Int) (by omega) (by omega) (by omega) W
 simp only [Int.toNat_natCast] at a1
 have HR:=hid h
 have aw:=hid hs
 have HZ:=hid hz
 have av:=hid hZ
 clear h hs hz hZ
 have ah:w.heap.size<(w.alloc RB).heap.size:=by simp
 go_enter Tryz.func104, Tryz.ntmps104
 go_wp2_with fail
 rw [<-U]
 go_upto_region 2 with fail
 obtain ⟨W2,H⟩:=exx (w.alloc RB)
 have r:W2.heap.size=w.heap.size+1:=by rw [H]; simp
 have X:Hid (∀ w',Below (w.heap.size+1) W2 w'->(w'.cell? ⟨w.heap.size,0,none⟩=some (.slice A T.nw c)/\w'.cell? ⟨w.heap.size,1,none⟩=some (.slice B T.n d))/\Below w.heap.size w w'):=by rw [H]; exact HS
 rw [<-H] at J ⊢
 obtain ⟨g,hg⟩:=exx (w.heap.size+1)
 have a4:g=W2.heap.size:=by omega
 have G:=World.rowIs_made W2 (.slice none 0 0) T.n 148
 have I:=zag J (Nat.le_of_eq r.symm) ((Below.refl W2.heap.size W2).alloc (Nat.le_refl _) (Obj.cells (madeCells #[Value.slice none 0 0] T.n) 148))
 have O:w.heap.size+1<(W2.alloc (Obj.cells (madeCells #[Value.slice none 0 0] T.n) 148)).heap.size:=by simp; omega
 obtain ⟨W3,a7⟩:=exx (W2.alloc (Obj.cells (madeCells #[Value.slice none 0 0] T.n) 148))
 rw [<-a4] at G;rw [<-a7] at G I O ⊢;rw [<-hg]
 have a8:PolTab W3 g (g+1) T.n (fun _=>.slice none 0 0) (fun v=>if v<0 then T.el v else 0) (fun i j=>mono (T.dg i j)):=(zcT G).congr (fun v _=>(if_neg (by omega)).symm) (fun v _ k hk _=>rfl)
 have ak:w.heap.size+1<=g:=by omega
 clear a7 a4 hg G H HS J a1 U r ah p0 p1 hW
 obtain ⟨⟨p0,p1⟩,hW⟩:=X.out _ I
 go_wp2
 go_loopg [17] T.n (fun gg iv wx=>∃ (k:Nat) (F:Nat->Value),iv=.int .i64 (k:Nat)/\k<=T.n/\T.n<=k+gg/\PolTab wx g (g+1) T.n F (fun v=>if v<k then T.el v else 0) (fun i j=>mono (T.dg i j))/\Below (w.heap.size+1) W2 wx/\w.heap.size+1<wx.heap.size)
 case atStart=>exact ⟨0,_,rfl,by omega,by omega,a8,I,O⟩
 clear hW p0 p1 a8 I O
 obtain ⟨gK,aj⟩:=exx gk
 subst aj
 obtain ⟨k,F,rfl,hk,ay,hT,hB,hl⟩:=hrel
 obtain ⟨wk,ac⟩:=exx wr
 subst ac
 have az:(0:Int)<=(k:Int):=by omega
 obtain ⟨⟨p0,p1⟩,hW⟩:=X.out _ hB
 by_cases hlt:k<T.n
 rotate_left
 ·have N:¬ (k:Int)<(T.n:Int):=by omega
  have ap:Hid (PolTab wk g (g+1) T.n F T.el (fun i j=>mono (T.dg i j))):=hT.congr (fun v hv=>if_pos (by omega)) (fun v _ q hq _=>rfl)
  clear hT
  go_wp2
  go_ret
  exact ⟨g,F,rfl,by omega,ap.out,hW⟩
 have N:(k:Int)<(T.n:Int):=by omega
 obtain ⟨eb,eo,E,ec,rfl,b3,x0w,ao,an,a6,am⟩:=HR.out.sec hlt
 have x0:=cellS hW x0w
 have al:=aw.out.elb hlt
 obtain ⟨n1,M⟩:∃ n:Nat,n=T.el k:=⟨_,rfl⟩
 rw [<-M] at x0 al
 have ab:=hid M
 have ax:=hid a6
 have a9:PolTab wk g (g+1) T.n F (fun v=>if v<k then T.el v else if v=k then 0 else 0) (fun i j=>mono (T.dg i j)):=hT.congr (fun v _=>by split <;> simp) (fun v _ q hq _=>rfl)
 clear hT M a6 am x0w ao an
 go_wp2
 go_loopg [24] n1 (fun gg jv wx=>∃ (j:Nat) (F:Nat->Value),jv=.int .i64 (j:Nat)/\j<=n1/\n1<=j+gg/\PolTab wx g (g+1) T.n F (fun v=>if v<k then T.el v else if v=k then j else 0) (fun i j=>mono (T.dg i j))/\Below (w.heap.size+1) W2 wx/\w.heap.size+1<wx.heap.size)
 case atStart=>exact ⟨0,F,rfl,by omega,by omega,a9,hB,hl⟩
 clear hW p0 p1 a9 hB hl x0
 obtain ⟨j,F2,rfl,hj,b0,hT,hB,hl⟩:=hrel
 have b1:(0:Int)<=(j:Int):=by omega
 have hW:=(X.out _ hB).2
 by_cases hltj:j<n1
 rotate_left
 ·have s:¬ (j:Int)<(n1:Int):=by omega
  have a3:j=n1:=by omega
  have aq:Hid (PolTab wr g (g+1) T.n F2 (fun v=>if v<k+1 then T.el v else 0) (fun i j=>mono (T.dg i j))):=hT.congr (fun v _=>by
   by_cases e:v<k
   ·rw [if_pos e,if_pos (by omega)]
   rw [if_neg e]
   by_cases e2:v=k
   ·subst e2
    rw [if_pos rfl,if_pos (by omega),a3]
    exact ab.out
   ·rw [if_neg e2,if_neg (by omega)]) (fun v _ q hq _=>rfl)
  have HB:=hid hB
  clear hT hB a3 hW
  go_wp2
  go_roundg (gK - 1)
  case measure=>omega
  case rel=>exact ⟨k+1,F2,by go_num,by omega,by omega,aq.out,HB.out,hl⟩
 have s:(j:Int)<(n1:Int):=by omega
 obtain ⟨fb,fo,rfl,b2,e0,e1,e2⟩:=zbt ((Rd.below ax.out hW (Nat.le_refl _)).mono hW.size) (show j<T.el k by rw [<-ab.out]; exact hltj)
 have hY:Hid (mono (if T.lb k j=0 then 0 else 1)=mono (T.dg k j)):=by show mono _=mono (if T.lb k j=0 then 0 else 1); rfl
 obtain ⟨la,a2⟩:=exx (T.lb k j)
 rw [<-a2] at e1 hY
 obtain ⟨fv,a5⟩:=exx (T.fr k j)
 obtain ⟨tv,a0⟩:=exx (T.to k j)
 rw [<-a5] at e0;rw [<-a0] at e2
 obtain ⟨fk,R⟩:=exx (F2 k)
 have q0:wr.cell? ⟨g,k,none⟩=some fk:=by rw [R]; exact hT.row.cell hlt
 have L:=hid R
 have a:=av.out.on hW
 have b:=cellS hW HZ.out
 clear R a5 a0 a2 hW
 go_upto_region 8 with fail
 obtain ⟨OB,V⟩:=exx ((Obj.cells #[.int .i64 fv,.int .i64 la,.int .i64 tv] 90))
 have s1:(wr.alloc OB).cell? ⟨wr.heap.size,1,none⟩=some (.int .i64 la):=by subst V; exact tbox (Below.refl _ _) rfl
 have kb:=aly wr OB
 rw [<-V]
 obtain ⟨w50,o⟩:=exx (wr.alloc OB)
 rw [<-o] at s1 kb ⊢
 have m:∀ q,fk.ownBlock=some q->q<wr.heap.size:=fun q e=>by
  have:=(hT.own k hlt).lt q (by rw [<-L.out]; exact e)
  exact this.2
 have Z:wr.heap.size≠g:=by have:=hT.row.lt; omega
 replace hT:=hT.on kb;replace hB:=zag hB (Nat.le_of_lt hl) kb;replace hl:=Nat.lt_of_lt_of_le hl kb.size;replace q0:=cellS kb q0;replace a:=a.on kb;replace b:=cellS kb b
 obtain ⟨bx,z⟩:=exx wr.heap.size
 rw [<-z] at s1 Z m ⊢
 have Y:=hid m
 clear o V kb e0 e1 e2 z m
 refine wp_region_held_drew (S:=fun w'=>w'.cell? ⟨bx,1,none⟩=some (.int .i64 la)) (by kernel_rfl) (cellS (Below.refl _ _).drew s1) (fun hHeld=>?_)
 obtain ⟨w51,hw,kb⟩:=dwx w50
 rw [<-hw] at hHeld ⊢;clear hw;replace hB:=zag hB (Nat.le_of_lt hl) kb;replace hl:=Nat.lt_of_lt_of_le hl kb.size;replace hT:=hT.on kb;replace q0:=cellS kb q0;replace s1:=cellS kb s1;replace a:=a.on kb;replace b:=cellS kb b;clear kb
 refine tkq 0 (h:=tkq 1 (h:=tkq 2 (h:=tkq 3 (h:=tkq 4 (h:=tkq 6 (h:=tkq 7 (h:=tkq 8 (h:=tkq 9 (h:=?_)))))))))
 refine rdq2 5 10 (h:=fun K hK=>?_) (h2:=fun K hK=>?_)
 focus
  go_simp
  refine bkq hK s1 (h:=fun hHeld=>?_)
  clear hK K
  refine rdq 10 (h:=fun K hK=>?_)
  go_simp
  go_wp2_with fail
  refine (zed k la sb zb ZA zn zc w51 b a).mono ?_
  rintro e w52 ⟨VA,vn,vc,rfl,zv,kb⟩
  replace hB:=zag hB (Nat.le_of_lt hl) kb;replace hl:=Nat.lt_of_lt_of_le hl kb.size;replace hT:=hT.on kb;replace q0:=cellS kb q0;replace s1:=cellS kb s1;replace a:=a.on kb;replace b:=cellS kb b;clear kb;rw [hY.out] at zv
  refine bkq hK s1 (h:=fun hHeld=>?_)
  clear hK K
  refine rdq 11 (h:=fun K hK=>?_)
  go_simp
  obtain ⟨w53,hw⟩:=exx (World.alloc w52 (Obj.cells #[Value.slice VA vn vc] 64))
  have kb:=alx hw
  have n1c:w53.cell? ⟨w52.heap.size,0,none⟩=some (Value.slice VA vn vc):=by rw [hw]; simp
  rw [<-hw];clear hw
  obtain ⟨nb_n1c,l⟩:=exx w52.heap.size
  rw [<-l] at n1c ⊢;clear l;replace hB:=zag hB (Nat.le_of_lt hl) kb;replace hl:=Nat.lt_of_lt_of_le hl kb.size;replace hT:=hT.on kb;replace q0:=cellS kb q0;replace s1:=cellS kb s1;replace a:=a.on kb;replace b:=cellS kb b;replace zv:=zv.on kb;clear kb
 rotate_left
 focus
  go_simp
  go_wp2_with fail
  refine (zed k la sb zb ZA zn zc w51 b a).mono ?_
  rintro e w52 ⟨VA,vn,vc,rfl,zv,kb⟩
  replace hB:=zag hB (Nat.le_of_lt hl) kb;replace hl:=Nat.lt_of_lt_of_le hl kb.size;replace hT:=hT.on kb;replace q0:=cellS kb q0;replace s1:=cellS kb s1;replace a:=a.on kb;replace b:=cellS kb b;clear kb;rw [hY.out] at zv
  refine bkq hK s1 (h:=fun hHeld=>?_)
  clear hK K
  refine rdq2 5 11 (h:=fun K hK=>?_) (h2:=fun K hK=>?_)
  focus
   go_simp
   refine bkq hK s1 (h:=fun hHeld=>?_)
   clear hK K
   refine rdq 11 (h:=fun K hK=>?_)
   go_simp
   obtain ⟨w53,hw⟩:=exx (World.alloc w52 (Obj.cells #[Value.slice VA vn vc] 64))
   have kb:=alx hw
   have n1c:w53.cell? ⟨w52.heap.size,0,none⟩=some (Value.slice VA vn vc):=by rw [hw]; simp
   rw [<-hw];clear hw
   obtain ⟨nb_n1c,l⟩:=exx w52.heap.size
   rw [<-l] at n1c ⊢;clear l;replace hB:=zag hB (Nat.le_of_lt hl) kb;replace hl:=Nat.lt_of_lt_of_le hl kb.size;replace hT:=hT.on kb;replace q0:=cellS kb q0;replace s1:=cellS kb s1;replace a:=a.on kb;replace b:=cellS kb b;replace zv:=zv.on kb;clear kb
  rotate_left
  focus
   go_simp
   obtain ⟨w53,hw⟩:=exx (World.alloc w52 (Obj.cells #[Value.slice VA vn vc] 64))
   have kb:=alx hw
   have n1c:w53.cell? ⟨w52.heap.size,0,none⟩=some (Value.slice VA vn vc):=by rw [hw]; simp
   rw [<-hw];clear hw
   obtain ⟨nb_n1c,l⟩:=exx w52.heap.size
   rw [<-l] at n1c ⊢;clear l;replace hB:=zag hB (Nat.le_of_lt hl) kb;replace hl:=Nat.lt_of_lt_of_le hl kb.size;replace hT:=hT.on kb;replace q0:=cellS kb q0;replace s1:=cellS kb s1;replace a:=a.on kb;replace b:=cellS kb b;replace zv:=zv.on kb;clear kb
   refine bkq hK s1 (h:=fun hHeld=>?_)
   clear hK K
   refine rdq 5 (h:=fun K hK=>?_)
   go_simp
  rotate_left
 rotate_left 2
 all_goals
  refine bkq hK s1 (h:=fun hHeld=>?_)
  clear hK K
  refine rdq 12 (h:=fun K hK=>?_)
  have D:PolOwn w53 (g+1) fk j (fun i=>mono (T.dg k i)):=by
   have:=hT.own k hlt
   rw [if_neg (Nat.lt_irrefl k),if_pos rfl,<-L.out] at this
   exact this
  have ai:g+1<=w53.heap.size:=hT.row.lt
  refine zbC (by rfl) (.tmp 33) (.tmp 39) (by rfl) (g+1) fk j (fun i=>mono (T.dg k i)) (by rfl) D ai (by omega) nb_n1c 1 (by rfl) _ n1c zv ?_
  intro v9 w9 o1 o2 o3
  obtain ⟨A9,c9,ad⟩:=o1.isSlice
  subst ad
  have Q:∀ q,fk.ownBlock=some q->g+1<=q:=fun q e=>(D.lt q e).1
  have q9:w9.cell? ⟨g,k,none⟩=some fk:=zae q0 o2 fun e=>by have:=Q g e; omega
  have z9:w9.frozen? ⟨g,k,none⟩=false:=by
   have:=(hT.row.of_block (o2.block g hT.row.lt fun e=>by have:=Q g e.symm; omega)).frozen k
   exact this
  have aa:Below (w.heap.size+1) W2 w9:=hB.grown o2 (Nat.le_of_lt hl) fun q e=>by have:=Q q e; omega
  have ag:w.heap.size+1<w9.heap.size:=Nat.lt_of_lt_of_le hl o2.size
  have s1:=zae s1 o2 fun e=>absurd (Y.out _ e) (Nat.lt_irrefl _)
  have C:=hid (hT.put (by omega) hlt o1 (by rw [<-L.out]; exact o2) (by rw [<-L.out]; exact o3))
  refine bkq hK s1 (h:=fun hHeld=>?_)
  clear hK K
  refine tkq 13 (h:=?_)
  refine rdq 14 (h:=fun K hK=>?_)
  go_simp
  replace s1:=zaa (p:=⟨g,k,none⟩) (u:=.slice A9 (j+1) c9) s1 Z
  refine bkq hK s1 (h:=fun hHeld=>?_)
  clear hK K
  refine wpAnyH_done (by kernel_rfl) ?_ _
  clear hHeld
  have hN:=C.out.congr (n':=fun v=>if v<k then T.el v else if v=k then j+1 else 0) (x':=fun i j=>mono (T.dg i j)) (fun v _=>by
    by_cases e:v=k
    ·subst e; simp
    ·simp [e]) (fun v _ q hq t=>by
    by_cases e:v=k
    ·rw [if_pos e,e]
    ·rw [if_neg e])
  have HN:=hid hN
  have ar:=aa.setCell (p:=⟨g,k,none⟩) ak (.slice A9 (j+1) c9)
  have af:w.heap.size+1<(w9.setCell ⟨g,k,none⟩ (.slice A9 (j+1) c9)).heap.size:=by simp; exact ag
  clear C hN q9 z9 aa
  go_wp2
  go_roundg (gk - 1)
  case measure=>omega
  case rel=>exact ⟨j+1,_,by go_num,by omega,by omega,HN.out,ar,af⟩
def PFwdPost (T:Trel) (x:Nat->Nat->Nat->Nat) (w:World) (e:Ending) (w':World):Prop :=
 ∃ g F,e=.returned (.tuple #[.slice (some ⟨g,0,none⟩) T.nw T.nw,.int .i64 0])/\w.heap.size<=g/\PolTab w' g (g+1) T.nw F (fun v=>(T.W v).toNat) x/\Below w.heap.size w w'
theorem zeH (T:Trel) (A B V:Option Addr) (c d vc:Nat) (w:World) (h:T.Reads w A B) (hs:T.shapeE=0) (hv:PolRows w V T.n T.el fun i j=>mono (T.dg i j)) :
  Calls Tryz.prog 103 #[.agg #[],.agg #[.slice A T.nw c,.slice B T.n d],.slice V T.n vc] w (PFwdPost T T.pw w):=by
 obtain ⟨O1,aw⟩:=exx ((Obj.cells #[] 141))
 obtain ⟨O2,a6⟩:=exx ((Obj.cells #[.slice A T.nw c,.slice B T.n d] 53))
 have a9:Below (w.heap.size+2) ((w.alloc O1).alloc O2) ((w.alloc O1).alloc O2):=Below.refl _ _
 have HS:Hid (∀ w',Below (w.heap.size+2) ((w.alloc O1).alloc O2) w'->(w'.cell? ⟨w.heap.size+1,0,none⟩=some (.slice A T.nw c)/\w'.cell? ⟨w.heap.size+1,1,none⟩=some (.slice B T.n d))/\Below w.heap.size w w'):=fun w' hB=>by
  have bs:=zbx hB
  subst a6
  have hr:=zbT hB
  exact ⟨⟨hr.cell (i:=0) (by simp),hr.cell (i:=1) (by simp)⟩,bs⟩
 obtain ⟨⟨p0,p1⟩,hW⟩:=HS.out _ a9
 have q:=hid (Trel.shape_of hs)
 have bw:=hid hs
 have HR:=hid h
 have HV:=hid hv
 clear h hs hv
 go_enter Tryz.func103, Tryz.ntmps103
 go_wp2_with fail
 rw [<-aw,<-a6]
 refine (zfU T A B V c d vc (fun i j=>mono (T.dg i j)) _ (HR.out.on hW) bw.out (HV.out.on hW)).mono ?_
 rintro e w1 ⟨rfl,kb⟩
 have O:=zfH a9 kb
 clear p0 p1 hW kb a9 aw a6
 obtain ⟨⟨p0,p1⟩,hW⟩:=HS.out _ O
 go_wp2_with fail
 refine (zic T A B c d _ (HR.out.on hW) q.out).mono ?_
 rintro e w2 ⟨g,F,rfl,hg,hT,kb⟩
 have y:=zfH O kb
 have b8:=zhQ O
 have c9:w.heap.size+2<=g:=by omega
 have b7:w.heap.size+2<w2.heap.size:=by have:=hT.row.lt; omega
 obtain ⟨W2,a4⟩:∃ W,W=(w.alloc O1).alloc O2:=⟨_,rfl⟩
 have aa:Hid (∀ w',Below (w.heap.size+2) W2 w'->(w'.cell? ⟨w.heap.size+1,0,none⟩=some (.slice A T.nw c)/\w'.cell? ⟨w.heap.size+1,1,none⟩=some (.slice B T.n d))/\Below w.heap.size w w'):=by rw [a4]; exact HS
 rw [<-a4] at y;clear p0 p1 hW kb O b8 hg a4 HS
 have b6:=q.out.n64
 have ac:=hid q.out.nw
 have r:0<T.nw:=by have:=ac.out; omega
 have ak:(0:Int)<(T.nw:Int):=by omega
 have b1:=q.out.wid (i:=0) (by omega)
 have m:0<(T.W 0).toNat:=by omega
 obtain ⟨b0,o0,d0,V0,a8,cj,a3,q0,_,z0⟩:=hT.at (v:=0) r (k:=0) m
 obtain ⟨n0,X⟩:=exx ((T.W 0).toNat)
 have ae:=hid X
 have r0:=hT.row.cell r
 rw [a8] at r0
 change w2.cell? ⟨g,0,none⟩=some (.slice (some ⟨b0,o0,none⟩) (T.W 0).toNat d0) at r0
 rw [<-X] at m r0
 have C:(0:Int)<(n0:Int):=by omega
 clear X
 go_upto_region 5 with fail
 have hl:=b7
 refine wp_region_held_drew (S:=fun w'=>w'.cell? ⟨g,0,none⟩=some (.slice (some ⟨b0,o0,none⟩) n0 d0)) (by kernel_rfl) (cellS (Below.refl _ _).drew r0) (fun hHeld=>?_)
 obtain ⟨w3,hw,kb⟩:=dwx w2
 rw [<-hw] at hHeld ⊢;clear hw;replace y:=zag y (Nat.le_of_lt hl) kb;replace hl:=Nat.lt_of_lt_of_le hl kb.size;replace hT:=hT.on kb;replace r0:=cellS kb r0;replace q0:=cellS kb q0;clear kb
 refine tkq 0 (h:=tkq 1 (h:=tkq 2 (h:=tkq 3 (h:=tkq 4 (h:=?_)))))
 refine rdq 5 (h:=fun K hK=>?_)
 go_simp
 go_wp2_with fail
 refine (zg1 w3).mono ?_
 rintro e w4 ⟨A1,n9,c1,rfl,zv,kb⟩
 replace y:=zag y (Nat.le_of_lt hl) kb;replace hl:=Nat.lt_of_lt_of_le hl kb.size;replace hT:=hT.on kb;replace r0:=cellS kb r0;replace q0:=cellS kb q0;clear kb
 refine bkq hK r0 (h:=fun hHeld=>?_)
 clear hK K
 refine tkq 6 (h:=?_)
 refine rdq 7 (h:=fun K hK=>?_)
 have zf:w4.frozen? ⟨b0,o0,none⟩=false:=by
  obtain ⟨b9,o9,d9,V9,L,_,_,_,_,z9⟩:=hT.at (v:=0) r (k:=0) (by rw [<-ae.out]; exact m)
  rw [a8] at L
  injection L with e1 _ _
  injection e1 with e1
  injection e1 with e1 e2
  subst e1 e2
  exact z9
 rw [Nat.add_zero] at q0
 go_simp
 replace r0:=zaa (p:=⟨b0,o0,none⟩) (u:=.slice A1 n9 c1) r0 (by show g≠b0; omega)
 have s:=hT.set (by omega) r (k:=0) (by rw [<-ae.out]; exact m) a8 zv
 rw [Nat.add_zero] at s
 have x:=y.setCell (p:=⟨b0,o0,none⟩) (by show w.heap.size+2<=b0; omega) (.slice A1 n9 c1)
 have G:w.heap.size+2<(World.setCell w4 ⟨b0,o0,none⟩ (.slice A1 n9 c1)).heap.size:=by simp; exact hl
 refine bkq hK r0 (h:=fun hHeld=>?_)
 clear hK K
 refine wpAnyH_done (by kernel_rfl) ?_ _
 clear hHeld
 obtain ⟨w9,af⟩:=exx (World.setCell w4 ⟨b0,o0,none⟩ (.slice A1 n9 c1))
 rw [<-af] at s x G ⊢;clear af hT y hl r0 q0 zv
 have av:PolTab w9 g (g+1) T.nw F (fun v=>(T.W v).toNat) (T.pwX 0 0):=s.congr (fun v _=>rfl) (fun u _ v hv t=>by
  simp only [Trel.pwX,updP]
  by_cases e:u=0
  ·subst e
   rw [if_pos (Nat.le_refl _)]
   show _=if v=0 then mono 0 t else 0
   by_cases e2:v=0
   ·rw [if_pos ⟨rfl,e2⟩,if_pos e2]
   ·rw [if_neg (fun h=>e2 h.2),if_neg e2]
  ·rw [if_neg (fun h=>e h.1),if_neg (by omega)]
   split <;> rfl)
 clear s m C z0 a3 ae b1
 obtain ⟨⟨p0,p1⟩,hW⟩:=aa.out _ x
 go_wp2
 go_loopg [33] T.n (fun gg iv wx=>∃ k:Nat,iv=.int .i64 (k:Nat)/\k<=T.n/\T.n<=k+gg/\PolTab wx g (g+1) T.nw F (fun v=>(T.W v).toNat) (T.pwX k 0)/\Below (w.heap.size+2) W2 wx/\w.heap.size+2<wx.heap.size)
 case atStart=>exact ⟨0,rfl,by omega,by omega,av,x,G⟩
 clear hW p0 p1 av x G
 obtain ⟨gK,bf⟩:=exx gk
 subst bf
 obtain ⟨k,rfl,hk,c5,hT,hB,hl⟩:=hrel
 obtain ⟨wk,az⟩:=exx wr
 subst az
 have c6:(0:Int)<=(k:Int):=by omega
 obtain ⟨⟨p0,p1⟩,hW⟩:=aa.out _ hB
 by_cases hlt:k<T.n
 rotate_left
 ·have Y:¬ (k:Int)<(T.n:Int):=by omega
  have a0:k=T.n:=by omega
  have bp:=hid (hT.congr (x':=T.pw) (fun v _=>rfl) (fun u hu v _ t=>by unfold Trel.pwX; rw [if_pos (by have:=ac.out; omega)]))
  clear hT a0
  go_wp2
  go_ret2
  exact ⟨g,F,rfl,by omega,bp.out,hW⟩
 have Y:(k:Int)<(T.n:Int):=by omega
 have H:k+1<T.nw:=by have:=ac.out; omega
 have Z:k<T.nw:=by omega
 have bc:(k:Int)+1<(T.nw:Int):=by omega
 have ba:(k:Int)<(T.nw:Int):=by omega
 have be:(0:Int)<=(k:Int)+1:=by omega
 have ay:IntKind.i64.wrap ((k:Int)+1)=(k:Int)+1:=IntWalk.i64_in _ (by omega)
 obtain ⟨eb,eo,E,ec,rfl,cg,x0w,ch,bi,au,bh⟩:=HR.out.sec hlt
 obtain ⟨vb,vo,R,rc,rfl,c3,y0w,ag⟩:=HV.out k hlt
 have cf:=q.out.elb hlt
 have c0:=hid au
 have bv:=hid ag
 have bu:=hid x0w
 have bt:=hid y0w
 have x0:=cellS hW x0w
 clear au bh bi ag x0w y0w
 go_wp2
 go_loopg [40] (T.el k) (fun gg jv wx=>∃ j:Nat,jv=.int .i64 (j:Nat)/\j<=T.el k/\T.el k<=j+gg/\PolTab wx g (g+1) T.nw F (fun v=>(T.W v).toNat) (T.pwX k j)/\Below (w.heap.size+2) W2 wx/\w.heap.size+2<wx.heap.size)
 case atStart=>exact ⟨0,rfl,by omega,by omega,hT,hB,hl⟩
 clear p0 p1 hT hB hl x0 hW
 obtain ⟨j,rfl,hj,c7,hT,hB,hl⟩:=hrel
 have c8:(0:Int)<=(j:Int):=by omega
 by_cases hltj:j<T.el k
 rotate_left
 ·have D:¬ (j:Int)<(T.el k:Int):=by omega
  have an:j=T.el k:=by omega
  rw [an] at hT
  have br:=hid (hT.congr (x':=T.pwX (k+1) 0) (fun v _=>rfl) (fun u _ v _ t=>T.pwX_next k u v t))
  have HB:=hid hB
  clear hT hB an
  go_wp2
  go_roundg (gK - 1)
  case measure=>omega
  case rel=>exact ⟨k+1,by go_num,by omega,by omega,br.out,HB.out,hl⟩
 have D:(j:Int)<(T.el k:Int):=by omega
 have hW:=(aa.out _ hB).2
 obtain ⟨fb,fo,rfl,cd,e0,e1,e2⟩:=zbt ((Rd.below c0.out hW (Nat.le_refl _)).mono hW.size) hltj
 obtain ⟨i1,i2,i3,i4⟩:=q.out.ins k hlt j hltj
 obtain ⟨fn,ap⟩:∃ n:Nat,(n:Int)=T.fr k j:=⟨(T.fr k j).toNat,by omega⟩
 obtain ⟨tn,ah⟩:∃ n:Nat,(n:Int)=T.to k j:=⟨(T.to k j).toNat,by omega⟩
 obtain ⟨lb,am⟩:=exx (T.lb k j)
 obtain ⟨n1,al⟩:=exx ((T.W k).toNat)
 obtain ⟨n2,U⟩:=exx ((T.W (k+1)).toNat)
 have cc:fn<n1:=by omega
 have b3:tn<n2:=by omega
 have bg:(fn:Int)<(n1:Int):=by omega
 have b2:(tn:Int)<(n2:Int):=by omega
 have ce:(0:Int)<=(fn:Int):=by omega
 have c4:(0:Int)<=(tn:Int):=by omega
 obtain ⟨ab,ao,ad,Va,a7,ck,bk,aq,apn,_⟩:=hT.at (v:=k) Z (k:=fn) (by omega)
 obtain ⟨bb,bo,bd,Vb,N,ci,bj,bq,bqn,zq⟩:=hT.at (v:=k+1) H (k:=tn) (by omega)
 obtain ⟨rb,ro,Vv,rfl,b4,vq0,vn0⟩:=bv.out j hltj
 have vq:=cellS hW vq0
 have vn:=vn0.on hW
 have bz:=hid b4
 clear vq0 vn0
 obtain ⟨Aa,na,ca,bn⟩:=apn.isSlice
 obtain ⟨Ab,nb,cb,bm⟩:=bqn.isSlice
 obtain ⟨Av,nv,cv,bl⟩:=vn.isSlice
 subst bn bm bl
 have b:=hT.row.cell Z
 have a:=hT.row.cell H
 have y0:=cellS hW bt.out
 have l:=hT.apart k (k+1) Z H (by omega)
 rw [a7] at b;rw [N] at a
 have b5:ab≠bb:=fun e=>by
  rw [a7,N,e] at l
  simp [Value.ownBlock] at l
 have d1:Hid (∀ t,dl (T.pwX k j k fn t)<=1000000):=fun t=>by have:=Trel.pwX_dl q.out hlt hj k fn t; omega
 have d2:Hid (∀ t,dl (T.pwX k j (k+1) tn t)<=1000000):=fun t=>by have:=Trel.pwX_dl q.out hlt hj (k+1) tn t; omega
 have a1:k<64:=by have:=q.out.n64; omega
 have hz:Hid (∀ t,66<=t->shiftP (T.dg k j) (T.pwX k j k fn) t=0):=fun t ht=>by
  have hd:T.dg k j<=1:=by unfold Trel.dg; split <;> omega
  unfold shiftP
  split
  ·have e:T.pwX k j k fn=T.pw k fn:=by unfold Trel.pwX; rw [if_pos (Nat.le_refl _)]
   rw [e]
   exact Trel.pw_out k fn _ (by omega)
  ·rfl
 have o:Hid (∀ u v t,updP (T.pwX k j) (k+1) tn (fun t=>T.pwX k j (k+1) tn t+shiftP (T.dg k j) (T.pwX k j k fn) t) u v t=T.pwX k (j+1) u v t):=fun u v t=>Trel.pwX_put k j u v t (by omega) (by omega)
 have d4:Hid (∀ t,dl (T.pwX k j (k+1) tn t+shiftP (T.dg k j) (T.pwX k j k fn) t)<=1000000):=fun t=>by
  have h1:=o.out (k+1) tn t
  unfold updP at h1
  rw [if_pos ⟨rfl,rfl⟩] at h1
  have h2:=Trel.pwX_dl q.out hlt (show j+1<=T.el k from hltj) (k+1) tn t
  rw [<-h1] at h2
  exact Nat.le_trans h2 (by omega)
 obtain ⟨pv,aj⟩:=exx (T.pwX k j k fn)
 obtain ⟨qv,ai⟩:=exx (T.pwX k j (k+1) tn)
 obtain ⟨ed,ar⟩:=exx (T.dg k j)
 rw [<-aj] at apn d1 hz o d4;rw [<-ai] at bqn d2 o d4;rw [<-ar] at vn hz o d4
 change wr.cell? ⟨g,k,none⟩=some (.slice (some ⟨ab,ao,none⟩) (T.W k).toNat ad) at b
 change wr.cell? ⟨g,k+1,none⟩=some (.slice (some ⟨bb,bo,none⟩) (T.W (k+1)).toNat bd) at a
 have x0:=cellS hW bu.out
 rw [<-al] at b;rw [<-U] at a;rw [<-ap] at e0;rw [<-am] at e1;rw [<-ah] at e2
 have I:g≠bb:=by omega
 have a2:wr.heap.size≠bb:=by omega
 have P:vb≠bb:=by omega
 have cl:=hW.size
 have M:Hid (F (k+1)=.slice (some ⟨bb,bo,none⟩) (T.W (k+1)).toNat bd):=N
 have ax:Hid (tn<(T.W (k+1)).toNat):=by rw [<-U]; exact b3
 have Q:rb≠bb:=by have:=bz.out; omega
 clear l a7 N aj ai ar ap ah am i1 i2 i3 i4 al U hW zq a1
 go_upto_region 12 with fail
 obtain ⟨OB,a5⟩:=exx ((Obj.cells #[.int .i64 (fn:Int),.int .i64 lb,.int .i64 (tn:Int)] 90))
 have hq:∀ i v,(#[Value.int .i64 (fn:Int),.int .i64 lb,.int .i64 (tn:Int)]:Array Value)[i]?=some v->(wr.alloc OB).cell? ⟨wr.heap.size,i,none⟩=some v:=fun i v hv=>by subst a5; exact tbox (Below.refl _ _) hv
 have s0:=hq 0 _ rfl
 have s2:=hq 2 _ rfl
 have kb:=aly wr OB
 rw [<-a5]
 obtain ⟨w50,z⟩:=exx (wr.alloc OB)
 rw [<-z] at s0 s2 kb ⊢;replace hT:=hT.on kb;replace hB:=zag hB (Nat.le_of_lt hl) kb;replace hl:=Nat.lt_of_lt_of_le hl kb.size;replace aq:=cellS kb aq;replace bq:=cellS kb bq;replace vq:=cellS kb vq;replace y0:=cellS kb y0;replace b:=cellS kb b;replace a:=cellS kb a;replace apn:=apn.on kb;replace bqn:=bqn.on kb;replace vn:=vn.on kb
 obtain ⟨bx,J⟩:=exx wr.heap.size
 rw [<-J] at s0 s2 a2 ⊢;clear hq z a5 kb x0 e0 e1 e2 J
 refine wp_region_held_drew (S:=fun w'=>w'.cell? ⟨g,k,none⟩=some (.slice (some ⟨ab,ao,none⟩) n1 ad)/\w'.cell? ⟨g,k+1,none⟩=some (.slice (some ⟨bb,bo,none⟩) n2 bd)/\w'.cell? ⟨bx,0,none⟩=some (.int .i64 (fn:Int))/\w'.cell? ⟨bx,2,none⟩=some (.int .i64 (tn:Int))/\w'.cell? ⟨vb,vo+k,none⟩=some (.slice (some ⟨rb,ro,none⟩) (T.el k) rc)/\w'.cell? ⟨rb,ro+j,none⟩=some (.slice Av nv cv)/\w'.cell? ⟨ab,ao+fn,none⟩=some (.slice Aa na ca)) (by kernel_rfl) ⟨cellS (Below.refl _ _).drew b,cellS (Below.refl _ _).drew a,cellS (Below.refl _ _).drew s0,cellS (Below.refl _ _).drew s2,cellS (Below.refl _ _).drew y0,cellS (Below.refl _ _).drew vq,cellS (Below.refl _ _).drew aq⟩ (fun hHeld=>?_)
 obtain ⟨w51,hw,kb⟩:=dwx w50
 rw [<-hw] at hHeld ⊢;clear hw;replace hB:=zag hB (Nat.le_of_lt hl) kb;replace hl:=Nat.lt_of_lt_of_le hl kb.size;replace hT:=hT.on kb;replace aq:=cellS kb aq;replace bq:=cellS kb bq;replace vq:=cellS kb vq;replace y0:=cellS kb y0;replace b:=cellS kb b;replace a:=cellS kb a;replace s0:=cellS kb s0;replace s2:=cellS kb s2;replace apn:=apn.on kb;replace bqn:=bqn.on kb;replace vn:=vn.on kb
 clear kb
 refine tkq 0 (h:=tkq 1 (h:=tkq 2 (h:=tkq 3 (h:=tkq 4 (h:=tkq 5 (h:=tkq 6 (h:=tkq 7 (h:=tkq 8 (h:=tkq 9 (h:=tkq 10 (h:=tkq 11 (h:=tkq 12 (h:=tkq 13 (h:=tkq 14 (h:=tkq 15 (h:=tkq 16 (h:=tkq 18 (h:=tkq 19 (h:=tkq 20 (h:=tkq 21 (h:=tkq 22 (h:=tkq 23 (h:=tkq 24 (h:=tkq 25 (h:=tkq 26 (h:=tkq 27 (h:=tkq 28 (h:=tkq 29 (h:=tkq 30 (h:=tkq 31 (h:=tkq 32 (h:=tkq 33 (h:=tkq 34 (h:=?_))))))))))))))))))))))))))))))))))
 refine rdq2 17 35 (h:=fun K hK=>?_) (h2:=fun K hK=>?_)
 focus
  go_simp
  refine bkq hK ⟨b,a,s0,s2,y0,vq,aq⟩ (h:=fun hHeld=>?_)
  clear hK K
  refine rdq 35 (h:=fun K hK=>?_)
  go_simp
  go_wp2_with fail
  refine (zg0 Aa Av na nv ca cv ed pv w51 apn vn hz d1).mono ?_
  rintro e w52 ⟨Am,nm,cm,rfl,mv,kb⟩
  replace hB:=zag hB (Nat.le_of_lt hl) kb;replace hl:=Nat.lt_of_lt_of_le hl kb.size;replace hT:=hT.on kb;replace aq:=cellS kb aq;replace bq:=cellS kb bq;replace vq:=cellS kb vq;replace y0:=cellS kb y0;replace b:=cellS kb b;replace a:=cellS kb a;replace s0:=cellS kb s0;replace s2:=cellS kb s2;replace apn:=apn.on kb;replace bqn:=bqn.on kb;replace vn:=vn.on kb;clear kb
 rotate_left
 focus
  go_simp
  go_wp2_with fail
  refine (zg0 Aa Av na nv ca cv ed pv w51 apn vn hz d1).mono ?_
  rintro e w52 ⟨Am,nm,cm,rfl,mv,kb⟩
  replace hB:=zag hB (Nat.le_of_lt hl) kb;replace hl:=Nat.lt_of_lt_of_le hl kb.size;replace hT:=hT.on kb;replace aq:=cellS kb aq;replace bq:=cellS kb bq;replace vq:=cellS kb vq;replace y0:=cellS kb y0;replace b:=cellS kb b;replace a:=cellS kb a;replace s0:=cellS kb s0;replace s2:=cellS kb s2;replace apn:=apn.on kb;replace bqn:=bqn.on kb;replace vn:=vn.on kb;clear kb
  refine bkq hK ⟨b,a,s0,s2,y0,vq,aq⟩ (h:=fun hHeld=>?_)
  clear hK K
  refine rdq 17 (h:=fun K hK=>?_)
  go_simp
 rotate_left
 all_goals
  refine bkq hK ⟨b,a,s0,s2,y0,vq,aq⟩ (h:=fun hHeld=>?_)
  clear hK K
  refine rdq 36 (h:=fun K hK=>?_)
  go_simp
  go_wp2_with fail
  refine (zjj Ab Am nb nm cb cm qv (shiftP ed pv) w52 bqn mv d2 (fun t=>zfg d1.out t) d4).mono ?_
  rintro e w53 ⟨As,ns,cs,rfl,tv,kb⟩
  replace hB:=zag hB (Nat.le_of_lt hl) kb;replace hl:=Nat.lt_of_lt_of_le hl kb.size;replace hT:=hT.on kb;replace aq:=cellS kb aq;replace bq:=cellS kb bq;replace vq:=cellS kb vq;replace y0:=cellS kb y0;replace b:=cellS kb b;replace a:=cellS kb a;replace s0:=cellS kb s0;replace s2:=cellS kb s2;replace apn:=apn.on kb;replace bqn:=bqn.on kb;replace vn:=vn.on kb;replace mv:=mv.on kb;clear kb
  refine bkq hK ⟨b,a,s0,s2,y0,vq,aq⟩ (h:=fun hHeld=>?_)
  clear hK K
  refine tkq 37 (h:=?_)
  refine rdq 38 (h:=fun K hK=>?_)
  have zf:w53.frozen? ⟨bb,bo+tn,none⟩=false:=by
   obtain ⟨b9,o9,d9,V9,L,_,_,_,_,z9⟩:=hT.at (v:=k+1) H (k:=tn) ax.out
   rw [M.out] at L
   injection L with e1 _ _
   injection e1 with e1
   injection e1 with e1 e2
   subst e1 e2
   exact z9
  go_simp
  replace b:=zaa (p:=⟨bb,bo+tn,none⟩) (u:=(.slice As ns cs)) b (by simpa using I)
  replace a:=zaa (p:=⟨bb,bo+tn,none⟩) (u:=(.slice As ns cs)) a (by simpa using I)
  replace s0:=zaa (p:=⟨bb,bo+tn,none⟩) (u:=(.slice As ns cs)) s0 (by simpa using a2)
  replace s2:=zaa (p:=⟨bb,bo+tn,none⟩) (u:=(.slice As ns cs)) s2 (by simpa using a2)
  replace y0:=zaa (p:=⟨bb,bo+tn,none⟩) (u:=(.slice As ns cs)) y0 (by simpa using P)
  replace vq:=zaa (p:=⟨bb,bo+tn,none⟩) (u:=(.slice As ns cs)) vq (by simpa using Q)
  replace aq:=zaa (p:=⟨bb,bo+tn,none⟩) (u:=(.slice As ns cs)) aq (by simpa using b5)
  have s:=hT.set (by omega) H (k:=tn) ax.out M.out tv
  have x:=hB.setCell (p:=⟨bb,bo+tn,none⟩) (by show w.heap.size+2<=bb; omega) (.slice As ns cs)
  have G:w.heap.size+2<(World.setCell w53 ⟨bb,bo+tn,none⟩ (.slice As ns cs)).heap.size:=by simp; exact hl
  refine bkq hK ⟨b,a,s0,s2,y0,vq,aq⟩ (h:=fun hHeld=>?_)
  clear hK K
  refine wpAnyH_done (by kernel_rfl) ?_ _
  clear hHeld
  have hN:=hid (s.congr (x':=T.pwX k (j+1)) (fun v _=>rfl) (fun u _ v _ t=>o.out u v t))
  have c2:=hid x
  clear s hT x hB bq
  go_wp2
  go_roundg (gk - 1)
  case measure=>omega
  case rel=>exact ⟨j+1,by go_num,by omega,by omega,hN.out,c2.out,G⟩
end Go.Proofs.YtgekjfpapmlndaaGreat