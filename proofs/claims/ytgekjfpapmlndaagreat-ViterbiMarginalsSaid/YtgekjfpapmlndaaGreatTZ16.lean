/- Merged texts of a claim: IVals2, Marg, Total, Secs47, Size47, Small47, Small49, Args49, CmpLex, Wt11, Has12, Rest10, Cost49, RefMarg, DecLaw, SameC, LeastPl. -/
import Derived.Test.YtgekjfpapmlndaaGreatTZ15
namespace Go.Proofs.YtgekjfpapmlndaaGreat
set_option maxRecDepth 100000
set_option maxHeartbeats 32000000
open KA KB KC KD KE KF
open Go.RowKit
theorem zdO (CA:Option Addr) (M cc cb i a:Nat) (ln:Nat->Nat) (C:Nat->Nat->Int) (w:World) (h:IntRows w CA M ln C) (hc:w.cell? ⟨cb,0,none⟩=some (.slice CA M cc)) (hi:i<M) (ha:a<ln i) :
  Calls Tryz.prog 117 #[.int .i64 (i:Nat),.int .i64 (a:Nat),.pointer (some ⟨cb,0,none⟩)] w fun e w'=>e=.returned (.int .i64 (C i a))/\Below w.heap.size w w':=by
 obtain ⟨b,o,R,rc,rfl,hb,x0,h1,h2,h3,h4⟩:=h i hi
 obtain ⟨rb,ro,rfl,d,x1⟩:=h3.at ha
 obtain ⟨n1,c⟩:=exx (ln i)
 obtain ⟨v,hv⟩:=exx (C i a)
 rw [<-c] at x0 ha;rw [<-hv] at x1
 have HV:=hid hv
 have j:(0:Int)<=(i:Int):=by omega
 have l:(0:Int)<=(a:Int):=by omega
 have g:(i:Int)<(M:Int):=by omega
 have k:(a:Int)<(n1:Int):=by omega
 clear h h3 h4 hv c h1
 go_enter Tryz.func117, Tryz.ntmps117
 go_wp2
 go_ret
 exact ⟨by rw [<-HV.out]; rfl,Below.refl _ _⟩
theorem zgT (T:Trel) (A B CA:Option Addr) (c d M cc cb:Nat) (ln:Nat->Nat) (C:Nat->Nat->Int) (w:World) (h:T.Reads w A B) (hs:T.Shape) (hC:IntRows w CA M ln C) (hM:M=T.n) (hF:T.Fit ln) (hcb:w.cell? ⟨cb,0,none⟩=some (.slice CA M cc)) :
  Calls Tryz.prog 116 #[.agg #[.slice A T.nw c,.slice B T.n d],.func (.func 117) #[] #[.pointer (some ⟨cb,0,none⟩)]] w (SecPost T (T.yOf C) w):=by
 have ba:∀ (x y p:Value) (W:World),(callFunc 117 #[x,y,p]).run Tryz.prog W=.ok (.enter 117 #[x,y,p]) W:=fun _ _ _ _=>by kernel_rfl
 obtain ⟨RB,a0⟩:=exx ((Obj.cells #[.slice A T.nw c,.slice B T.n d] 53))
 have N:Below (w.heap.size+1) (w.alloc RB) (w.alloc RB):=Below.refl _ _
 have HS:Hid (∀ w',Below (w.heap.size+1) (w.alloc RB) w'->(w'.cell? ⟨w.heap.size,0,none⟩=some (.slice A T.nw c)/\w'.cell? ⟨w.heap.size,1,none⟩=some (.slice B T.n d))/\Below w.heap.size w w'):=fun w' hB=>by
  have b0:=zaC hB
  subst a0
  exact ⟨⟨tbox hB rfl,tbox hB rfl⟩,b0⟩
 obtain ⟨⟨p0,p1⟩,hW⟩:=HS.out _ N
 have ak:=hs.n64
 have a7:=fun W=>zaf (P:=Tryz.prog) 25 22 _ 24 Tryz.underlying25 Tryz.infoInts rfl (T.n:Int) (by omega) (by omega) (by omega) W
 simp only [Int.toNat_natCast] at a7
 have HR:=hid h
 have b1:=hid hs
 have HC:=hid hC
 have HF:=hid hF
 have HM:=hid hM
 have b3:=hid hcb
 clear h hs hC hF hM hcb
 have an:w.heap.size<(w.alloc RB).heap.size:=by simp
 go_enter Tryz.func116, Tryz.ntmps116
 go_wp2_with fail
 rw [<-a0]
 go_upto_region 2 with fail
 obtain ⟨W2,J⟩:=exx (w.alloc RB)
 have r:W2.heap.size=w.heap.size+1:=by rw [J]; simp
 have a2:Hid (∀ w',Below (w.heap.size+1) W2 w'->(w'.cell? ⟨w.heap.size,0,none⟩=some (.slice A T.nw c)/\w'.cell? ⟨w.heap.size,1,none⟩=some (.slice B T.n d))/\Below w.heap.size w w'):=by rw [J]; exact HS
 rw [<-J] at N ⊢
 obtain ⟨g,hg⟩:=exx (w.heap.size+1)
 have aa:g=W2.heap.size:=by omega
 have I:=World.rowIs_made W2 (.slice none 0 0) T.n 22
 have L:=zak N (Nat.le_of_eq r.symm) ((Below.refl W2.heap.size W2).alloc (Nat.le_refl _) (Obj.cells (madeCells #[Value.slice none 0 0] T.n) 22))
 have V:w.heap.size+1<(W2.alloc (Obj.cells (madeCells #[Value.slice none 0 0] T.n) 22)).heap.size:=by simp; omega
 obtain ⟨W3,ad⟩:=exx (W2.alloc (Obj.cells (madeCells #[Value.slice none 0 0] T.n) 22))
 rw [<-aa] at I;rw [<-ad] at I L V ⊢;rw [<-hg]
 have ae:IntTab W3 g (g+1) T.n (fun _=>.slice none 0 0) (fun v=>if v<0 then T.el v else 0) (T.yOf C):=(zaI I).congr (fun v _=>(if_neg (by omega)).symm) (fun v _ k hk=>rfl)
 have aq:w.heap.size+1<=g:=by omega
 clear ad aa hg I J HS N a7 a0 r an p0 p1 hW
 obtain ⟨⟨p0,p1⟩,hW⟩:=a2.out _ L
 go_wp2
 go_loopg [17] T.n (fun gg iv wx=>∃ (k:Nat) (F:Nat->Value),iv=.int .i64 (k:Nat)/\k<=T.n/\T.n<=k+gg/\IntTab wx g (g+1) T.n F (fun v=>if v<k then T.el v else 0) (T.yOf C)/\Below (w.heap.size+1) W2 wx/\w.heap.size+1<wx.heap.size)
 case atStart=>exact ⟨0,_,rfl,by omega,by omega,ae,L,V⟩
 clear hW p0 p1 ae L V
 obtain ⟨gK,ap⟩:=exx gk
 subst ap
 obtain ⟨k,F,rfl,hk,b4,hT,hB,hl⟩:=hrel
 obtain ⟨wk,ai⟩:=exx wr
 subst ai
 have b5:(0:Int)<=(k:Int):=by omega
 obtain ⟨⟨p0,p1⟩,hW⟩:=a2.out _ hB
 by_cases hlt:k<T.n
 rotate_left
 ·have R:¬ (k:Int)<(T.n:Int):=by omega
  have ax:Hid (IntTab wk g (g+1) T.n F T.el (T.yOf C)):=hT.congr (fun v hv=>if_pos (by omega)) (fun v _ q hq=>rfl)
  clear hT
  go_wp2
  go_ret
  exact ⟨g,F,rfl,by omega,ax.out,hW⟩
 have R:(k:Int)<(T.n:Int):=by omega
 obtain ⟨eb,eo,E,ec,rfl,b9,x0w,aw,av,ac,au⟩:=HR.out.sec hlt
 have x0:=cellS hW x0w
 have ar:=b1.out.elb hlt
 obtain ⟨n1,Q⟩:∃ n:Nat,n=T.el k:=⟨_,rfl⟩
 rw [<-Q] at x0 ar
 have a3:=hid Q
 have b2:=hid ac
 have af:IntTab wk g (g+1) T.n F (fun v=>if v<k then T.el v else if v=k then 0 else 0) (T.yOf C):=hT.congr (fun v _=>by split <;> simp) (fun v _ q hq=>rfl)
 clear hT Q ac au x0w aw av
 go_wp2
 go_loopg [24] n1 (fun gg jv wx=>∃ (j:Nat) (F:Nat->Value),jv=.int .i64 (j:Nat)/\j<=n1/\n1<=j+gg/\IntTab wx g (g+1) T.n F (fun v=>if v<k then T.el v else if v=k then j else 0) (T.yOf C)/\Below (w.heap.size+1) W2 wx/\w.heap.size+1<wx.heap.size)
 case atStart=>exact ⟨0,F,rfl,by omega,by omega,af,hB,hl⟩
 clear hW p0 p1 af hB hl x0
 obtain ⟨j,F2,rfl,hj,b6,hT,hB,hl⟩:=hrel
 have b7:(0:Int)<=(j:Int):=by omega
 have hW:=(a2.out _ hB).2
 by_cases hltj:j<n1
 rotate_left
 ·have s:¬ (j:Int)<(n1:Int):=by omega
  have a9:j=n1:=by omega
  have ay:Hid (IntTab wr g (g+1) T.n F2 (fun v=>if v<k+1 then T.el v else 0) (T.yOf C)):=hT.congr (fun v _=>by
   by_cases e:v<k
   ·rw [if_pos e,if_pos (by omega)]
   rw [if_neg e]
   by_cases e2:v=k
   ·subst e2
    rw [if_pos rfl,if_pos (by omega),a9]
    exact a3.out
   ·rw [if_neg e2,if_neg (by omega)]) (fun v _ q hq=>rfl)
  have HB:=hid hB
  clear hT hB a9 hW
  go_wp2
  go_roundg (gK - 1)
  case measure=>omega
  case rel=>exact ⟨k+1,F2,by go_num,by omega,by omega,ay.out,HB.out,hl⟩
 have s:(j:Int)<(n1:Int):=by omega
 obtain ⟨fb,fo,rfl,b8,e0,e1,e2⟩:=zba ((Rd.below b2.out hW (Nat.le_refl _)).mono hW.size) (show j<T.el k by rw [<-a3.out]; exact hltj)
 have Z:=HF.out k hlt j (by rw [<-a3.out]; exact hltj)
 obtain ⟨la,U⟩:∃ n:Nat,(n:Int)=T.lb k j:=⟨(T.lb k j).toNat,by omega⟩
 have hY:Hid (C k la=T.yOf C k j):=by show C k la=C k (T.lb k j).toNat; rw [<-U]; rfl
 have z:la<ln k:=by omega
 rw [<-U] at e1
 obtain ⟨fv,ab⟩:=exx (T.fr k j)
 obtain ⟨tv,a6⟩:=exx (T.to k j)
 rw [<-ab] at e0;rw [<-a6] at e2
 obtain ⟨fk,Y⟩:=exx (F2 k)
 have q0:wr.cell? ⟨g,k,none⟩=some fk:=by rw [Y]; exact hT.row.cell hlt
 have O:=hid Y
 have a:=HC.out.on hW
 have hcb:=cellS hW b3.out
 have a8:k<M:=by rw [HM.out]; exact hlt
 clear Y ab a6 U Z hW
 go_upto_region 8 with fail
 obtain ⟨OB,a1⟩:=exx ((Obj.cells #[.int .i64 fv,.int .i64 (la:Int),.int .i64 tv] 90))
 have s1:(wr.alloc OB).cell? ⟨wr.heap.size,1,none⟩=some (.int .i64 (la:Int)):=by subst a1; exact tbox (Below.refl _ _) rfl
 have kb:=aly wr OB
 rw [<-a1]
 obtain ⟨w50,o⟩:=exx (wr.alloc OB)
 rw [<-o] at s1 kb ⊢
 have m:∀ q,fk.ownBlock=some q->q<wr.heap.size:=fun q e=>by
  have:=(hT.own k hlt).lt q (by rw [<-O.out]; exact e)
  exact this.2
 have a5:wr.heap.size≠g:=by have:=hT.row.lt; omega
 replace hT:=hT.on kb;replace hB:=zak hB (Nat.le_of_lt hl) kb;replace hl:=Nat.lt_of_lt_of_le hl kb.size;replace q0:=cellS kb q0;replace a:=a.on kb;replace hcb:=cellS kb hcb
 obtain ⟨bx,D⟩:=exx wr.heap.size
 rw [<-D] at s1 a5 m ⊢
 have a4:=hid m
 clear o a1 kb e0 e1 e2 D m
 refine wp_region_held_drew (S:=fun w'=>w'.cell? ⟨bx,1,none⟩=some (.int .i64 (la:Int))) (by kernel_rfl) (cellS (Below.refl _ _).drew s1) (fun hHeld=>?_)
 obtain ⟨w51,hw,kb⟩:=dwx w50
 rw [<-hw] at hHeld ⊢;clear hw;replace hB:=zak hB (Nat.le_of_lt hl) kb;replace hl:=Nat.lt_of_lt_of_le hl kb.size;replace hT:=hT.on kb;replace q0:=cellS kb q0;replace s1:=cellS kb s1;replace a:=a.on kb;replace hcb:=cellS kb hcb;clear kb
 refine tkq 0 (h:=tkq 1 (h:=tkq 2 (h:=tkq 3 (h:=tkq 4 (h:=tkq 6 (h:=tkq 7 (h:=tkq 8 (h:=tkq 9 (h:=?_)))))))))
 refine rdq2 5 10 (h:=fun K hK=>?_) (h2:=fun K hK=>?_)
 focus
  go_simp
  refine bkq hK s1 (h:=fun hHeld=>?_)
  clear hK K
  refine rdq 10 (h:=fun K hK=>?_)
  go_simp
  go_wp2_with fail
  refine (zdO CA M cc cb k la ln C w51 a hcb a8 z).mono ?_
  rintro e w52 ⟨rfl,kb⟩
  replace hB:=zak hB (Nat.le_of_lt hl) kb;replace hl:=Nat.lt_of_lt_of_le hl kb.size;replace hT:=hT.on kb;replace q0:=cellS kb q0;replace s1:=cellS kb s1;replace a:=a.on kb;replace hcb:=cellS kb hcb;clear kb;rw [hY.out]
  obtain ⟨yv,l⟩:=exx (T.yOf C k j)
  rw [<-l]
  have ah:=hid l
  clear l
  refine bkq hK s1 (h:=fun hHeld=>?_)
  clear hK K
  refine rdq 11 (h:=fun K hK=>?_)
  go_simp
  obtain ⟨w53,hw⟩:=exx (World.alloc w52 (Obj.cells #[Value.int .i64 yv] 3))
  have kb:=alx hw
  have n1c:w53.cell? ⟨w52.heap.size,0,none⟩=some (Value.int .i64 yv):=by rw [hw]; simp
  rw [<-hw];clear hw
  obtain ⟨nb_n1c,b⟩:=exx w52.heap.size
  rw [<-b] at n1c ⊢;clear b;replace hB:=zak hB (Nat.le_of_lt hl) kb;replace hl:=Nat.lt_of_lt_of_le hl kb.size;replace hT:=hT.on kb;replace q0:=cellS kb q0;replace s1:=cellS kb s1;replace a:=a.on kb;replace hcb:=cellS kb hcb;clear kb
 rotate_left
 focus
  go_simp
  go_wp2_with fail
  refine (zdO CA M cc cb k la ln C w51 a hcb a8 z).mono ?_
  rintro e w52 ⟨rfl,kb⟩
  replace hB:=zak hB (Nat.le_of_lt hl) kb;replace hl:=Nat.lt_of_lt_of_le hl kb.size;replace hT:=hT.on kb;replace q0:=cellS kb q0;replace s1:=cellS kb s1;replace a:=a.on kb;replace hcb:=cellS kb hcb;clear kb;rw [hY.out]
  obtain ⟨yv,l⟩:=exx (T.yOf C k j)
  rw [<-l]
  have ah:=hid l
  clear l
  refine bkq hK s1 (h:=fun hHeld=>?_)
  clear hK K
  refine rdq2 5 11 (h:=fun K hK=>?_) (h2:=fun K hK=>?_)
  focus
   go_simp
   refine bkq hK s1 (h:=fun hHeld=>?_)
   clear hK K
   refine rdq 11 (h:=fun K hK=>?_)
   go_simp
   obtain ⟨w53,hw⟩:=exx (World.alloc w52 (Obj.cells #[Value.int .i64 yv] 3))
   have kb:=alx hw
   have n1c:w53.cell? ⟨w52.heap.size,0,none⟩=some (Value.int .i64 yv):=by rw [hw]; simp
   rw [<-hw];clear hw
   obtain ⟨nb_n1c,b⟩:=exx w52.heap.size
   rw [<-b] at n1c ⊢;clear b;replace hB:=zak hB (Nat.le_of_lt hl) kb;replace hl:=Nat.lt_of_lt_of_le hl kb.size;replace hT:=hT.on kb;replace q0:=cellS kb q0;replace s1:=cellS kb s1;replace a:=a.on kb;replace hcb:=cellS kb hcb;clear kb
  rotate_left
  focus
   go_simp
   obtain ⟨w53,hw⟩:=exx (World.alloc w52 (Obj.cells #[Value.int .i64 yv] 3))
   have kb:=alx hw
   have n1c:w53.cell? ⟨w52.heap.size,0,none⟩=some (Value.int .i64 yv):=by rw [hw]; simp
   rw [<-hw];clear hw
   obtain ⟨nb_n1c,b⟩:=exx w52.heap.size
   rw [<-b] at n1c ⊢;clear b;replace hB:=zak hB (Nat.le_of_lt hl) kb;replace hl:=Nat.lt_of_lt_of_le hl kb.size;replace hT:=hT.on kb;replace q0:=cellS kb q0;replace s1:=cellS kb s1;replace a:=a.on kb;replace hcb:=cellS kb hcb;clear kb
   refine bkq hK s1 (h:=fun hHeld=>?_)
   clear hK K
   refine rdq 5 (h:=fun K hK=>?_)
   go_simp
  rotate_left
 rotate_left 2
 all_goals
  refine bkq hK s1 (h:=fun hHeld=>?_)
  clear hK K
  refine rdq 12 (h:=fun K hK=>?_)
  have H:Own w53 (g+1) 3 1 fk j (fun i _=>.int .i64 (T.yOf C k i)):=by
   have:=hT.own k hlt
   rw [if_neg (Nat.lt_irrefl k),if_pos rfl,<-O.out] at this
   exact this
  have ao:g+1<=w53.heap.size:=hT.row.lt
  rw [ah.out] at n1c
  refine zan (by rfl) (.tmp 33) (.tmp 39) (by rfl) (g+1) fk j (fun i=>T.yOf C k i) (by rfl) H ao (by omega) nb_n1c 1 (by rfl) n1c ?_
  intro v9 w9 o1 o2 o3
  obtain ⟨A9,c9,aj⟩:=o1.shape
  subst aj
  have X:∀ q,fk.ownBlock=some q->g+1<=q:=fun q e=>(H.lt q e).1
  have q9:w9.cell? ⟨g,k,none⟩=some fk:=zac q0 o2 fun e=>by have:=X g e; omega
  have z9:w9.frozen? ⟨g,k,none⟩=false:=by
   have:=(hT.row.of_block (o2.block g hT.row.lt fun e=>by have:=X g e.symm; omega)).frozen k
   exact this
  have ag:Below (w.heap.size+1) W2 w9:=hB.grown o2 (Nat.le_of_lt hl) fun q e=>by have:=X q e; omega
  have am:w.heap.size+1<w9.heap.size:=Nat.lt_of_lt_of_le hl o2.size
  have s1:=zac s1 o2 fun e=>absurd (a4.out _ e) (Nat.lt_irrefl _)
  have G:=hid (hT.put (by omega) hlt o1 (by rw [<-O.out]; exact o2) (by rw [<-O.out]; exact o3))
  refine bkq hK s1 (h:=fun hHeld=>?_)
  clear hK K
  refine tkq 13 (h:=?_)
  refine rdq 14 (h:=fun K hK=>?_)
  go_simp
  replace s1:=zaa (p:=⟨g,k,none⟩) (u:=.slice A9 (j+1) c9) s1 a5
  refine bkq hK s1 (h:=fun hHeld=>?_)
  clear hK K
  refine wpAnyH_done (by kernel_rfl) ?_ _
  clear hHeld
  have hN:=G.out.congr (n':=fun v=>if v<k then T.el v else if v=k then j+1 else 0) (x':=T.yOf C) (fun v _=>by
    by_cases e:v=k
    ·subst e; simp
    ·simp [e]) (fun v _ q hq=>by
    by_cases e:v=k
    ·rw [if_pos e,e]
    ·rw [if_neg e])
  have HN:=hid hN
  have az:=ag.setCell (p:=⟨g,k,none⟩) aq (.slice A9 (j+1) c9)
  have al:w.heap.size+1<(w9.setCell ⟨g,k,none⟩ (.slice A9 (j+1) c9)).heap.size:=by simp; exact am
  clear G hN q9 z9 ag
  go_wp2
  go_roundg (gk - 1)
  case measure=>omega
  case rel=>exact ⟨j+1,_,by go_num,by omega,by omega,HN.out,az,al⟩
open Go.ChangeShapes Go.WideShapes Go.ChangeAt
def MargPost (P M : Int) (k : Nat) (f : Nat → Int) (N : Int) (n : Nat) (ln : Nat → Nat) (V : Nat → Nat → Int) (m : Nat) (lc : Nat → Nat) (C : Nat → Nat → Int) (w : World) (e : Ending) (w' : World) : Prop :=
  Below w.heap.size w w' ∧ ∃ u, FirstErr (CodeErrs P M k f N n ln V) u ∧ ((u ≠ 0 ∧ e = .returned (.tuple #[.slice none 0 0, .int .i64 u])) ∨
    (u = 0 ∧ ∃ P' M' N' : Nat, P = P' ∧ M = M' ∧ N = N' ∧ ((¬ TabOk (P' ^ M') N' m lc ∧ e = .returned (.tuple #[.slice none 0 0, .int .i64 3])) ∨
      (TabOk (P' ^ M') N' m lc/\¬ PricedP m lc C/\e=.returned (.tuple #[.slice none 0 0,.int .i64 6])) ∨
      (TabOk (P' ^ M') N' m lc/\PricedP m lc C/\∃ pv R,SpanF (P' ^ M') n N' pv R/\SameSp (P' ^ M') (addF P' M') (mulF P' M' fun i=>(f i).toNat) N' n n (natT V) R/\(∀ i j,i<j->j<n->lE (R i) N'≠lE (R j) N') /\
        ((¬ SizeIn (P' ^ M') n N' pv R/\e=.returned (.tuple #[.slice none 0 0,.int .i64 8])) ∨
         (SizeIn (P' ^ M') n N' pv R/\∃ (U:Trel) (g:Nat) (F:Nat->Value),U.Proper/\U.n=N'/\U.Fit lc/\(∀ x,U.PathW x↔InSp (P' ^ M') (addF P' M') (mulF P' M' fun i=>(f i).toNat) n N' (natT V) x) /\
           e=.returned (.tuple #[.slice (some ⟨g,0,none⟩) N' N',.int .i64 0])/\w.heap.size<=g/\IntTab w' g (g+1) N' F (fun _=>P' ^ M') (fun i a=>U.mrE (U.yOf C) i (U.el i) a)))))))
theorem zhP (P M:Int) (A:Option Addr) (k c:Nat) (f:Nat->Int) (N:Int) (TC:Option Addr) (n d:Nat) (ln:Nat->Nat) (V:Nat->Nat->Int) (CA:Option Addr) (m cc:Nat) (lc:Nat->Nat) (C:Nat->Nat->Int) (w:World) (hr:IntsR w w.heap.size A k f) (h:IntRows w TC n ln V) (hC:IntRows w CA m lc C) :
  Calls Tryz.prog 49 #[.agg #[.int .i64 P,.int .i64 M,.slice A k c,.int .i64 N,.slice TC n d],.slice CA m cc] w (MargPost P M k f N n ln V m lc C w):=by
 have HI:=hid hr
 have HT:=hid h
 have bs:=hid hC
 clear hr h hC
 obtain ⟨w0,ao,hB,rf⟩:=zay w (.int .i64 P) (.int .i64 M) (.slice A k c) (.int .i64 N) (.slice TC n d) 27
 have c5:w0.heap.size=w.heap.size+1:=by rw [ao]; simp
 have rc0:(w0.alloc (Obj.cells #[.slice CA m cc] 25)).cell? ⟨w0.heap.size,0,none⟩=some (.slice CA m cc):=by simp
 have kb:=aly w0 (Obj.cells #[.slice CA m cc] 25)
 obtain ⟨w1,an⟩:=exx (w0.alloc (Obj.cells #[.slice CA m cc] 25))
 rw [<-an] at rc0 kb;rw [c5] at rc0;replace rf:=zab rf kb;replace hB:=onS hB kb;clear kb
 go_enter Tryz.func49, Tryz.ntmps49
 go_upto_region 1 with fail
 rw [<-ao,<-an];clear ao an c5
 obtain ⟨b1,b8⟩:=exx (w.heap.size+1)
 obtain ⟨b0,ba⟩:=exx w.heap.size
 rw [<-ba] at rf;rw [<-b8] at rc0;rw [<-b8,<-ba];clear ba b8
 have B:Hid (∀ X,Below w1.heap.size w1 X->(X.cell? ⟨b0,0,none⟩=some (.int .i64 P)/\X.cell? ⟨b0,1,none⟩=some (.int .i64 M)/\X.cell? ⟨b0,2,none⟩=some (.slice A k c)/\X.cell? ⟨b0,3,none⟩=some (.int .i64 N)/\X.cell? ⟨b0,4,none⟩=some (.slice TC n d))/\X.cell? ⟨b1,0,none⟩=some (.slice CA m cc)):=hid fun X hx =>
  ⟨⟨(zab rf hx).cell (i:=0) (by omega),(zab rf hx).cell (i:=1) (by omega),(zab rf hx).cell (i:=2) (by omega),(zab rf hx).cell (i:=3) (by omega),(zab rf hx).cell (i:=4) (by omega)⟩,cellS hx rc0⟩
 have HB:=hid hB
 clear hB rf rc0
 obtain ⟨⟨q0,q1,q2,q3,q4⟩,q5⟩:=B.out _ (Below.refl _ _)
 go_wp2_with fail
 refine (zeI P M A k c f N TC n d ln V CA m cc lc C w1 (HI.out.on HB.out) (HT.out.on HB.out) (bs.out.on HB.out)).mono ?_
 rintro e w2 ⟨kb,u,hu,he⟩
 have HU:=hid hu
 have KB:=hid kb
 clear kb hu q0 q1 q2 q3 q4 q5
 rcases he with ⟨O,rfl⟩ | ⟨rfl,P',M',N',rfl,rfl,rfl,⟨ck,rfl⟩ | ⟨ch,gf,cn,rfl⟩⟩
 ·have bw:(u != 0)=true:=by simpa using O
  have ap:(u == 0)=false:=by simpa using O
  have dj:=hid O
  clear O
  go_wp2
  go_ret2
  exact ⟨onS HB.out KB.out,u,HU.out,.inl ⟨dj.out,rfl⟩⟩
 ·have bw:((3:Int) != 0)=true:=by simp
  have ap:((3:Int) == 0)=false:=by simp
  have dm:=hid ck
  clear ck
  go_wp2
  go_ret2
  exact ⟨onS HB.out KB.out,0,HU.out,.inr ⟨rfl,P',M',N',rfl,rfl,rfl,.inl ⟨dm.out,rfl⟩⟩⟩
 have D:=hid ch
 have aa:=hid cn
 clear ch cn
 have bw:((0:Int) != 0)=false:=by simp
 have d0:((0:Int) == 0)=true:=by simp
 obtain ⟨P2,M2,N2,e1,e2,e3,hC⟩:=za1 HI.out HT.out HU.out
 obtain rfl:P'=P2:=by omega
 obtain rfl:M'=M2:=by omega
 obtain rfl:N'=N2:=by omega
 have HC:=hid hC
 have df:=hC.ln2
 have hm:m<=64:=by have:=D.out.1; omega
 clear hC e1 e2 e3
 obtain ⟨pe,ar⟩:∃ pe:Int,pe=if PricedP m lc C then 0 else 6:=⟨_,rfl⟩
 have q5:=(B.out _ KB.out).2
 go_wp2_with fail
 refine (zcB CA m cc lc C w2 (bs.out.on (onS HB.out KB.out)) (by omega)).mono ?_
 rintro e w3 ⟨he,kb⟩
 rw [<-ar] at he
 subst he
 have aj:=hid ar
 have o:=hid (aa.out.on kb)
 replace KB:=hid (onS KB.out kb);clear kb ar aa q5
 by_cases hpr:PricedP m lc C
 rotate_left
 ·have h6:pe=6:=by rw [aj.out,if_neg hpr]
  subst h6
  have cz:((6:Int) != 0)=true:=by simp
  have dl:=hid hpr
  clear hpr aj
  go_wp2
  go_ret2
  exact ⟨onS HB.out KB.out,0,HU.out,.inr ⟨rfl,P',M',N',rfl,rfl,rfl,.inr (.inl ⟨D.out,dl.out,rfl⟩)⟩⟩
 have h6:pe=0:=by rw [aj.out,if_pos hpr]
 subst h6
 have bp:=hid hpr
 clear hpr aj
 obtain ⟨⟨q0,q1,q2,q3,q4⟩,q5⟩:=B.out _ KB.out
 go_wp2_with fail
 refine (zcN (P':Int) (M':Int) A k c f (N':Int) TC n d ln V w3 (HI.out.on (onS HB.out KB.out)) (HT.out.on (onS HB.out KB.out))).mono ?_
 rintro e w4 ⟨kb,u2,bz,he⟩
 obtain rfl:u2=0:=FirstErr.unique bz HU.out
 replace o:=hid (o.out.on kb);replace KB:=hid (onS KB.out kb);clear kb bz q0 q1 q2 q3 q4 q5
 rcases he with ⟨O,_⟩ | ⟨_,P2,M2,N2,cj,cm,cl,pv,R,a4,a3,ai,⟨a2,rfl⟩ | ⟨a2,T,y,WA,WB,wc,wd,ah,ag,a5,a6,rfl⟩⟩
 ·exact absurd rfl O
 ·obtain rfl:P'=P2:=by omega
  obtain rfl:M'=M2:=by omega
  obtain rfl:N'=N2:=by omega
  have cy:((8:Int) != 0)=true:=by simp
  have bn:=hid a4
  have bm:=hid a3
  have br:=hid ai
  have bl:=hid a2
  clear a4 a3 ai a2 cj cm cl
  go_wp2
  go_ret2
  exact ⟨onS HB.out (onS KB.out ((Below.refl _ _).alloc (Nat.le_refl _) _)),0,HU.out,.inr ⟨rfl,P',M',N',rfl,rfl,rfl,.inr (.inr ⟨D.out,bp.out,pv,R,bn.out,bm.out,br.out,.inl ⟨bl.out,rfl⟩⟩)⟩⟩
 obtain rfl:P'=P2:=by omega
 obtain rfl:M'=M2:=by omega
 obtain rfl:N'=N2:=by omega
 have bn:=hid a4
 have bm:=hid a3
 have br:=hid ai
 have bl:=hid a2
 have hL:=fieldLaws HC.out.fld
 have cg:=a5.proper ag
 have bb:(T.re y).n=N':=ah.nN
 have HN:=hid bb
 have z:Hid ((T.re y).Fit lc):=hid fun i hi j hj=>by
  have h1:=zhb hL ah a5 hi hj
  have h2:=D.out.2 i (by rw [D.out.1,<-bb]; exact hi)
  rw [h2]
  exact h1
 have H:Hid (∀ x,(T.re y).PathW x↔InSp (P' ^ M') (addF P' M') (mulF P' M' fun i=>(f i).toNat) n N' (natT V) x):=hid fun x=>zf2 hL a4 ah ag a5 a3 x
 have cx:=hid (a6.reads ag a5)
 have a8:=hid cg
 have c0:T.nw=(T.re y).nw:=rfl
 have c2:T.n=(T.re y).n:=rfl
 rw [c0,c2]
 obtain ⟨U,hU⟩:=exx (T.re y)
 rw [<-hU] at z H cx a8 HN ⊢;clear a4 a3 ai a2 cj cm cl ah ag a5 a6 cg bb hL c0 c2 hU
 go_upto_region 9 with fail
 have rd:=World.rowIs_alloc w4 #[Value.slice WA U.nw wc,Value.slice WB U.n wd] 53 (fun j=>if j=0 then .slice WA U.nw wc else .slice WB U.n wd) (fun j hj=>by
  match j,hj with
  | 0,_=>rfl
  | 1,_=>rfl)
 have kb:=aly w4 (Obj.cells #[Value.slice WA U.nw wc,Value.slice WB U.n wd] 53)
 obtain ⟨w5,bu⟩:=exx (w4.alloc (Obj.cells #[Value.slice WA U.nw wc,Value.slice WB U.n wd] 53))
 rw [<-bu] at rd kb ⊢
 obtain ⟨tb,c3⟩:=exx w4.heap.size
 rw [<-c3] at rd ⊢
 have t0:=rd.cell (i:=0) (by simp)
 have t1:=rd.cell (i:=1) (by simp)
 rw [if_pos rfl] at t0
 rw [if_neg (by omega)] at t1
 have b:=hid (cx.out.1.on kb)
 replace o:=hid (o.out.on kb);replace KB:=hid (onS KB.out kb);clear kb rd bu c3
 go_upto_region 10 with fail
 have kb:=aly w5 (Obj.cells #[] 158)
 obtain ⟨w6,bt⟩:=exx (w5.alloc (Obj.cells #[] 158))
 rw [<-bt] at kb ⊢
 obtain ⟨sb,c4⟩:=exx w5.heap.size
 rw [<-c4];replace kb:=onS kb (Below.refl w6.heap.size w6).drew;replace t0:=cellS kb t0;replace t1:=cellS kb t1;replace b:=hid (b.out.on kb);replace o:=hid (o.out.on kb);replace KB:=hid (onS KB.out kb);clear kb bt c4
 refine wp_region_held_drew (S:=fun X=>X.cell? ⟨tb,0,none⟩=some (.slice WA U.nw wc)/\X.cell? ⟨tb,1,none⟩=some (.slice WB U.n wd)) (by kernel_rfl) ⟨t0,t1⟩ (fun hHeld=>?_)
 obtain ⟨w7,hw⟩:=exx (World.drew w6)
 rw [<-hw] at hHeld t0 t1 b o KB ⊢;clear hw
 refine tkq 0 (h:=tkq 1 (h:=tkq 2 (h:=tkq 3 (h:=?_))))
 clear hHeld
 refine rdq 4 (h:=fun K hK=>?_)
 go_simp
 have az:m=U.n:=by rw [HN.out]; exact D.out.1
 have ab:=hid (Costs.of az z.out bp.out)
 have q5:=(B.out w7 KB.out).2
 refine (zgT U WA WB CA wc wd m cc b1 lc C w7 b.out a8.out.shape (bs.out.on (onS HB.out KB.out)) az z.out q5).mono ?_
 rintro e w8 ⟨g1,F1,rfl,_,bd,kb⟩
 obtain ⟨Y,hY⟩:=exx (U.yOf C)
 rw [<-hY] at ab bd
 have di:=hid hY
 have G:=hid (bd.rows fun i hi j hj=>by have:=ab.out i hi j hj; omega)
 replace t0:=cellS kb t0;replace t1:=cellS kb t1;replace b:=hid (b.out.on kb);replace o:=hid (o.out.on kb);replace KB:=hid (onS KB.out kb);clear kb bd q5 az hY
 refine bkq hK ⟨t0,t1⟩ (h:=fun hHeld=>?_)
 clear hK K hHeld
 refine rdq 5 (h:=fun K hK=>?_)
 go_simp
 refine (zgS U WA WB (some ⟨g1,0,none⟩) wc wd U.n Y w8 b.out a8.out.shape.E0 G.out ab.out).mono ?_
 rintro e w9 ⟨g2,F2,rfl,_,ci,kb⟩
 have bj:=hid ci
 replace t0:=cellS kb t0;replace t1:=cellS kb t1;replace b:=hid (b.out.on kb);replace o:=hid (o.out.on kb);replace KB:=hid (onS KB.out kb);clear kb ci G
 refine bkq hK ⟨t0,t1⟩ (h:=fun hHeld=>?_)
 clear hK K
 refine tkq 6 (h:=tkq 7 (h:=tkq 8 (h:=tkq 9 (h:=tkq 10 (h:=?_)))))
 clear hHeld
 refine wpAnyH_done (by kernel_rfl) ?_ _
 obtain ⟨q,hq⟩:=exx (P' ^ M')
 have HQ:=hid hq
 have bo:Hid (1<=q/\q<=256):=hid (by
  have h1:=HC.out.fld.1
  rw [hq]
  exact ⟨Nat.pow_pos (by have:=h1.1; omega),h1.2.2.2⟩)
 clear hq
 have q3:=(B.out _ KB.out).1.2.2.2.1
 have c7:=fun W=>zaf (P:=Tryz.prog) 25 22 _ 24 Tryz.underlying25 Tryz.infoInts rfl (N':Int) (by omega) (by omega) (by omega) W
 simp only [Int.toNat_natCast] at c7
 go_upto_region 14 with fail
 clear q3
 have ad:=World.rowIs_made w9 (.slice none 0 0) N' 22
 have kb:=aly w9 (Obj.cells (madeCells #[Value.slice none 0 0] N') 22)
 obtain ⟨w10,Z⟩:=exx (w9.alloc (Obj.cells (madeCells #[Value.slice none 0 0] N') 22))
 rw [<-Z] at ad kb ⊢
 obtain ⟨g,hg⟩:=exx w9.heap.size
 rw [<-hg] at ad ⊢
 have HG:=hid hg
 have cu:Hid (IntTab w10 g (g+1) N' (fun _=>.slice none 0 0) (fun v=>if v<0 then q else 0) (U.mrX Y 0 0)):=hid ((zaI (x:=U.mrX Y 0 0) ad).congr (fun v _=>(if_neg (by omega)).symm) (fun v _ k hk=>rfl))
 have ct:=hid kb
 replace t0:=cellS kb t0;replace t1:=cellS kb t1;clear Z ad kb hg c7
 have cw:=hid a8.out.shape
 have d5:=cw.out.n64
 go_wp2
 clear t0 t1
 go_loopg [56] U.n (fun gg iv wx=>∃ (i:Nat) (F:Nat->Value),iv=.int .i64 (i:Nat)/\i<=U.n/\U.n<=i+gg/\Hid (IntTab wx g (g+1) N' F (fun v=>if v<i then q else 0) (U.mrX Y i 0))/\Hid (Below w9.heap.size w9 wx))
 case atStart=>exact ⟨0,_,rfl,by omega,by omega,cu,ct⟩
 clear cu ct
 obtain ⟨i,F,rfl,hi,dw,HT,KX⟩:=hrel
 have dx:(0:Int)<=(i:Int):=by omega
 obtain ⟨gK,db⟩:=exx gk
 subst db
 obtain ⟨w11,am⟩:=exx wr
 subst am
 by_cases hlt:i<U.n
 rotate_left
 ·have b2:¬ (i:Int)<(U.n:Int):=by omega
  obtain rfl:i=U.n:=by omega
  have dk:Hid (IntTab w11 g (g+1) N' F (fun _=>P' ^ M') (fun i a=>U.mrE (U.yOf C) i (U.el i) a)):=hid (HT.out.congr (fun v hv=>by rw [if_pos (by rw [HN.out]; exact hv),HQ.out]) (fun v hv a _=>by
   rw [di.out]
   exact if_pos (by rw [HN.out]; exact hv)))
  have dq:Hid (w.heap.size<=g):=hid (by have:=HG.out; have:=KB.out.size; have:=HB.out.size; omega)
  clear HT
  go_wp2
  go_ret2
  exact ⟨onS HB.out (onS KB.out KX.out),0,HU.out,.inr ⟨rfl,P',M',N',rfl,rfl,rfl,.inr (.inr ⟨D.out,bp.out,pv,R,bn.out,bm.out,br.out,.inr ⟨bl.out,U,g,F,a8.out,HN.out,z.out,H.out,rfl,dq.out,dk.out⟩⟩)⟩⟩
 have b2:(i:Int)<(U.n:Int):=by omega
 have J:i<N':=by rw [<-HN.out]; exact hlt
 have d7:(i:Int)<(N':Int):=by omega
 obtain ⟨eb,eo,E,ec,dh,de,x0w,_,_,b7,_⟩:=b.out.sec hlt
 subst dh
 obtain ⟨el,af⟩:=exx (U.el i)
 have dd:el<=262144:=by rw [af]; exact cw.out.elb hlt
 rw [<-af] at x0w b7
 have bq:=hid af
 have dr:=hid b7
 have x0:=cellS KX.out x0w
 clear b7 x0w af de
 go_upto_region 17 with fail
 clear x0
 go_wp2_with fail
 refine (zcz w11).mono ?_
 rintro e w12 ⟨rfl,kb⟩
 have cs:=hid kb
 clear kb
 go_wp2_with fail
 have kb:=(Below.refl w12.heap.size w12).alloc (Nat.le_refl _) (Obj.cells #[Value.int .i64 4611686018427387904] 3)
 have hc:=(tbox2:(w12.alloc (Obj.cells #[Value.int .i64 4611686018427387904] 3)).cell? ((⟨w12.heap.size,0,none⟩:Addr).add 0)=some (.int .i64 4611686018427387904))
 rw [zb1,Nat.zero_add] at hc
 obtain ⟨w13,hw⟩:=exx (w12.alloc (Obj.cells #[Value.int .i64 4611686018427387904] 3))
 rw [<-hw] at kb hc ⊢
 obtain ⟨nb,ay⟩:=exx w12.heap.size
 rw [<-ay] at hc
 try rw [<-ay]
 have bi:=hid (onS cs.out kb)
 clear kb hw ay
 refine (zcd (o.out.on (onS KX.out bi.out))).mono ?_
 rintro e w14 ⟨he,kb⟩
 rw [<-HQ.out] at he
 subst he
 have ac:=hid (cellS kb hc)
 have bh:=hid (onS bi.out kb)
 clear kb hc
 go_wp2_with fail
 refine (ze4 nb (.int .i64 4611686018427387904) q 1 w14 ac.out rfl bo.out.1 (Nat.le_trans bo.out.2 (by omega))).mono ?_
 rintro e w15 ⟨gr,rfl,ca,a0,kb⟩
 have a9:Hid (Own w15 w11.heap.size 3 1 (.slice (some ⟨gr,0,none⟩) q q) q (fun _ _=>.int .i64 4611686018427387904)):=hid (zbe a0 (Nat.le_trans bh.out.size ca) (by have:=bo.out.2; unfold maxLen; omega))
 have a7:=hid (onS bh.out kb)
 clear kb a0 ca cs bi bh ac
 have r0:=(HT.out.on a7.out).row.cell J
 have z0:=(HT.out.on a7.out).row.frozen i
 go_upto_region 18 with fail
 clear r0 z0
 have hn:=HT.out.fresh (by omega) HT.out.row.lt a7.out J (y:=fun _=>4611686018427387904) a9.out
 have kb:=(onS KX.out a7.out).setCell (p:=⟨g,i,none⟩) (Nat.le_of_eq HG.out.symm) (.slice (some ⟨gr,0,none⟩) q q)
 obtain ⟨w16,hw⟩:=exx (w15.setCell ⟨g,i,none⟩ (.slice (some ⟨gr,0,none⟩) q q))
 rw [<-hw] at hn kb ⊢
 obtain ⟨F2,bf⟩:∃ F2,F2=fun u=>if u=i then Value.slice (some ⟨gr,0,none⟩) q q else F u:=⟨_,rfl⟩
 rw [<-bf] at hn
 have ak:Hid (F2 i=.slice (some ⟨gr,0,none⟩) q q):=hid (by rw [bf]; exact if_pos rfl)
 have cv:Hid (IntTab w16 g (g+1) N' F2 (fun v=>if v<i+1 then q else 0) (U.mrX Y i 0)):=hid (hn.congr (fun v hv=>by
  by_cases e:v=i
  ·subst e
   rw [if_pos rfl,if_pos (by omega)]
  ·have h1:(v<i)↔(v<i+1):=by omega
   simp only [if_neg e,h1]) (fun v hv k hk=>by
  by_cases e:v=i
  ·subst e
   rw [if_pos rfl,Trel.mrX_at]
   rfl
  ·rw [if_neg e]))
 have cr:=hid kb
 clear hw hn kb bf HT a7 a9 KX
 go_wp2
 go_loopg [72] el (fun gg jv wx=>∃ j:Nat,jv=.int .i64 (j:Nat)/\j<=el/\el<=j+gg/\Hid (IntTab wx g (g+1) N' F2 (fun v=>if v<i+1 then q else 0) (U.mrX Y i j))/\Hid (Below w9.heap.size w9 wx))
 case atStart=>exact ⟨0,rfl,by omega,by omega,cv,cr⟩
 clear cv cr
 obtain ⟨j,rfl,hj,du,HT,KX⟩:=hrel
 have dv:(0:Int)<=(j:Int):=by omega
 obtain ⟨w17,al⟩:=exx wr
 subst al
 by_cases hlj:j<el
 rotate_left
 ·have b3:¬ (j:Int)<(el:Int):=by omega
  obtain rfl:el=j:=by omega
  have bk:Hid (IntTab w17 g (g+1) N' F2 (fun v=>if v<i+1 then q else 0) (U.mrX Y (i+1) 0)):=hid (HT.out.congr (fun v _=>rfl) (fun u _ v _=>by rw [bq.out]; exact Trel.mrX_next i u v))
  clear HT
  go_wp2
  go_roundg (gK - 1)
  case measure=>omega
  case rel=>exact ⟨i+1,F2,by go_num,by omega,by omega,bk,KX⟩
 have b3:(j:Int)<(el:Int):=by omega
 have ae:j<U.el i:=by rw [<-bq.out]; exact hlj
 obtain ⟨fb,fo,dg,dc,e0,e1,e2⟩:=zba ((Rd.below dr.out KX.out (Nat.le_refl _)).mono KX.out.size) hlj
 subst dg
 have b6:=z.out i hlt j ae
 have b4:lc i=q:=by rw [HQ.out]; exact D.out.2 i (by rw [D.out.1]; exact J)
 obtain ⟨la,c9⟩:∃ n:Nat,(n:Int)=U.lb i j:=⟨(U.lb i j).toNat,by omega⟩
 have I:la<q:=by omega
 have c8:(la:Int)<(q:Int):=by omega
 have d6:(0:Int)<=(la:Int):=by omega
 obtain ⟨rb,ro,rd,cp,d4,aq,rq,rz⟩:=HT.out.at (v:=i) J (k:=la) (by rw [if_pos (Nat.lt_succ_self i)]; exact I)
 rw [ak.out] at cp
 injection cp with k1 k3 k4
 injection k1 with k1
 injection k1 with k1 k2
 subst k1 k2
 clear k3 k4
 obtain ⟨tr,tq,tdp,co,_,d3,tqw,_⟩:=bj.out.at (v:=i) hlt (k:=j) ae
 have r:=HT.out.row.cell J
 have l:=cellS KX.out (bj.out.row.cell hlt)
 have b5:=bj.out.row.lt
 have d8:=HT.out.row.lt
 rw [ak.out] at r;rw [co] at l
 change w17.cell? ⟨g2,i,none⟩=some (.slice (some ⟨tr,tq,none⟩) (U.el i) tdp) at l
 rw [<-bq.out] at l
 have d1:=Trel.mrE_cost ab.out hlt j (Nat.le_of_lt ae) la
 have d2:=Trel.thr_cost ab.out hlt ae
 have s:Hid (∀ u v,updI (U.mrX Y i j) i la (min (U.mrE Y i j la) (U.thr Y i j)) u v=U.mrX Y i (j+1) u v):=hid fun u v=>Trel.mrX_put (T:=U) (y:=Y) i j u v (by omega)
 have rq:w17.cell? ⟨gr,0+la,none⟩=some (.int .i64 (U.mrX Y i j i la)):=rq
 rw [Trel.mrX_at,Nat.zero_add] at rq;rw [Nat.zero_add] at rz
 have tqx:w17.cell? ⟨tr,tq+j,none⟩=some (.int .i64 (U.thr Y i j)):=cellS KX.out tqw
 obtain ⟨av,cf⟩:=exx (U.mrE Y i j la)
 obtain ⟨bv,ce⟩:=exx (U.thr Y i j)
 rw [<-cf] at rq d1 s;rw [<-ce] at tqx d2 s
 have dt:=hid d1
 have ds:=hid d2
 rw [<-c9] at e1
 obtain ⟨fv,cb⟩:=exx (U.fr i j)
 obtain ⟨tv,c1⟩:=exx (U.to i j)
 rw [<-cb] at e0;rw [<-c1] at e2
 have ax:g≠gr:=by omega
 have da:=HG.out
 have aw:g2≠gr:=by omega
 have au:tr≠gr:=by omega
 have a1:w17.heap.size≠gr:=by omega
 have dp:Hid (w9.heap.size<=gr):=hid (by omega)
 clear co cf ce cb c1 c9 b6 d1 d2 tqw d3 b5 d8 da d4 aq b4 dc
 go_upto_region 21 with fail
 obtain ⟨OB,be⟩:=exx ((Obj.cells #[.int .i64 fv,.int .i64 (la:Int),.int .i64 tv] 90))
 have s1:(w17.alloc OB).cell? ⟨w17.heap.size,1,none⟩=some (.int .i64 (la:Int)):=by subst be; exact tbox (Below.refl _ _) rfl
 have kb:=aly w17 OB
 rw [<-be]
 obtain ⟨w18,Q⟩:=exx (w17.alloc OB)
 rw [<-Q] at s1 kb ⊢
 obtain ⟨bx,cd⟩:=exx w17.heap.size
 rw [<-cd] at s1 a1 ⊢
 have kd:Below w18.heap.size w18 (World.drew w18):=(Below.refl _ _).drew
 have L:=hid (onS kb kd)
 replace s1:=cellS kd s1
 have r:=cellS L.out r
 have l:=cellS L.out l
 have tqx:=cellS L.out tqx
 have rq:=cellS L.out rq
 clear Q be kb kd e0 e1 e2 cd
 refine wp_region_held_drew (S:=fun X=>X.cell? ⟨g,i,none⟩=some (.slice (some ⟨gr,0,none⟩) q q)/\X.cell? ⟨g2,i,none⟩=some (.slice (some ⟨tr,tq,none⟩) el tdp)/\X.cell? ⟨bx,1,none⟩=some (.int .i64 (la:Int))/\X.cell? ⟨tr,tq+j,none⟩=some (.int .i64 bv)) (by kernel_rfl) ⟨r,l,s1,tqx⟩ (fun hHeld=>?_)
 obtain ⟨w19,hw⟩:=exx (World.drew w18)
 rw [<-hw] at hHeld r l s1 tqx rq L ⊢;clear hw
 refine tkq 0 (h:=tkq 1 (h:=tkq 2 (h:=tkq 3 (h:=tkq 4 (h:=tkq 5 (h:=tkq 6 (h:=tkq 7 (h:=tkq 8 (h:=tkq 9 (h:=tkq 10 (h:=tkq 11 (h:=tkq 12 (h:=tkq 13 (h:=tkq 15 (h:=tkq 16 (h:=tkq 17 (h:=tkq 18 (h:=tkq 19 (h:=tkq 20 (h:=tkq 21 (h:=?_)))))))))))))))))))))
 clear hHeld
 refine rdq 14 (h:=fun K hK=>?_)
 go_simp
 refine bkq hK ⟨r,l,s1,tqx⟩ (h:=fun hHeld=>?_)
 clear hK K hHeld
 refine rdq 22 (h:=fun K hK=>?_)
 go_simp
 go_wp2_with fail
 refine (zdf av bv w19 dt.out ds.out).mono ?_
 rintro e w20 ⟨rfl,kb⟩
 replace r:=cellS kb r;replace l:=cellS kb l;replace s1:=cellS kb s1;replace tqx:=cellS kb tqx;replace rq:=cellS kb rq
 have bg:=hid (onS L.out kb)
 clear kb L
 refine bkq hK ⟨r,l,s1,tqx⟩ (h:=fun hHeld=>?_)
 clear hK K
 refine tkq 23 (h:=?_)
 clear hHeld
 refine rdq 24 (h:=fun K hK=>?_)
 have hT:=HT.out.on bg.out
 have zf:w20.frozen? ⟨gr,la,none⟩=false:=by
  obtain ⟨b9,o9,d9,cq,_,_,_,z9⟩:=hT.at (v:=i) J (k:=la) (by rw [if_pos (Nat.lt_succ_self i)]; exact I)
  rw [ak.out] at cq
  injection cq with e1 _ _
  injection e1 with e1
  injection e1 with e1 e2
  subst e1 e2
  rwa [Nat.zero_add] at z9
 obtain ⟨nv,c6⟩:=exx (min av bv)
 rw [<-c6] at s ⊢;clear c6
 have bc:=hT.set (y:=nv) (by omega) J (k:=la) (by rw [if_pos (Nat.lt_succ_self i)]; exact I) (by rw [if_pos (Nat.lt_succ_self i)]; exact ak.out)
 rw [Nat.zero_add] at bc
 have k9:=(onS KX.out bg.out).setCell (p:=⟨gr,la,none⟩) dp.out (.int .i64 nv)
 have dn:=hid (bc.congr (x':=U.mrX Y i (j+1)) (fun v _=>rfl) (fun u _ v _=>s.out u v))
 have KN:=hid k9
 clear hT bc k9
 go_simp
 clear zf rq
 refine bkq hK ⟨zaa r (by simpa using ax),zaa l (by simpa using aw),zaa s1 (by simpa using a1),zaa tqx (by simpa using au)⟩ (h:=fun hHeld=>?_)
 clear hK K hHeld
 refine wpAnyH_done (by kernel_rfl) ?_ _
 clear HT KX bg s r l s1 tqx
 go_wp2
 go_roundg (gk - 1)
 case measure=>omega
 case rel=>exact ⟨j+1,by go_num,by omega,by omega,dn,KN⟩
theorem zeJ (q m most:Nat) (A:Option Addr) (c:Nat) (d:Nat->Int) (w:World) (h:IntsR w w.heap.size A m d) (hq:2<=q) (hq2:q<=256) (hm:m<=1048576) (hd:∀ i,i<m->d i<=1048576) (ho1:1<=most) (ho:most<=1048576) :
  Calls Tryz.prog 85 #[.int .i64 (q:Nat),.slice A m c,.int .i64 (most:Nat)] w fun e w'=>e=.returned (.int .i64 (min (powS q (fun i=>(d i).toNat) m) (most+1):Nat))/\Below w.heap.size w w':=by
 have HA:=hid h
 have HD:=hid hd
 clear h hd
 go_enter Tryz.func85, Tryz.ntmps85
 go_upto_region 3 with fail
 go_loopg [7,8] m (fun gg sv iv wx=>∃ i s:Nat,iv=.int .i64 (i:Nat)/\sv=.int .i64 (s:Nat)/\i<=m/\m<=i+gg/\Hid (s=min (powS q (fun i=>(d i).toNat) i) (most+1))/\s<=most+1/\Below w.heap.size w wx)
 case atStart=>exact ⟨0,0,rfl,rfl,by omega,by omega,hid (by show 0=min 0 (most+1); omega),by omega,Below.refl _ _⟩
 obtain ⟨i,s,rfl,rfl,hi,P,HS,hs,a⟩:=hrel
 have Q:(0:Int)<=(i:Int):=by omega
 have HB:=hid a
 obtain ⟨w3,F⟩:=exx wr
 subst F
 clear a
 by_cases hlt:i<m
 rotate_left
 ·have n:¬ (i:Int)<(m:Int):=by omega
  obtain rfl:i=m:=by omega
  go_wp2
  go_ret
  exact ⟨by rw [<-HS.out]; rfl,HB.out⟩
 have n:(i:Int)<(m:Int):=by omega
 obtain ⟨E,hE⟩:=exx (d i)
 obtain ⟨D,hD⟩:=exx E.toNat
 have R:E<=1048576:=by rw [hE]; exact HD.out i hlt
 have S:D<=1048576:=by omega
 have L:=hid hE
 have M:Hid (D=(d i).toNat):=hid (by rw [hD,hE])
 have v:∀ k:Nat,k<D↔(k:Int)<E:=fun k=>by omega
 have y:=hid v
 clear hD hE v
 obtain ⟨gO,J⟩:=exx gk
 subst J
 go_upto_region 7 with fail
 go_loopg [9,10] D (fun gg pv kv wx=>∃ k p:Nat,kv=.int .i64 (k:Nat)/\pv=.int .i64 (p:Nat)/\k<=D/\D<=k+gg/\Hid (p=q ^ k)/\p<=most*256/\Below w.heap.size w wx)
 case atStart=>exact ⟨0,1,rfl,rfl,by omega,by omega,hid rfl,by omega,HB.out⟩
 clear HB
 obtain ⟨k,p,rfl,rfl,hk,O,HP,hp,a⟩:=hrel
 have HB:=hid a
 obtain ⟨w4,C⟩:=exx wr
 subst C
 clear a
 obtain ⟨b,o,K,hb,e0⟩:=(HA.out.on HB.out).at hlt
 rw [<-L.out] at e0
 subst K
 have fin:∀ p2:Nat,p2=p->(p=q ^ D∨most<p/\p<=q ^ D)->∃ s2:Nat,(min ((s:Int)+(p:Int)) ((most:Int)+1)=(s2:Int))/\s2<=most+1/\Hid (s2=min (powS q (fun i=>(d i).toNat) (i+1)) (most+1)):=fun p2 _ hpp=>by
  refine ⟨min (s+p) (most+1),by omega,by omega,hid ?_⟩
  have h1:=HS.out
  have h2:powS q (fun i=>(d i).toNat) (i+1)=powS q (fun i=>(d i).toNat) i+q ^ D:=by rw [M.out]; rfl
  rw [h2]
  omega
 by_cases hkD:k<D
 rotate_left
 ·have r:¬ (k:Int)<E:=fun g=>hkD ((y.out k).2 g)
  have I:decide ((k:Int)<E)=false:=by simp; omega
  obtain rfl:k=D:=by omega
  obtain ⟨s2,G,j,t⟩:=fin p rfl (.inl HP.out)
  have x:most*256<=1048576*256:=Nat.mul_le_mul_right _ ho
  clear fin
  go_wp2
  all_goals
   go_roundg (gO - 1)
   case measure=>omega
   case rel=>exact ⟨i+1,s2,by go_num,by first | (congr 1; omega) | (congr 1),by omega,by omega,t,by omega,HB.out⟩
 have r:(k:Int)<E:=(y.out k).1 hkD
 have I:decide ((k:Int)<E)=true:=by simp; omega
 by_cases hpm:p<=most
 ·have l:(p:Int)<=(most:Int):=by omega
  have H:decide ((p:Int)<=(most:Int))=true:=by simp; omega
  have h2:p*q<=most*256:=Nat.mul_le_mul hpm hq2
  have x:most*256<=1048576*256:=Nat.mul_le_mul_right _ ho
  obtain ⟨z,hz⟩:=exx (p*q)
  have u:(p:Int)*(q:Int)=(z:Int):=by rw [hz]; push_cast; rfl
  have HZ:Hid (z=q ^ (k+1)):=hid (by rw [hz,Nat.pow_succ,<-HP.out])
  rw [<-hz] at h2
  have B:0<=(p:Int)*(q:Int):=by rw [u]; omega
  have N:(p:Int)*(q:Int)<=268435456:=by rw [u]; omega
  clear hz fin
  go_wp2
  go_roundg (gk - 1)
  case measure=>omega
  case rel=>exact ⟨k+1,z,by go_num,rfl,by omega,by omega,HZ,by omega,HB.out⟩
 have l:¬ (p:Int)<=(most:Int):=by omega
 have H:decide ((p:Int)<=(most:Int))=false:=by simp; omega
 obtain ⟨s2,G,j,t⟩:=fin p rfl (.inr ⟨by omega,by rw [HP.out]; exact Nat.pow_le_pow_right (by omega) hk⟩)
 have x:most*256<=1048576*256:=Nat.mul_le_mul_right _ ho
 clear fin
 go_wp2
 all_goals
  go_roundg (gO - 1)
  case measure=>omega
  case rel=>exact ⟨i+1,s2,by go_num,by first | (congr 1; omega) | (congr 1),by omega,by omega,t,by omega,HB.out⟩
def RanksSec (q:Nat) (add mul:Nat->Nat->Nat) (n N:Nat) (V:Nat->Nat->Nat) (t:Nat) (ra rb:Nat->Nat):Prop:=∀ i,i<t->RankIs q add mul n V 0 (i+1) (ra i)/\RankIs q add mul n V i (N - i) (rb i)
def SecsPost (q:Nat) (add mul:Nat->Nat->Nat) (n N:Nat) (V:Nat->Nat->Nat) (w:World) (e:Ending) (w':World):Prop :=
 ∃ g ra rb,e=.returned (.slice (some ⟨g,0,none⟩) (N) (N))/\w.heap.size<=g/\w'.rowIs g 3 (N) (fun i=>.int .i64 (((ra i+rb i:Nat):Int) - (n:Nat)))/\RanksSec q add mul n N V (N) ra rb/\Below w.heap.size w w'
theorem zf4 (P M:Nat) (m:Nat->Nat) (A:Option Addr) (k c N:Nat) (T:Option Addr) (n d:Nat) (V:Nat->Nat->Nat) (w:World) (h:CodeR w P M m A k N T n V) :
  Calls Tryz.prog 86 #[.agg #[.int .i64 (P:Nat),.int .i64 (M:Nat),.slice A k c,.int .i64 (N:Nat),.slice T n d]] w (SecsPost (P ^ M) (addF P M) (mulF P M m) n N V w):=by
 have HC:=hid h
 have Y:=h.ln2
 have a6:=h.n_le
 clear h
 obtain ⟨w1,F,hB,rf⟩:=zay w (.int .i64 (P:Nat)) (.int .i64 (M:Nat)) (.slice A k c) (.int .i64 (N:Nat)) (.slice T n d) 27
 have G:=fun W=>zaf (P:=Tryz.prog) 22 3 _ 8 Tryz.underlying22 Tryz.infoInt rfl (N:Int) (by omega) (by omega) (by omega) W
 simp only [Int.toNat_natCast] at G
 go_enter Tryz.func86, Tryz.ntmps86
 go_upto_region 1 with fail
 rw [<-F];clear F
 obtain ⟨b0,q⟩:=exx w.heap.size
 rw [<-q] at rf;rw [<-q];clear q
 have g:Hid (∀ X,Below w1.heap.size w1 X->(X.cell? ⟨b0,0,none⟩=some (.int .i64 (P:Nat))/\X.cell? ⟨b0,1,none⟩=some (.int .i64 (M:Nat))/\X.cell? ⟨b0,2,none⟩=some (.slice A k c)/\X.cell? ⟨b0,3,none⟩=some (.int .i64 (N:Nat))/\X.cell? ⟨b0,4,none⟩=some (.slice T n d))):=hid fun X hx =>
  ⟨(zab rf hx).cell (i:=0) (by omega),(zab rf hx).cell (i:=1) (by omega),(zab rf hx).cell (i:=2) (by omega),(zab rf hx).cell (i:=3) (by omega),(zab rf hx).cell (i:=4) (by omega)⟩
 have HB:=hid hB
 have D:Hid (b0<w1.heap.size):=hid rf.lt
 clear hB rf
 obtain ⟨q0,q1,q2,q3,q4⟩:=g.out _ (Below.refl _ _)
 go_upto_region 2 with fail
 clear q0 q1 q2 q3 q4
 have rz:World.rowIs (World.alloc w1 (Obj.cells (madeCells #[Value.int .i64 0] (N)) 3)) w1.heap.size 3 (N) (fun _=>.int .i64 0):=World.rowIs_made _ (.int .i64 0) (N) 3
 have kb:=aly w1 (Obj.cells (madeCells #[Value.int .i64 0] (N)) 3)
 obtain ⟨w2,E⟩:=exx (World.alloc w1 (Obj.cells (madeCells #[Value.int .i64 0] (N)) 3))
 rw [<-E] at rz kb ⊢
 obtain ⟨go,s⟩:=exx w1.heap.size
 have B:w.heap.size<=go:=by rw [s]; exact HB.out.size
 have J:=hid s
 rw [<-s] at rz ⊢
 have K2:=hid kb
 clear kb E s G
 go_upto_region 3 with fail
 go_loopg [4] (N) (fun gg iv wx=>∃ (i:Nat) (ra rb:Nat->Nat),iv=.int .i64 (i:Nat)/\i<=N/\N<=i+gg/\Hid (RanksSec (P ^ M) (addF P M) (mulF P M m) n N V i ra rb)/\Hid (wx.rowIs go 3 (N) (fun t=>.int .i64 (if t<i then ((ra t+rb t:Nat):Int) - (n:Nat) else 0)))/\Below w1.heap.size w1 wx)
 case atStart=>exact ⟨0,fun _=>0,fun _=>0,rfl,by omega,by omega,hid fun _ h=>absurd h (by omega),rz.congr fun t _=>by rw [if_neg (by omega)],K2.out⟩
 clear rz K2
 obtain ⟨i,ra,rb,rfl,hi,a7,I,l,H⟩:=hrel
 have a8:(0:Int)<=(i:Int):=by omega
 have K2:=hid H
 obtain ⟨w3,L⟩:=exx wr
 subst L
 clear H
 by_cases hin:i<N
 rotate_left
 ·have v:¬ (i:Int)<(N:Int):=by omega
  obtain rfl:i=N:=by omega
  obtain ⟨q0,q1,q2,q3,q4⟩:=g.out _ K2.out
  have HF:Hid (w3.rowIs go 3 (i) (fun t=>.int .i64 (((ra t+rb t:Nat):Int) - (n:Nat)))):=hid (l.out.congr fun t ht=>by rw [if_pos ht])
  go_wp2
  go_ret
  exact ⟨go,ra,rb,rfl,B,HF.out,I.out,onS HB.out K2.out⟩
 have v:(i:Int)<(N:Int):=by omega
 have y:wrap64 ((i:Int)+1)=((i+1:Nat):Int):=by unfold wrap64; omega
 have x:IntKind.i64.wrap ((i:Int)+1)=((i+1:Nat):Int):=by rw [IntWalk.i64_in _ (by omega)]; omega
 obtain ⟨q0,q1,q2,q3,q4⟩:=g.out _ K2.out
 go_upto_region 5 with fail
 clear q0 q1 q2 q3 q4
 refine wp_region_held_drew (S:=fun X=>(X.cell? ⟨b0,0,none⟩=some (.int .i64 (P:Nat))/\X.cell? ⟨b0,1,none⟩=some (.int .i64 (M:Nat))/\X.cell? ⟨b0,2,none⟩=some (.slice A k c)/\X.cell? ⟨b0,3,none⟩=some (.int .i64 (N:Nat))/\X.cell? ⟨b0,4,none⟩=some (.slice T n d))) (by kernel_rfl) (g.out _ (onS K2.out (Below.refl _ _).drew)) (fun hHeld=>?_)
 obtain ⟨w4,hw,kb⟩:=dwx w3
 rw [<-hw] at hHeld ⊢;clear hw
 have K3:=hid kb
 clear kb
 refine tkq 0 (h:=tkq 1 (h:=tkq 2 (h:=tkq 3 (h:=tkq 4 (h:=tkq 6 (h:=tkq 7 (h:=tkq 8 (h:=tkq 9 (h:=tkq 12 (h:=tkq 13 (h:=tkq 14 (h:=?_))))))))))))
 clear hHeld y x
 refine rdq 5 (h:=fun K hK=>?_)
 go_simp
 go_wp2_with fail
 refine (zbL P M m A k c N T n d V 0 (i+1) w4 (HC.out.on (onS HB.out (onS K2.out K3.out))) (Nat.zero_le _) hin).mono ?_
 rintro e w5 ⟨a,rfl,ha,kb⟩
 have a5:=hid ha
 have aa:=ha.le
 replace K3:=hid (onS K3.out kb);clear kb ha
 refine bkq hK (g.out _ (onS K2.out K3.out)) (h:=fun hHeld=>?_)
 clear hK K hHeld
 refine rdq 10 (h:=fun K hK=>?_)
 go_simp
 go_wp2_with fail
 refine (zbL P M m A k c N T n d V i N w5 (HC.out.on (onS HB.out (onS K2.out K3.out))) (Nat.le_of_lt hin) (Nat.le_refl _)).mono ?_
 rintro e w6 ⟨b,rfl,hb,kb⟩
 have Z:=hid hb
 have a9:=hb.le
 replace K3:=hid (onS K3.out kb);clear kb hb
 refine bkq hK (g.out _ (onS K2.out K3.out)) (h:=fun hHeld=>?_)
 clear hK K
 have U:wrap64 ((a:Int)+(b:Int))=(a:Int)+(b:Int):=by unfold wrap64; omega
 have R:IntKind.i64.wrap ((a:Int)+(b:Int))=(a:Int)+(b:Int):=IntWalk.i64_in _ (by omega)
 obtain ⟨z,hz⟩:∃ z:Int,z=((a+b:Nat):Int) - (n:Nat):=⟨_,rfl⟩
 have Q:wrap64 ((a:Int)+(b:Int) - (n:Int))=z:=by unfold wrap64; omega
 have O:IntKind.i64.wrap ((a:Int)+(b:Int) - (n:Int))=z:=by rw [IntWalk.i64_in _ (by omega)]; omega
 have ab:(i:Int)<((N:Nat):Int):=by omega
 have HZ:=hid hz
 clear hz
 refine tkq 11 (h:=tkq 15 (h:=tkq 16 (h:=?_)))
 clear hHeld U R Q O
 refine rdq 17 (h:=fun K hK=>?_)
 have u0:=(zab l.out K3.out).cell (i:=i) (by omega)
 have u1:=(zab l.out K3.out).frozen i
 go_simp
 clear u0 u1
 have j:=(zab l.out K3.out).set i (.int .i64 z)
 have kb:=(onS K2.out K3.out).setCell (p:=⟨go,i,none⟩) (by show _<=go; rw [J.out]; exact Nat.le_refl _) (.int .i64 z)
 have q:=g.out _ (onS K2.out K3.out)
 have o:b0≠go:=by rw [J.out]; exact Nat.ne_of_lt D.out
 obtain ⟨a0,a1,a2,a3,a4⟩:=q
 replace a0:=zaa (p:=⟨go,i,none⟩) (u:=.int .i64 z) a0 o;replace a1:=zaa (p:=⟨go,i,none⟩) (u:=.int .i64 z) a1 o;replace a2:=zaa (p:=⟨go,i,none⟩) (u:=.int .i64 z) a2 o;replace a3:=zaa (p:=⟨go,i,none⟩) (u:=.int .i64 z) a3 o;replace a4:=zaa (p:=⟨go,i,none⟩) (u:=.int .i64 z) a4 o
 obtain ⟨w7,hw⟩:=exx (w6.setCell ⟨go,i,none⟩ (.int .i64 z))
 rw [<-hw] at j kb a0 a1 a2 a3 a4 ⊢
 have r:Hid (w7.rowIs go 3 (N) (fun t=>.int .i64 (if t<i+1 then (((if t=i then a else ra t)+(if t=i then b else rb t):Nat):Int) - (n:Nat) else 0))):=hid (j.congr fun t _=>by
  by_cases et:t=i
  ·rw [if_pos et,if_pos (by omega),if_pos et,if_pos et,HZ.out]
  have h1:(t<i)↔(t<i+1):=by omega
  rw [if_neg et,if_neg et,if_neg et]
  simp only [h1])
 have C:Hid (RanksSec (P ^ M) (addF P M) (mulF P M m) n N V (i+1) (fun t=>if t=i then a else ra t) (fun t=>if t=i then b else rb t)):=hid fun t ht=>by
  by_cases et:t=i
  ·subst et
   simp only [if_true]
   exact ⟨a5.out,Z.out⟩
  ·simp only [if_neg et]
   exact I.out t (by omega)
 have K9:=hid kb
 clear j kb hw o
 refine bkq hK ⟨a0,a1,a2,a3,a4⟩ (h:=fun hHeld=>?_)
 clear hK K a0 a1 a2 a3 a4
 refine wpAnyH_done (by kernel_rfl) ?_ _
 clear hHeld
 go_wp2
 go_roundg (gk - 1)
 case measure=>omega
 case rel=>exact ⟨i+1,_,_,by go_num,by omega,by omega,C,r,K9.out⟩
def ProfIs (q:Nat) (add mul:Nat->Nat->Nat) (n N:Nat) (V:Nat->Nat->Nat) (pr:Nat->Nat):Prop:=∀ i,i<N+1->∃ a b,RankIs q add mul n V 0 i a/\RankIs q add mul n V i (N - i) b/\pr i=a+b - n
def SecsIs (q:Nat) (add mul:Nat->Nat->Nat) (n N:Nat) (V:Nat->Nat->Nat) (se:Nat->Nat):Prop:=∀ i,i<N->∃ a b,RankIs q add mul n V 0 (i+1) a/\RankIs q add mul n V i (N - i) b/\se i=a+b - n
def SizeOk (q N:Nat) (pr se:Nat->Nat):Prop:=powS q pr (N+1)<=65536/\powS q se N<=262144
def Size47Post (P M:Int) (k:Nat) (f:Nat->Int) (N:Int) (n:Nat) (ln:Nat->Nat) (V:Nat->Nat->Int) (w:World) (e:Ending) (w':World):Prop :=
 Below w.heap.size w w'/\∃ u,FirstErr (CodeErrs P M k f N n ln V) u/\((u≠0/\e=.returned (.tuple #[.int .i64 0,.int .i64 u])) ∨
  (u=0/\∃ P' M' N':Nat,P=P'/\M=M'/\N=N'/\∃ pr se:Nat->Nat,ProfIs (P' ^ M') (addF P' M') (mulF P' M' fun i=>(f i).toNat) n N' (natT V) pr/\SecsIs (P' ^ M') (addF P' M') (mulF P' M' fun i=>(f i).toNat) n N' (natT V) se /\
   ((SizeOk (P' ^ M') N' pr se/\e=.returned (.tuple #[.int .i64 (powS (P' ^ M') se N':Nat),.int .i64 0]))∨(¬ SizeOk (P' ^ M') N' pr se/\e=.returned (.tuple #[.int .i64 0,.int .i64 8])))))
theorem zdP (P M:Int) (A:Option Addr) (k c:Nat) (f:Nat->Int) (N:Int) (TC:Option Addr) (n d:Nat) (ln:Nat->Nat) (V:Nat->Nat->Int) (w:World) (hr:IntsR w w.heap.size A k f) (h:IntRows w TC n ln V) :
  Calls Tryz.prog 33 #[.agg #[.int .i64 P,.int .i64 M,.slice A k c,.int .i64 N,.slice TC n d]] w (Size47Post P M k f N n ln V w):=by
 have HI:=hid hr
 have HT:=hid h
 clear hr h
 obtain ⟨w1,R,hB,rf⟩:=zay w (.int .i64 P) (.int .i64 M) (.slice A k c) (.int .i64 N) (.slice TC n d) 27
 go_enter Tryz.func33, Tryz.ntmps33
 go_upto_region 1 with fail
 rw [<-R];clear R
 obtain ⟨b0,G⟩:=exx w.heap.size
 rw [<-G] at rf;rw [<-G];clear G
 have o:Hid (∀ X,Below w1.heap.size w1 X->(X.cell? ⟨b0,0,none⟩=some (.int .i64 P)/\X.cell? ⟨b0,1,none⟩=some (.int .i64 M)/\X.cell? ⟨b0,2,none⟩=some (.slice A k c)/\X.cell? ⟨b0,3,none⟩=some (.int .i64 N)/\X.cell? ⟨b0,4,none⟩=some (.slice TC n d))):=hid fun X hx =>
  ⟨(zab rf hx).cell (i:=0) (by omega),(zab rf hx).cell (i:=1) (by omega),(zab rf hx).cell (i:=2) (by omega),(zab rf hx).cell (i:=3) (by omega),(zab rf hx).cell (i:=4) (by omega)⟩
 have HB:=hid hB
 clear hB rf
 obtain ⟨q0,q1,q2,q3,q4⟩:=o.out _ (Below.refl _ _)
 go_wp2_with fail
 refine (zbv P M A k c f N TC n d ln V w1 (HI.out.on HB.out) (HT.out.on HB.out)).mono ?_
 rintro e w2 ⟨u,rfl,hu,kb⟩
 have HU:=hid hu
 have KB:=hid kb
 clear kb hu q0 q1 q2 q3 q4
 by_cases hu0:u=0
 rotate_left
 ·have S:(u != 0)=true:=by simpa using hu0
  have a8:=hid hu0
  clear hu0
  go_wp2
  go_ret2
  exact ⟨onS HB.out KB.out,u,HU.out,.inl ⟨a8.out,rfl⟩⟩
 subst hu0
 have S:((0:Int) != 0)=false:=by simp
 obtain ⟨P',M',N',rfl,rfl,rfl,hC⟩:=za1 HI.out HT.out HU.out
 have HC:=hid hC
 have a2:=hC.ln2
 have ad:=hC.n_le
 have D:=(fieldLaws hC.fld).two
 have j:P' ^ M'<=256:=hC.fld.1.2.2.2
 clear hC
 have K:Hid (ordV (P':Int) (M':Int)=((P' ^ M':Nat):Int)):=hid (zbo HC.out.fld.1)
 obtain ⟨q0,q1,q2,q3,q4⟩:=o.out _ KB.out
 go_wp2_with fail
 refine (za2 (P':Int) (M':Int) A k c w2).mono ?_
 rintro e w3 ⟨rfl,kb⟩
 rw [K.out]
 obtain ⟨q,hq⟩:=exx (P' ^ M')
 have HQ:=hid hq
 rw [<-hq] at D j ⊢;replace KB:=hid (onS KB.out kb);clear kb q0 q1 q2 q3 q4 S hq
 obtain ⟨q0,q1,q2,q3,q4⟩:=o.out _ KB.out
 go_wp2_with fail
 refine (zf4 P' M' (fun i=>(f i).toNat) A k c N' TC n d (natT V) w3 (HC.out.on (onS HB.out KB.out))).mono ?_
 rintro e w4 ⟨g,ra,rb,rfl,hg,a,b,kb⟩
 have m:Hid (SecsIs (P' ^ M') (addF P' M') (mulF P' M' fun i=>(f i).toNat) n N' (natT V) fun i=>ra i+rb i - n):=hid fun i hi=>⟨ra i,rb i,(b i hi).1,(b i hi).2,rfl⟩
 have z:∀ i,i<N'->((ra i+rb i:Nat):Int) - (n:Nat)<=1048576:=fun i hi=>by
  have h1:=(b i hi).1.le
  have h2:=(b i hi).2.le
  omega
 have B:=hid z
 have l:Hid (IntsR w4 w4.heap.size (some ⟨g,0,none⟩) N' (fun i=>((ra i+rb i:Nat):Int) - (n:Nat))):=hid (zbd a)
 replace KB:=hid (onS KB.out kb);clear kb hg a b z q0 q1 q2 q3 q4
 go_wp2_with fail
 refine (zeJ q N' 262144 (some ⟨g,0,none⟩) N' _ w4 l.out D j (by omega) B.out (by omega) (by omega)).mono ?_
 rintro e w5 ⟨rfl,kb⟩
 have y:powS q (fun i=>(((ra i+rb i:Nat):Int) - (n:Nat)).toNat) N'=powS q (fun i=>ra i+rb i - n) N':=zbt N' fun i _=>by omega
 rw [y]
 obtain ⟨se,T⟩:∃ se:Nat->Nat,se=fun i=>ra i+rb i - n:=⟨_,rfl⟩
 rw [<-T] at m ⊢
 obtain ⟨es,F⟩:=exx (powS q se N')
 rw [<-F]
 have Z:=hid F
 obtain ⟨em,Y⟩:=exx (min es (262144+1))
 rw [<-Y]
 have a1:em<=262145:=by omega
 have x:es<=262144->em=es:=fun _=>by omega
 have v:¬ es<=262144->262144<em:=fun _=>by omega
 have Q:=hid x
 have O:=hid v
 clear Y x v;replace KB:=hid (onS KB.out kb);clear kb y T F l B
 obtain ⟨q0,q1,q2,q3,q4⟩:=o.out _ KB.out
 go_wp2_with fail
 refine (zfL P' M' (fun i=>(f i).toNat) A k c N' TC n d (natT V) w5 (HC.out.on (onS HB.out KB.out))).mono ?_
 rintro e w6 ⟨g,ra,rb,rfl,hg,a,b,kb⟩
 have C:Hid (ProfIs (P' ^ M') (addF P' M') (mulF P' M' fun i=>(f i).toNat) n N' (natT V) fun i=>ra i+rb i - n):=hid fun i hi=>⟨ra i,rb i,(b i hi).1,(b i hi).2,rfl⟩
 have z:∀ i,i<N'+1->((ra i+rb i:Nat):Int) - (n:Nat)<=1048576:=fun i hi=>by
  have h1:=(b i hi).1.le
  have h2:=(b i hi).2.le
  omega
 have B:=hid z
 have l:Hid (IntsR w6 w6.heap.size (some ⟨g,0,none⟩) (N'+1) (fun i=>((ra i+rb i:Nat):Int) - (n:Nat))):=hid (zbd a)
 replace KB:=hid (onS KB.out kb);clear kb hg a b z q0 q1 q2 q3 q4
 go_wp2_with fail
 refine (zeJ q (N'+1) 65536 (some ⟨g,0,none⟩) (N'+1) _ w6 l.out D j (by omega) B.out (by omega) (by omega)).mono ?_
 rintro e w7 ⟨rfl,kb⟩
 have y:powS q (fun i=>(((ra i+rb i:Nat):Int) - (n:Nat)).toNat) (N'+1)=powS q (fun i=>ra i+rb i - n) (N'+1):=zbt (N'+1) fun i _=>by omega
 rw [y]
 obtain ⟨pr,U⟩:∃ pr:Nat->Nat,pr=fun i=>ra i+rb i - n:=⟨_,rfl⟩
 rw [<-U] at C ⊢
 obtain ⟨ps,E⟩:=exx (powS q pr (N'+1))
 rw [<-E]
 have a9:=hid E
 obtain ⟨pm,W⟩:=exx (min ps (65536+1))
 rw [<-W]
 have a0:pm<=65537:=by omega
 have s:ps<=65536->pm<=65536:=fun _=>by omega
 have r:¬ ps<=65536->65536<pm:=fun _=>by omega
 have J:=hid s
 have I:=hid r
 clear W s r;replace KB:=hid (onS KB.out kb);clear kb y U E l B
 have p:Hid (SizeOk (P' ^ M') N' pr se↔ps<=65536/\es<=262144):=hid (by unfold SizeOk; rw [a9.out,Z.out,<-HQ.out])
 by_cases h1:ps<=65536
 rotate_left
 ·have a5:=I.out h1
  have a7:(pm:Int) > 65536:=by omega
  have a6:decide ((pm:Int) > 65536)=true:=by simp; omega
  have L:Hid (¬ SizeOk (P' ^ M') N' pr se):=hid fun g=>h1 (p.out.1 g).1
  go_wp2
  go_ret2
  exact ⟨onS HB.out KB.out,0,HU.out,.inr ⟨rfl,P',M',N',rfl,rfl,rfl,pr,se,C.out,m.out,.inr ⟨L.out,rfl⟩⟩⟩
 have a5:=J.out h1
 have a7:¬ ((pm:Int) > 65536):=by omega
 have a6:decide ((pm:Int) > 65536)=false:=by simp; omega
 by_cases h2:es<=262144
 ·have H:=Q.out h2
  have ab:=hid H
  have ae:em<=262144:=by omega
  clear H
  have a4:¬ ((em:Int) > 262144):=by omega
  have a3:decide ((em:Int) > 262144)=false:=by simp; omega
  have aa:Hid (SizeOk (P' ^ M') N' pr se):=hid (p.out.2 ⟨h1,h2⟩)
  have ac:Hid (em=powS (P' ^ M') se N'):=hid (by rw [ab.out,Z.out,HQ.out])
  go_wp2
  go_ret2
  exact ⟨onS HB.out KB.out,0,HU.out,.inr ⟨rfl,P',M',N',rfl,rfl,rfl,pr,se,C.out,m.out,.inl ⟨aa.out,by rw [<-ac.out]; rfl⟩⟩⟩
 have H:=O.out h2
 have a4:(em:Int) > 262144:=by omega
 have a3:decide ((em:Int) > 262144)=true:=by simp; omega
 have L:Hid (¬ SizeOk (P' ^ M') N' pr se):=hid fun g=>h2 (p.out.1 g).2
 go_wp2
 go_ret2
 exact ⟨onS HB.out KB.out,0,HU.out,.inr ⟨rfl,P',M',N',rfl,rfl,rfl,pr,se,C.out,m.out,.inr ⟨L.out,rfl⟩⟩⟩
def BigC (P M:Int) (_:Nat) (f:Nat->Int) (N:Int) (n:Nat) (V:Nat->Nat->Int):Prop:=∃ P' M' N':Nat,P=P'/\M=M'/\N=N'/\∃ pr se:Nat->Nat,ProfIs (P' ^ M') (addF P' M') (mulF P' M' fun i=>(f i).toNat) n N' (natT V) pr/\SecsIs (P' ^ M') (addF P' M') (mulF P' M' fun i=>(f i).toNat) n N' (natT V) se/\¬ SizeOk (P' ^ M') N' pr se
def SmallPost (most:Nat) (P M:Int) (k:Nat) (f:Nat->Int) (N:Int) (n:Nat) (ln:Nat->Nat) (V:Nat->Nat->Int) (w:World) (e:Ending) (w':World):Prop :=
 Below w.heap.size w w'/\∃ b:Bool,e=.returned (.bool b)/\(b=true->(¬ FirstErr (CodeErrs P M k f N n ln V) 0)∨(P.toNat ^ M.toNat) ^ n<=most∨BigC P M k f N n V)
theorem zfc (P M:Int) (A:Option Addr) (k c:Nat) (f:Nat->Int) (N:Int) (TC:Option Addr) (n d:Nat) (ln:Nat->Nat) (V:Nat->Nat->Int) (w:World) (hr:IntsR w w.heap.size A k f) (h:IntRows w TC n ln V) :
  Calls Tryz.prog 48 #[.agg #[.int .i64 P,.int .i64 M,.slice A k c,.int .i64 N,.slice TC n d]] w (SmallPost 512 P M k f N n ln V w):=by
 have HI:=hid hr
 have HT:=hid h
 clear hr h
 obtain ⟨w1,g,hB,rf⟩:=zay w (.int .i64 P) (.int .i64 M) (.slice A k c) (.int .i64 N) (.slice TC n d) 27
 go_enter Tryz.func48, Tryz.ntmps48
 go_upto_region 1 with fail
 rw [<-g];clear g
 obtain ⟨b0,b⟩:=exx w.heap.size
 rw [<-b] at rf;rw [<-b];clear b
 have a:Hid (∀ X,Below w1.heap.size w1 X->(X.cell? ⟨b0,0,none⟩=some (.int .i64 P)/\X.cell? ⟨b0,1,none⟩=some (.int .i64 M)/\X.cell? ⟨b0,2,none⟩=some (.slice A k c)/\X.cell? ⟨b0,3,none⟩=some (.int .i64 N)/\X.cell? ⟨b0,4,none⟩=some (.slice TC n d))):=hid fun X hx =>
  ⟨(zab rf hx).cell (i:=0) (by omega),(zab rf hx).cell (i:=1) (by omega),(zab rf hx).cell (i:=2) (by omega),(zab rf hx).cell (i:=3) (by omega),(zab rf hx).cell (i:=4) (by omega)⟩
 have HB:=hid hB
 clear hB rf
 obtain ⟨q0,q1,q2,q3,q4⟩:=a.out _ (Below.refl _ _)
 go_wp2_with fail
 refine (zbv P M A k c f N TC n d ln V w1 (HI.out.on HB.out) (HT.out.on HB.out)).mono ?_
 rintro e w2 ⟨u,rfl,hu,kb⟩
 have HU:=hid hu
 have KB:=hid kb
 clear kb hu q0 q1 q2 q3 q4
 obtain ⟨q0,q1,q2,q3,q4⟩:=a.out _ KB.out
 by_cases hu0:u=0
 rotate_left
 ·have l:(u != 0)=true:=by simpa using hu0
  have o:Hid (¬ FirstErr (CodeErrs P M k f N n ln V) 0):=hid fun h0=>hu0 (FirstErr.unique HU.out h0)
  clear hu0
  go_wp2
  go_ret
  exact ⟨onS HB.out KB.out,true,rfl,fun _=>.inl o.out⟩
 subst hu0
 have l:((0:Int) != 0)=false:=by simp
 go_wp2_with fail
 refine (zeW 512 P M A k c f N TC n d ln V w2 (HI.out.on (onS HB.out KB.out)) (HT.out.on (onS HB.out KB.out)) (by omega)).mono ?_
 rintro e w3 ⟨v,rfl,hv,kb⟩
 replace KB:=hid (onS KB.out kb);clear kb q0 q1 q2 q3 q4
 by_cases hv0:v > 0
 ·have HC:Hid ((P.toNat ^ M.toNat) ^ n<=512):=hid (by
   rcases hv with ⟨h1,_⟩ | ⟨_,h2,_⟩
   ·omega
   ·exact h2)
  have j:decide (v > 0)=true:=by simp; omega
  clear hv
  go_wp2
  go_ret
  exact ⟨onS HB.out KB.out,true,rfl,fun _=>.inr (.inl HC.out)⟩
 have j:decide (v > 0)=false:=by simp; omega
 clear hv
 obtain ⟨q0,q1,q2,q3,q4⟩:=a.out _ KB.out
 go_wp2_with fail
 refine (zdP P M A k c f N TC n d ln V w3 (HI.out.on (onS HB.out KB.out)) (HT.out.on (onS HB.out KB.out))).mono ?_
 rintro e w4 ⟨kb,u,hu,he⟩
 obtain rfl:u=0:=FirstErr.unique hu HU.out
 replace KB:=hid (onS KB.out kb);clear kb hu q0 q1 q2 q3 q4
 rcases he with ⟨h0,_⟩ | ⟨_,P',M',N',hP,hM,hN,pr,se,h1,h2,⟨h3,rfl⟩ | ⟨h3,rfl⟩⟩
 ·exact absurd rfl h0
 ·have m:((0:Int) == 8)=false:=by simp
  clear h1 h2 h3 hP hM hN
  go_wp2
  go_ret
  exact ⟨onS HB.out KB.out,false,rfl,fun h=>by cases h⟩
 have m:((8:Int) == 8)=true:=by simp
 have p:Hid (BigC P M k f N n V):=hid ⟨P',M',N',hP,hM,hN,pr,se,h1,h2,h3⟩
 clear h1 h2 h3 hP hM hN
 go_wp2
 go_ret
 exact ⟨onS HB.out KB.out,true,rfl,fun _=>.inr (.inr p.out)⟩
def SizeV (P M:Int) (k:Nat) (f:Nat->Int) (N:Int) (n:Nat) (ln:Nat->Nat) (V:Nat->Nat->Int) (v:Int):Prop :=
 ∃ u,FirstErr (CodeErrs P M k f N n ln V) u/\((u≠0/\v=u)∨(u=0/\∃ P' M' N':Nat,P=P'/\M=M'/\N=N'/\∃ pr se:Nat->Nat,ProfIs (P' ^ M') (addF P' M') (mulF P' M' fun i=>(f i).toNat) n N' (natT V) pr/\SecsIs (P' ^ M') (addF P' M') (mulF P' M' fun i=>(f i).toNat) n N' (natT V) se/\((SizeOk (P' ^ M') N' pr se/\v=0)∨(¬ SizeOk (P' ^ M') N' pr se/\v=8))))
theorem zf5 (P M:Int) (A:Option Addr) (k c:Nat) (f:Nat->Int) (N:Int) (TC:Option Addr) (n d:Nat) (ln:Nat->Nat) (V:Nat->Nat->Int) (w:World) (hr:IntsR w w.heap.size A k f) (h:IntRows w TC n ln V) :
  Calls Tryz.prog 61 #[.agg #[.int .i64 P,.int .i64 M,.slice A k c,.int .i64 N,.slice TC n d]] w fun e w'=>Below w.heap.size w w'/\∃ v,e=.returned (.int .i64 v)/\SizeV P M k f N n ln V v:=by
 have HI:=hid hr
 have HT:=hid h
 clear hr h
 obtain ⟨w1,g,hB,rf⟩:=zay w (.int .i64 P) (.int .i64 M) (.slice A k c) (.int .i64 N) (.slice TC n d) 27
 go_enter Tryz.func61, Tryz.ntmps61
 go_upto_region 1 with fail
 rw [<-g];clear g
 obtain ⟨b0,a⟩:=exx w.heap.size
 rw [<-a] at rf;rw [<-a];clear a
 have b:Hid (∀ X,Below w1.heap.size w1 X->(X.cell? ⟨b0,0,none⟩=some (.int .i64 P)/\X.cell? ⟨b0,1,none⟩=some (.int .i64 M)/\X.cell? ⟨b0,2,none⟩=some (.slice A k c)/\X.cell? ⟨b0,3,none⟩=some (.int .i64 N)/\X.cell? ⟨b0,4,none⟩=some (.slice TC n d))):=hid fun X hx =>
  ⟨(zab rf hx).cell (i:=0) (by omega),(zab rf hx).cell (i:=1) (by omega),(zab rf hx).cell (i:=2) (by omega),(zab rf hx).cell (i:=3) (by omega),(zab rf hx).cell (i:=4) (by omega)⟩
 have HB:=hid hB
 clear hB rf
 obtain ⟨q0,q1,q2,q3,q4⟩:=b.out _ (Below.refl _ _)
 go_wp2_with fail
 refine (zdP P M A k c f N TC n d ln V w1 (HI.out.on HB.out) (HT.out.on HB.out)).mono ?_
 rintro e w2 ⟨kb,u,hu,he⟩
 have j:∃ x v:Int,e=.returned (.tuple #[.int .i64 x,.int .i64 v])/\SizeV P M k f N n ln V v:=by
  rcases he with ⟨h0,h1⟩ | ⟨h0,P',M',N',e1,e2,e3,pr,se,h1,h2,⟨h3,h4⟩ | ⟨h3,h4⟩⟩
  ·exact ⟨_,_,h1,u,hu,.inl ⟨h0,rfl⟩⟩
  ·exact ⟨_,_,h4,u,hu,.inr ⟨h0,P',M',N',e1,e2,e3,pr,se,h1,h2,.inl ⟨h3,rfl⟩⟩⟩
  ·exact ⟨_,_,h4,u,hu,.inr ⟨h0,P',M',N',e1,e2,e3,pr,se,h1,h2,.inr ⟨h3,rfl⟩⟩⟩
 obtain ⟨x,v,rfl,hv⟩:=j
 have HV:=hid hv
 have KB:=hid kb
 clear kb hu he hv q0 q1 q2 q3 q4
 go_wp2
 go_ret
 exact ⟨onS HB.out KB.out,v,rfl,HV.out⟩
def ArgsV (P M:Int) (k:Nat) (f:Nat->Int) (N:Int) (n:Nat) (ln:Nat->Nat) (V:Nat->Nat->Int) (m:Nat) (lc:Nat->Nat) (C:Nat->Nat->Int) (v:Int):Prop :=
 ∃ u,FirstErr (CodeErrs P M k f N n ln V) u/\((u≠0/\v=u)∨(u=0/\∃ P' M' N':Nat,P=P'/\M=M'/\N=N'/\((¬ TabOk (P' ^ M') N' m lc/\v=3)∨(TabOk (P' ^ M') N' m lc/\¬ PricedP m lc C/\v=6)∨(TabOk (P' ^ M') N' m lc/\PricedP m lc C /\
  ∃ pr se:Nat->Nat,ProfIs (P' ^ M') (addF P' M') (mulF P' M' fun i=>(f i).toNat) n N' (natT V) pr/\SecsIs (P' ^ M') (addF P' M') (mulF P' M' fun i=>(f i).toNat) n N' (natT V) se/\((SizeOk (P' ^ M') N' pr se/\v=0)∨(¬ SizeOk (P' ^ M') N' pr se/\v=8))))))
theorem zf6 (P M:Int) (A:Option Addr) (k c:Nat) (f:Nat->Int) (N:Int) (TC:Option Addr) (n d:Nat) (ln:Nat->Nat) (V:Nat->Nat->Int) (CA:Option Addr) (m cc:Nat) (lc:Nat->Nat) (C:Nat->Nat->Int) (w:World) (hr:IntsR w w.heap.size A k f) (h:IntRows w TC n ln V) (hC:IntRows w CA m lc C) :
  Calls Tryz.prog 16 #[.agg #[.int .i64 P,.int .i64 M,.slice A k c,.int .i64 N,.slice TC n d],.slice CA m cc] w fun e w'=>Below w.heap.size w w'/\∃ v,e=.returned (.int .i64 v)/\ArgsV P M k f N n ln V m lc C v:=by
 have HI:=hid hr
 have HT:=hid h
 have I:=hid hC
 clear hr h hC
 obtain ⟨w1,z,hB,rf⟩:=zay w (.int .i64 P) (.int .i64 M) (.slice A k c) (.int .i64 N) (.slice TC n d) 27
 go_enter Tryz.func16, Tryz.ntmps16
 go_upto_region 1 with fail
 rw [<-z];clear z
 obtain ⟨b0,o⟩:=exx w.heap.size
 rw [<-o] at rf;rw [<-o];clear o
 have a:Hid (∀ X,Below w1.heap.size w1 X->(X.cell? ⟨b0,0,none⟩=some (.int .i64 P)/\X.cell? ⟨b0,1,none⟩=some (.int .i64 M)/\X.cell? ⟨b0,2,none⟩=some (.slice A k c)/\X.cell? ⟨b0,3,none⟩=some (.int .i64 N)/\X.cell? ⟨b0,4,none⟩=some (.slice TC n d))):=hid fun X hx =>
  ⟨(zab rf hx).cell (i:=0) (by omega),(zab rf hx).cell (i:=1) (by omega),(zab rf hx).cell (i:=2) (by omega),(zab rf hx).cell (i:=3) (by omega),(zab rf hx).cell (i:=4) (by omega)⟩
 have HB:=hid hB
 clear hB rf
 obtain ⟨q0,q1,q2,q3,q4⟩:=a.out _ (Below.refl _ _)
 go_wp2_with fail
 refine (zbv P M A k c f N TC n d ln V w1 (HI.out.on HB.out) (HT.out.on HB.out)).mono ?_
 rintro e w2 ⟨u,rfl,hu,kb⟩
 have HU:=hid hu
 have KB:=hid kb
 clear kb hu q0 q1 q2 q3 q4
 by_cases hu0:u=0
 rotate_left
 ·have L:(u != 0)=true:=by simpa using hu0
  have Y:=hid hu0
  clear hu0
  go_wp2
  go_ret
  exact ⟨onS HB.out KB.out,u,rfl,u,HU.out,.inl ⟨Y.out,rfl⟩⟩
 subst hu0
 have L:((0:Int) != 0)=false:=by simp
 obtain ⟨P',M',N',rfl,rfl,rfl,hC⟩:=za1 HI.out HT.out HU.out
 have HC:=hid hC
 have W:=hC.ln2
 clear hC
 obtain ⟨q,hq⟩:=exx (P' ^ M')
 have HQ:=hid hq
 clear hq
 have r:Hid (ordV (P':Int) (M':Int)=(q:Int)):=hid (by rw [HQ.out]; exact zbo HC.out.fld.1)
 obtain ⟨q0,q1,q2,q3,q4⟩:=a.out _ KB.out
 by_cases hmn:m=N'
 rotate_left
 ·have b:(((m:Nat):Int) != (N':Int))=true:=by simp; omega
  have s:Hid (¬ TabOk (P' ^ M') N' m lc):=hid fun h=>hmn h.1
  go_wp2
  go_ret
  exact ⟨onS HB.out KB.out,3,rfl,0,HU.out,.inr ⟨rfl,P',M',N',rfl,rfl,rfl,.inl ⟨s.out,rfl⟩⟩⟩
 have b:(((m:Nat):Int) != (N':Int))=false:=by simp; omega
 have x:=hid hmn
 have Q:m<=64:=by omega
 clear hmn
 go_upto_region 7 with fail
 clear q0 q1 q2 q3 q4
 go_loopg [6] N' (fun gg iv wx=>∃ i:Nat,iv=.int .i64 (i:Nat)/\i<=N'/\N'<=i+gg/\Hid (∀ j,j<i->lc j=P' ^ M')/\Below w2.heap.size w2 wx)
 case atStart=>exact ⟨0,rfl,by omega,by omega,hid fun _ h=>absurd h (by omega),Below.refl _ _⟩
 obtain ⟨i,rfl,hi,a1,H,E⟩:=hrel
 have a2:(0:Int)<=(i:Int):=by omega
 have K3:=hid E
 obtain ⟨w4,J⟩:=exx wr
 subst J
 clear E
 obtain ⟨q0,q1,q2,q3,q4⟩:=a.out _ (onS KB.out K3.out)
 by_cases hin:i<N'
 rotate_left
 ·have l:¬ (i:Int)<(N':Int):=by omega
  have F:Hid (TabOk (P' ^ M') N' m lc):=hid ⟨x.out,fun j hj=>H.out j (by have:=x.out; omega)⟩
  go_wp2_with fail
  refine (zfb CA m cc lc C w4 (I.out.on (onS HB.out (onS KB.out K3.out))) (by omega)).mono ?_
  rintro e w5 ⟨he,kb⟩
  replace K3:=hid (onS K3.out kb);clear kb q0 q1 q2 q3 q4
  by_cases hpr:PricedP m lc C
  rotate_left
  ·rw [decide_eq_false hpr] at he
   subst he
   have a0:=hid hpr
   clear hpr
   go_wp2
   go_ret
   exact ⟨onS HB.out (onS KB.out K3.out),6,rfl,0,HU.out,.inr ⟨rfl,P',M',N',rfl,rfl,rfl,.inr (.inl ⟨F.out,a0.out,rfl⟩)⟩⟩
  rw [decide_eq_true hpr] at he
  subst he
  have Z:=hid hpr
  clear hpr
  obtain ⟨q0,q1,q2,q3,q4⟩:=a.out _ (onS KB.out K3.out)
  go_wp2_with fail
  refine (zf5 (P':Int) (M':Int) A k c f (N':Int) TC n d ln V w5 (HI.out.on (onS HB.out (onS KB.out K3.out))) (HT.out.on (onS HB.out (onS KB.out K3.out)))).mono ?_
  rintro e w6 ⟨kb,v,rfl,u2,B,hv⟩
  obtain rfl:u2=0:=FirstErr.unique B HU.out
  replace K3:=hid (onS K3.out kb);clear kb B q0 q1 q2 q3 q4
  rcases hv with ⟨h0,_⟩ | ⟨_,P2,M2,N2,e1,e2,e3,pr,se,h1,h2,h3⟩
  ·exact absurd rfl h0
  obtain rfl:P'=P2:=by omega
  obtain rfl:M'=M2:=by omega
  obtain rfl:N'=N2:=by omega
  have HV:Hid (ArgsV (P':Int) (M':Int) k f (N':Int) n ln V m lc C v):=hid ⟨0,HU.out,.inr ⟨rfl,P',M',N',rfl,rfl,rfl,.inr (.inr ⟨F.out,Z.out,pr,se,h1,h2,h3⟩)⟩⟩
  clear h1 h2 h3 e1 e2 e3
  go_wp2
  go_ret
  exact ⟨onS HB.out (onS KB.out K3.out),v,rfl,HV.out⟩
 have l:(i:Int)<(N':Int):=by omega
 have D:i<m:=by have:=x.out; omega
 have R:(i:Int)<(m:Int):=by omega
 obtain ⟨b1,o1,RA,rc,U,T,x0,h1,h2,h3,h4⟩:=I.out i D
 subst U
 replace x0:=cellS (onS HB.out (onS KB.out K3.out)) x0;clear h1 h2 h3 h4 T
 obtain ⟨li,g⟩:=exx (lc i)
 rw [<-g] at x0
 have G:=hid g
 clear g
 go_upto_region 9 with fail
 have p:Hid (∀ X,Below w4.heap.size w4 X->X.cell? ⟨b0,0,none⟩=some (.int .i64 (P':Int))/\X.cell? ⟨b0,1,none⟩=some (.int .i64 (M':Int))/\X.cell? ⟨b0,2,none⟩=some (.slice A k c)/\X.cell? ⟨b1,o1+i,none⟩=some (.slice RA li rc)):=hid fun X hx=>⟨cellS hx q0,cellS hx q1,cellS hx q2,cellS hx x0⟩
 clear q0 q1 q2 q3 q4 x0
 refine wp_region_held_drew (S:=fun X=>X.cell? ⟨b0,0,none⟩=some (.int .i64 (P':Int))/\X.cell? ⟨b0,1,none⟩=some (.int .i64 (M':Int))/\X.cell? ⟨b0,2,none⟩=some (.slice A k c)/\X.cell? ⟨b1,o1+i,none⟩=some (.slice RA li rc)) (by kernel_rfl) (p.out _ (Below.refl _ _).drew) (fun hHeld=>?_)
 obtain ⟨w5,hw,kb⟩:=dwx w4
 rw [<-hw] at hHeld ⊢;clear hw
 have K5:=hid kb
 clear kb
 refine tkq 0 (h:=tkq 1 (h:=tkq 2 (h:=tkq 3 (h:=tkq 4 (h:=tkq 5 (h:=tkq 6 (h:=?_)))))))
 clear hHeld
 refine rdq 7 (h:=fun K hK=>?_)
 go_simp
 go_wp2_with fail
 refine (za2 (P':Int) (M':Int) A k c w5).mono ?_
 rintro e w6 ⟨he,kb⟩
 rw [r.out] at he
 subst he
 replace K5:=hid (onS K5.out kb);clear kb
 refine bkq hK (p.out _ K5.out) (h:=fun hHeld=>?_)
 clear hK K
 refine tkq 8 (h:=?_)
 refine wpAnyH_done (by kernel_rfl) ?_ _
 clear hHeld;replace K3:=hid (onS K3.out K5.out);clear p K5
 by_cases hlq:li=q
 ·have O:(((li:Nat):Int) != (q:Int))=false:=by simp; omega
  have y:Hid (∀ j,j<i+1->lc j=P' ^ M'):=hid fun j hj=>by
   by_cases e:j=i
   ·rw [e,<-G.out,hlq,HQ.out]
   ·exact H.out j (by omega)
  clear hlq
  go_wp2
  go_roundg (gk - 1)
  case measure=>omega
  case rel=>exact ⟨i+1,by go_num,by omega,by omega,y,K3.out⟩
 have O:(((li:Nat):Int) != (q:Int))=true:=by simp; omega
 have s:Hid (¬ TabOk (P' ^ M') N' m lc):=hid fun h=>hlq (by rw [G.out,HQ.out]; exact h.2 i D)
 clear hlq
 go_wp2
 go_ret
 exact ⟨onS HB.out (onS KB.out K3.out),3,rfl,0,HU.out,.inr ⟨rfl,P',M',N',rfl,rfl,rfl,.inl ⟨s.out,rfl⟩⟩⟩
theorem zeh {q n N:Nat} {add mul:Nat->Nat->Nat} {pv:Nat->Nat} {V R:Nat->Nat->Nat} {pr se:Nat->Nat} (hL:FieldLaws q add mul) (h:SpanF q n N pv R) (hV:∀ i,i<n->∀ j,j<N->V i j<q) (hS:SameSp q add mul N n n V R) (hd:∀ i j,i<j->j<n->lE (R i) N≠lE (R j) N)
  (hp:ProfIs q add mul n N V pr) (hs:SecsIs q add mul n N V se):SizeOk q N pr se↔SizeIn q n N pv R:=by
 have e1:powS q pr (N+1)=powS q (fun i=>cntB (actA pv R N i) n) (N+1):=zbt (N+1) fun i hi=>by
  obtain ⟨a,b,ha,hb,e⟩:=hp i hi
  have:=SpanF.prof hL h hV hS hd (i:=i) (by omega) ha hb
  omega
 have e2:powS q se N=powS q (fun i=>cntB (actE pv R N i) n) N:=zbt N fun i hi=>by
  obtain ⟨a,b,ha,hb,e⟩:=hs i hi
  have:=SpanF.sects hL h hV hS hd hi ha hb
  omega
 unfold SizeOk SizeIn
 rw [e1,e2]
theorem zei {C:Nat->Nat->Int} {x:Nat->Nat} {m:Nat} (h:∀ i,i<m->0<=C i (x i)/\C i (x i)<=2147483648):∀ k,k<=m->0<=costW C x k/\costW C x k<=(k:Int)*2147483648
 | 0,_=>by show (0:Int)<=0/\(0:Int)<=_; omega
 | k+1,hk=>by
  have h1:=zei h k (by omega)
  have h2:=h k (by omega)
  show 0<=costW C x k+C k (x k)/\costW C x k+C k (x k)<=((k+1:Nat):Int)*2147483648
  omega
theorem zdQ (CA:Option Addr) (m cc:Nat) (lc:Nat->Nat) (C:Nat->Nat->Int) (WA:Option Addr) (l wc:Nat) (x:Nat->Nat) (w:World) (hC:IntRows w CA m lc C) (hx:IntsR w w.heap.size WA l (fun i=>((x i:Nat):Int))) (hl:l<=m) (hl2:l<=64) (hxl:∀ i,i<l->x i<lc i) (hp:PricedP m lc C) :
  Calls Tryz.prog 18 #[.slice CA m cc,.slice WA l wc] w fun e w'=>e=.returned (.int .i64 (costW C x l))/\Below w.heap.size w w':=by
 have HC:=hid hC
 have HX:=hid hx
 have F:=hid hxl
 have r:Hid (∀ k,k<=l->0<=costW C x k/\costW C x k<=(k:Int)*2147483648):=hid (zei fun i hi=>hp i (by omega) (x i) (hxl i hi))
 clear hC hx hxl hp
 go_enter Tryz.func18, Tryz.ntmps18
 go_upto_region 3 with fail
 go_loopg [5,6] l (fun gg sv iv wx=>∃ (i:Nat) (s:Int),iv=.int .i64 (i:Nat)/\sv=.int .i64 s/\i<=l/\l<=i+gg/\Hid (s=costW C x i)/\Below w.heap.size w wx)
 case atStart=>exact ⟨0,0,rfl,rfl,by omega,by omega,hid rfl,Below.refl _ _⟩
 obtain ⟨i,s,rfl,rfl,hi,K,HS,q⟩:=hrel
 have L:(0:Int)<=(i:Int):=by omega
 have HB:=hid q
 obtain ⟨w3,t⟩:=exx wr
 subst t
 clear q
 have o:=r.out i hi
 rw [<-HS.out] at o
 by_cases hlt:i<l
 rotate_left
 ·have d:¬ (i:Int)<(l:Int):=by omega
  obtain rfl:l=i:=by omega
  go_wp2
  go_ret
  exact ⟨by rw [<-HS.out]; rfl,HB.out⟩
 have d:(i:Int)<(l:Int):=by omega
 have v:i<m:=by omega
 have u:(i:Int)<(m:Int):=by omega
 obtain ⟨cb,co,RA,rc,D,_,c0,h1,h2,h3,h4⟩:=HC.out i v
 subst D
 replace c0:=cellS HB.out c0
 obtain ⟨wb,wo,B,_,x0⟩:=(HX.out.on HB.out).at hlt
 subst B
 have b:=F.out i hlt
 obtain ⟨xi,c⟩:=exx (x i)
 rw [<-c] at x0 b
 obtain ⟨rb,ro,E,_,r0⟩:=((show IntsR w w.heap.size RA (lc i) (C i) from h3).on HB.out).at b
 subst E
 obtain ⟨cv,g⟩:=exx (C i xi)
 rw [<-g] at r0
 obtain ⟨li,p⟩:=exx (lc i)
 rw [<-p] at c0 b
 have j:=r.out (i+1) hlt
 have a:costW C x (i+1)=s+cv:=by rw [HS.out,g,c]; rfl
 rw [a] at j
 have G:=hid a
 have z:0<=s+cv:=j.1
 have y:s+cv<=200000000000:=by omega
 clear j o
 have n:IntKind.i64.wrap (s+cv)=s+cv:=IntWalk.i64_in _ (by omega)
 have J:(0:Int)<=(xi:Int):=by omega
 have I:(xi:Int)<(li:Int):=by omega
 clear h1 h2 h3 h4 g p c a
 go_upto_region 5 with fail
 refine wp_region_held_drew (S:=fun X=>X.cell? ⟨cb,co+i,none⟩=some (.slice (some ⟨rb,ro,none⟩) li rc)/\X.cell? ⟨wb,wo+i,none⟩=some (.int .i64 (xi:Nat))/\X.cell? ⟨rb,ro+xi,none⟩=some (.int .i64 cv)) (by kernel_rfl) ⟨cellS (Below.refl _ _).drew c0,cellS (Below.refl _ _).drew x0,cellS (Below.refl _ _).drew r0⟩ (fun hHeld=>?_)
 obtain ⟨w4,hw,kb⟩:=dwx w3
 rw [<-hw] at hHeld ⊢;clear hw c0 x0 r0
 have H:=hid (onS HB.out kb)
 clear kb
 refine tkq 0 (h:=tkq 1 (h:=tkq 2 (h:=tkq 3 (h:=tkq 4 (h:=tkq 5 (h:=tkq 6 (h:=tkq 7 (h:=tkq 8 (h:=tkq 9 (h:=tkq 10 (h:=tkq 11 (h:=tkq 12 (h:=?_)))))))))))))
 refine wpAnyH_done (by kernel_rfl) ?_ _
 clear hHeld
 try rw [n]
 clear n
 go_wp2
 go_roundg (gk - 1)
 case measure=>omega
 case rel=>exact ⟨i+1,s+cv,by go_num,rfl,by omega,by omega,hid G.out.symm,H.out⟩
def refMr (N:Nat) (Wd:Nat->Nat->Nat) (C:Nat->Nat->Int):Nat->Nat->Nat->Int
 | 0,_,_=>4611686018427387904
 | k+1,i,a=>if Wd k i=a then min (refMr N Wd C k i a) (costW C (Wd k) N) else refMr N Wd C k i a
def refMx (N:Nat) (Wd:Nat->Nat->Nat) (C:Nat->Nat->Int) (k i u a:Nat):Int:=if u<i then refMr N Wd C (k+1) u a else refMr N Wd C k u a
theorem zgU {N:Nat} {Wd:Nat->Nat->Nat} {C:Nat->Nat->Int} (k i u v:Nat) {a:Nat} (h:Wd k i=a):updI (refMx N Wd C k i) i a (min (refMr N Wd C k i a) (costW C (Wd k) N)) u v=refMx N Wd C k (i+1) u v:=by
 unfold updI
 by_cases h1:u<i
 ·rw [if_neg (by omega)]
  unfold refMx
  rw [if_pos h1,if_pos (by omega)]
 by_cases h2:u=i
 rotate_left
 ·rw [if_neg fun hh=>h2 hh.1]
  unfold refMx
  rw [if_neg h1,if_neg (by omega)]
 subst h2
 have e3:refMx N Wd C k (u+1) u v=if Wd k u=v then min (refMr N Wd C k u v) (costW C (Wd k) N) else refMr N Wd C k u v:=by
  unfold refMx
  rw [if_pos (Nat.lt_succ_self _)]
  rfl
 rw [e3,h]
 by_cases h3:v=a
 ·subst h3
  rw [if_pos ⟨rfl,rfl⟩,if_pos rfl]
 rw [if_neg fun hh=>h3 hh.2,if_neg fun hh=>h3 hh.symm]
 unfold refMx
 rw [if_neg (Nat.lt_irrefl _)]
theorem zdR (P M:Nat) (A:Option Addr) (k0 c0 N q:Nat) (WA:Option Addr) (mw wc:Nat) (Wd:Nat->Nat->Nat) (CA:Option Addr) (m cc:Nat) (lc:Nat->Nat) (C:Nat->Nat->Int) (w:World) (hq:ordV (P:Int) (M:Int)=(q:Int)) (hq2:1<=q/\q<=256) (hW:IntRows w WA mw (fun _=>N) (fun t j=>((Wd t j:Nat):Int))) (hC:IntRows w CA m lc C) (hmw:mw<=1048576) (hN:N<=m) (hN2:N<=64) (hl:∀ t,t<mw->∀ j,j<N->Wd t j<lc j) (hlq:∀ t,t<mw->∀ j,j<N->Wd t j<q) (hp:PricedP m lc C) :
  Calls Tryz.prog 51 #[.agg #[.int .i64 (P:Nat),.int .i64 (M:Nat),.slice A k0 c0],.int .i64 (N:Nat),.slice WA mw wc,.slice CA m cc] w fun e w'=>Below w.heap.size w w'/\∃ g F,e=.returned (.slice (some ⟨g,0,none⟩) N N)/\w.heap.size<=g/\IntTab w' g (g+1) N F (fun _=>q) (fun i a=>refMr N Wd C mw i a):=by
 have HW:=hid hW
 have ap:=hid hC
 have al:=hid hl
 have b5:=hid hlq
 have ak:=hid hp
 have aa:=hid hq
 have bj:=hid hq2
 clear hW hC hl hlq hp hq
 obtain ⟨bd,bc⟩:=hq2
 obtain ⟨w1,Y,hB,rf⟩:=zaj w (.int .i64 (P:Nat)) (.int .i64 (M:Nat)) (.slice A k0 c0) 24
 have ay:w1.heap.size=w.heap.size+1:=by rw [Y]; simp
 have ag:=fun W=>zaf (P:=Tryz.prog) 25 22 _ 24 Tryz.underlying25 Tryz.infoInts rfl (N:Int) (by omega) (by omega) (by omega) W
 have H:=fun W=>zaf (P:=Tryz.prog) 22 3 _ 8 Tryz.underlying22 Tryz.infoInt rfl (q:Int) (by omega) (by omega) (by omega) W
 simp only [Int.toNat_natCast] at ag H
 go_enter Tryz.func51, Tryz.ntmps51
 go_upto_region 2 with fail
 rw [<-Y];clear Y
 obtain ⟨b0,a6⟩:=exx w.heap.size
 rw [<-a6] at rf;rw [<-a6]
 have af:w1.heap.size=b0+1:=by omega
 clear a6
 have ac:Hid (∀ X,Below w1.heap.size w1 X->X.cell? ⟨b0,0,none⟩=some (.int .i64 (P:Nat))/\X.cell? ⟨b0,1,none⟩=some (.int .i64 (M:Nat))/\X.cell? ⟨b0,2,none⟩=some (.slice A k0 c0)):=hid fun X hx=>⟨(zab rf hx).cell (i:=0) (by omega),(zab rf hx).cell (i:=1) (by omega),(zab rf hx).cell (i:=2) (by omega)⟩
 have HB:=hid hB
 clear hB rf ay
 have U:=World.rowIs_made w1 (.slice none 0 0) N 22
 have kb:=aly w1 (Obj.cells (madeCells #[Value.slice none 0 0] N) 22)
 obtain ⟨w2,ae⟩:=exx (w1.alloc (Obj.cells (madeCells #[Value.slice none 0 0] N) 22))
 rw [<-ae] at U kb ⊢
 obtain ⟨g,hg⟩:=exx w1.heap.size
 rw [<-hg] at U;rw [<-af,<-hg]
 have HG:=hid hg
 have aj:Hid (IntTab w2 g (g+1) N (fun _=>.slice none 0 0) (fun v=>if v<0 then q else 0) (fun _ _=>4611686018427387904)):=hid ((zaI (x:=fun _ _=>4611686018427387904) U).congr (fun v _=>(if_neg (by omega)).symm) (fun v _ k hk=>rfl))
 have K2:=hid kb
 clear ae U kb hg ag af
 go_upto_region 3 with fail
 go_loopg [10] N (fun gg iv wx=>∃ (i:Nat) (F:Nat->Value),iv=.int .i64 (i:Nat)/\i<=N/\N<=i+gg/\Hid (IntTab wx g (g+1) N F (fun v=>if v<i then q else 0) (fun _ _=>4611686018427387904))/\Hid (Below w1.heap.size w1 wx))
 case atStart=>exact ⟨0,_,rfl,by omega,by omega,aj,K2⟩
 clear aj K2
 obtain ⟨i,F,rfl,hi,bg,HT,KX⟩:=hrel
 have bh:(0:Int)<=(i:Int):=by omega
 obtain ⟨gK,az⟩:=exx gk
 subst az
 obtain ⟨w3,aw⟩:=exx wr
 subst aw
 by_cases hlt:i<N
 ·have a2:(i:Int)<(N:Int):=by omega
  obtain ⟨q0,q1,q2⟩:=ac.out _ KX.out
  go_wp2_with fail
  refine (za2 (P:Int) (M:Int) A k0 c0 w3).mono ?_
  rintro e w4 ⟨he,kb⟩
  rw [aa.out] at he
  subst he
  have K4:=hid kb
  clear kb q0 q1 q2
  have r0:=(HT.out.on K4.out).row.cell hlt
  have z0:=(HT.out.on K4.out).row.frozen i
  have T:=World.rowIs_made w4 (.int .i64 0) q 3
  have D:=aly w4 (Obj.cells (madeCells #[Value.int .i64 0] q) 3)
  have r1:=cellS D r0
  have z1:=((HT.out.on K4.out).on D).row.frozen i
  clear r0 z0
  go_upto_region 6 with fail
  clear r1 z1
  obtain ⟨w5,ad⟩:=exx (w4.alloc (Obj.cells (madeCells #[Value.int .i64 0] q) 3))
  rw [<-ad] at T D ⊢
  obtain ⟨gr,ah⟩:=exx w4.heap.size
  rw [<-ah] at T ⊢
  have Q:Hid (Own w5 w3.heap.size 3 1 (.slice (some ⟨gr,0,none⟩) q q) q (fun _ _=>.int .i64 0)):=hid (zbe T (by have:=K4.out.size; omega) (by unfold maxLen; omega))
  have K5:=hid (onS K4.out D)
  clear ad T D ah K4
  have hn:=HT.out.fresh (by omega) HT.out.row.lt K5.out hlt (y:=fun _=>0) Q.out
  have kb:=(onS KX.out K5.out).setCell (p:=⟨g,i,none⟩) (Nat.le_of_eq HG.out.symm) (.slice (some ⟨gr,0,none⟩) q q)
  obtain ⟨w6,hw⟩:=exx (w5.setCell ⟨g,i,none⟩ (.slice (some ⟨gr,0,none⟩) q q))
  rw [<-hw] at hn kb ⊢
  obtain ⟨F2,a8⟩:∃ F2,F2=fun u=>if u=i then Value.slice (some ⟨gr,0,none⟩) q q else F u:=⟨_,rfl⟩
  rw [<-a8] at hn
  have ab:Hid (F2 i=.slice (some ⟨gr,0,none⟩) q q):=hid (by rw [a8]; exact if_pos rfl)
  have L:Hid (IntTab w6 g (g+1) N F2 (fun v=>if v<i+1 then q else 0) (fun u a=>if u=i then (if a<0 then 4611686018427387904 else 0) else 4611686018427387904)):=hid (hn.congr (fun v hv=>by
   by_cases e:v=i
   ·subst e
    rw [if_pos rfl,if_pos (by omega)]
   ·have h1:(v<i)↔(v<i+1):=by omega
    simp only [if_neg e,h1]) (fun v hv k hk=>by
   by_cases e:v=i
   ·subst e
    rw [if_pos rfl,if_pos rfl,if_neg (by omega)]
   ·rw [if_neg e,if_neg e]))
  have K6:=hid kb
  clear hw hn kb a8 HT K5 Q KX
  go_upto_region 7 with fail
  go_loopg [11] q (fun gg jv wx=>∃ j:Nat,jv=.int .i64 (j:Nat)/\j<=q/\q<=j+gg/\Hid (IntTab wx g (g+1) N F2 (fun v=>if v<i+1 then q else 0) (fun u a=>if u=i then (if a<j then 4611686018427387904 else 0) else 4611686018427387904))/\Hid (Below w1.heap.size w1 wx))
  case atStart=>exact ⟨0,rfl,by omega,by omega,L,K6⟩
  clear L K6
  obtain ⟨j,rfl,hj,be,HT,KX⟩:=hrel
  have bf:(0:Int)<=(j:Int):=by omega
  obtain ⟨w7,au⟩:=exx wr
  subst au
  have b:=HT.out.row.cell hlt
  rw [ab.out] at b
  by_cases hlj:j<q
  rotate_left
  ·have a3:¬ (j:Int)<(q:Int):=by omega
   obtain rfl:q=j:=by omega
   have a9:Hid (IntTab w7 g (g+1) N F2 (fun v=>if v<i+1 then q else 0) (fun _ _=>4611686018427387904)):=hid (HT.out.congr (fun v _=>rfl) (fun u hu v hv=>by
    have ax:v<q:=by
     by_cases e:u<i+1
     ·rwa [if_pos e] at hv
     ·rw [if_neg e] at hv; omega
    show (if u=i then (if v<q then (4611686018427387904:Int) else 0) else 4611686018427387904)=4611686018427387904
    by_cases e:u=i
    ·rw [if_pos e,if_pos ax]
    ·rw [if_neg e]))
   clear HT
   go_wp2
   clear b
   go_roundg (gK - 1)
   case measure=>omega
   case rel=>exact ⟨i+1,F2,by go_num,by omega,by omega,a9,KX⟩
  have a3:(j:Int)<(q:Int):=by omega
  obtain ⟨rb,ro,rd,B,a1,o,rq,rz⟩:=HT.out.at (v:=i) hlt (k:=j) (by rw [if_pos (Nat.lt_succ_self i)]; exact hlj)
  rw [ab.out] at B
  injection B with k1 k3 k4
  injection k1 with k1
  injection k1 with k1 k2
  subst k1 k2
  clear k3 k4;rw [Nat.zero_add] at rq rz
  have d:=HT.out.set (y:=4611686018427387904) (by omega) hlt (k:=j) (by rw [if_pos (Nat.lt_succ_self i)]; exact hlj) (by rw [if_pos (Nat.lt_succ_self i)]; exact ab.out)
  rw [Nat.zero_add] at d
  have k9:=KX.out.setCell (p:=⟨gr,j,none⟩) (by have:=HG.out; show _<=gr; omega) (.int .i64 4611686018427387904)
  have R:=hid (d.congr (x':=fun u a=>if u=i then (if a<j+1 then 4611686018427387904 else 0) else 4611686018427387904) (fun v _=>rfl) (fun u _ v _=>by
   unfold updI
   by_cases e:u=i
   ·subst e
    by_cases e2:v=j
    ·subst e2
     rw [if_pos ⟨rfl,rfl⟩,if_pos rfl,if_pos (Nat.lt_succ_self _)]
    have h1:(v<j)↔(v<j+1):=by omega
    rw [if_neg fun h=>e2 h.2]
    simp only [h1]
   ·rw [if_neg fun h=>e h.1]
    simp only [if_neg e]))
  have KN:=hid k9
  clear d k9 a1 o
  go_wp2
  clear HT KX b rz
  go_roundg (gk - 1)
  case measure=>omega
  case rel=>exact ⟨j+1,by go_num,by omega,by omega,R,KN⟩
 have a2:¬ (i:Int)<(N:Int):=by omega
 obtain rfl:i=N:=by omega
 have ai:Hid (IntTab w3 g (g+1) i F (fun _=>q) (refMr i Wd C 0)):=hid (HT.out.congr (fun v hv=>if_pos hv) (fun v hv a _=>rfl))
 clear HT H
 go_upto_region 11 with fail
 go_loopg [12] mw (fun gg iv wx=>∃ t:Nat,iv=.int .i64 (t:Nat)/\t<=mw/\mw<=t+gg/\Hid (IntTab wx g (g+1) i F (fun _=>q) (refMr i Wd C t))/\Hid (Below w1.heap.size w1 wx))
 case atStart=>exact ⟨0,rfl,by omega,by omega,ai,KX⟩
 clear ai KX
 obtain ⟨t,rfl,ht,b7,HT,KX⟩:=hrel
 have b8:(0:Int)<=(t:Int):=by omega
 obtain ⟨gK2,a4⟩:=exx gk
 subst a4
 obtain ⟨w8,ar⟩:=exx wr
 subst ar
 by_cases htm:t<mw
 rotate_left
 ·have Z:¬ (t:Int)<(mw:Int):=by omega
  obtain rfl:t=mw:=by omega
  have b6:Hid (w.heap.size<=g):=hid (by have:=HG.out; have:=HB.out.size; omega)
  go_wp2
  go_ret
  exact ⟨onS HB.out KX.out,g,rfl,b6.out,F,HT.out⟩
 have Z:(t:Int)<(mw:Int):=by omega
 have L:Hid (IntTab w8 g (g+1) i F (fun _=>q) (refMx i Wd C t 0)):=hid (HT.out.congr (fun v _=>rfl) (fun u _ v _=>by unfold refMx; rw [if_neg (by omega)]))
 clear HT
 go_upto_region 14 with fail
 go_loopg [13] i (fun gg iv wx=>∃ s:Nat,iv=.int .i64 (s:Nat)/\s<=i/\i<=s+gg/\Hid (IntTab wx g (g+1) i F (fun _=>q) (refMx i Wd C t s))/\Hid (Below w1.heap.size w1 wx))
 case atStart=>exact ⟨0,rfl,by omega,by omega,L,KX⟩
 clear L KX
 obtain ⟨s,rfl,hs,ba,HT,KX⟩:=hrel
 have bb:(0:Int)<=(s:Int):=by omega
 obtain ⟨w9,aq⟩:=exx wr
 subst aq
 by_cases hsi:s<i
 rotate_left
 ·have a0:¬ (s:Int)<(i:Int):=by omega
  obtain rfl:s=i:=by omega
  have a9:Hid (IntTab w9 g (g+1) s F (fun _=>q) (refMr s Wd C (t+1))):=hid (HT.out.congr (fun v _=>rfl) (fun u hu v _=>by unfold refMx; rw [if_pos hu]))
  clear HT
  go_wp2
  go_roundg (gK2 - 1)
  case measure=>omega
  case rel=>exact ⟨t+1,by go_num,by omega,by omega,a9,KX⟩
 have a0:(s:Int)<(i:Int):=by omega
 have am:=hid (onS HB.out KX.out)
 obtain ⟨b1,o1,RA,rc,b4,_,x0w,_,_,n,_⟩:=HW.out t htm
 subst b4
 have O:Hid (IntsR w w.heap.size RA i (fun j=>((Wd t j:Nat):Int))):=hid n
 obtain ⟨ub,uo,b3,_,u0w⟩:=n.at hsi
 subst b3
 have u0:w9.cell? ⟨ub,uo+s,none⟩=some (.int .i64 ((Wd t s:Nat):Int)):=cellS am.out u0w
 have x0:=cellS am.out x0w
 obtain ⟨a,ha⟩:∃ a:Nat,a=Wd t s:=⟨_,rfl⟩
 rw [<-ha] at u0
 have I:a<q:=by rw [ha]; exact b5.out t htm s hsi
 have b2:(a:Int)<(q:Int):=by omega
 have bi:(0:Int)<=(a:Int):=by omega
 have c:Hid (∀ u v,updI (refMx i Wd C t s) s a (min (refMr i Wd C t s a) (costW C (Wd t) i)) u v=refMx i Wd C t (s+1) u v):=hid fun u v=>zgU t s u v ha.symm
 obtain ⟨rb,ro,rd,B,a1,o,rq,rz⟩:=HT.out.at (v:=s) hsi (k:=a) I
 have b:=HT.out.row.cell hsi
 rw [B] at b
 have V:=hid B
 have rq:w9.cell? ⟨rb,ro+a,none⟩=some (.int .i64 (refMx i Wd C t s s a)):=rq
 have em:refMx i Wd C t s s a=refMr i Wd C t s a:=by unfold refMx; rw [if_neg (Nat.lt_irrefl _)]
 rw [em] at rq
 obtain ⟨av,a7⟩:=exx (refMr i Wd C t s a)
 obtain ⟨cv,a5⟩:=exx (costW C (Wd t) i)
 rw [<-a7,<-a5] at c;rw [<-a7] at rq
 have ao:=hid a5
 have G:g≠rb:=by omega
 have E:b1≠rb:=by have:=World.block_lt_of_cell? _ _ x0w; have:=HB.out.size; have:=HG.out; simp at *; omega
 have an:Hid (w1.heap.size<=rb):=hid (by have:=HG.out; omega)
 clear n ha B a1 o em a7 a5 u0w x0w
 go_upto_region 17 with fail
 clear u0
 have kd:Below w9.heap.size w9 (World.drew w9):=(Below.refl _ _).drew
 replace b:=cellS kd b;replace x0:=cellS kd x0;replace rq:=cellS kd rq
 refine wp_region_held_drew (S:=fun X=>X.cell? ⟨g,s,none⟩=some (.slice (some ⟨rb,ro,none⟩) q rd)/\X.cell? ⟨b1,o1+t,none⟩=some (.slice (some ⟨ub,uo,none⟩) i rc)) (by kernel_rfl) ⟨b,x0⟩ (fun hHeld=>?_)
 obtain ⟨w10,hw⟩:=exx (World.drew w9)
 rw [<-hw] at hHeld b x0 rq kd ⊢
 have l:=hid kd
 clear hw kd
 refine tkq 0 (h:=tkq 1 (h:=tkq 2 (h:=tkq 3 (h:=tkq 4 (h:=tkq 5 (h:=tkq 6 (h:=tkq 7 (h:=tkq 8 (h:=tkq 9 (h:=tkq 10 (h:=tkq 12 (h:=tkq 13 (h:=tkq 14 (h:=tkq 15 (h:=tkq 16 (h:=?_))))))))))))))))
 clear hHeld
 refine rdq2 11 17 (h:=fun K hK=>?_) (h2:=fun K hK=>?_)
 ·go_simp
  refine bkq hK ⟨b,x0⟩ (h:=fun hHeld=>?_)
  clear hK K hHeld
  refine rdq 17 (h:=fun K hK=>?_)
  go_simp
  go_wp2_with fail
  refine (zdQ CA m cc lc C (some ⟨ub,uo,none⟩) i rc (Wd t) w10 (ap.out.on (onS HB.out (onS KX.out l.out))) (O.out.on (onS HB.out (onS KX.out l.out))) hN hN2 (al.out t htm) ak.out).mono ?_
  rintro e w11 ⟨he,kb⟩
  rw [<-ao.out] at he
  subst he
  replace b:=cellS kb b;replace x0:=cellS kb x0;replace rq:=cellS kb rq
  have z:=hid (onS l.out kb)
  clear kb l
  refine bkq hK ⟨b,x0⟩ (h:=fun hHeld=>?_)
  clear hK K
  refine tkq 18 (h:=tkq 19 (h:=?_))
  clear hHeld
  refine rdq 20 (h:=fun K hK=>?_)
  have hT:=HT.out.on z.out
  have zf:w11.frozen? ⟨rb,ro+a,none⟩=false:=by
   obtain ⟨b9,o9,d9,J,_,_,_,z9⟩:=hT.at (v:=s) hsi (k:=a) I
   rw [V.out] at J
   injection J with e1 _ _
   injection e1 with e1
   injection e1 with e1 e2
   subst e1 e2
   exact z9
  go_simp
  clear zf rq
  obtain ⟨nv,r⟩:=exx (min av cv)
  rw [<-r] at c
  try rw [<-r]
  clear r
  have d:=hT.set (y:=nv) (by omega) hsi (k:=a) I V.out
  have k9:=(onS KX.out z.out).setCell (p:=⟨rb,ro+a,none⟩) an.out (.int .i64 nv)
  have R:=hid (d.congr (x':=refMx i Wd C t (s+1)) (fun v _=>rfl) (fun u _ v _=>c.out u v))
  have KN:=hid k9
  clear hT d k9
  refine bkq hK ⟨zaa b (by simpa using G),zaa x0 (by simpa using E)⟩ (h:=fun hHeld=>?_)
  clear hK K hHeld
  refine wpAnyH_done (by kernel_rfl) ?_ _
  clear HT KX z c b x0
  go_wp2
  go_roundg (gk - 1)
  case measure=>omega
  case rel=>exact ⟨s+1,by go_num,by omega,by omega,R,KN⟩
 go_simp
 go_wp2_with fail
 refine (zdQ CA m cc lc C (some ⟨ub,uo,none⟩) i rc (Wd t) w10 (ap.out.on (onS HB.out (onS KX.out l.out))) (O.out.on (onS HB.out (onS KX.out l.out))) hN hN2 (al.out t htm) ak.out).mono ?_
 rintro e w11 ⟨he,kb⟩
 rw [<-ao.out] at he
 subst he
 replace b:=cellS kb b;replace x0:=cellS kb x0;replace rq:=cellS kb rq
 have z:=hid (onS l.out kb)
 clear kb l
 refine bkq hK ⟨b,x0⟩ (h:=fun hHeld=>?_)
 clear hK K;clear hHeld
 refine rdq 11 (h:=fun K hK=>?_)
 go_simp
 refine bkq hK ⟨b,x0⟩ (h:=fun hHeld=>?_)
 clear hK K
 refine tkq 18 (h:=tkq 19 (h:=?_))
 clear hHeld
 refine rdq 20 (h:=fun K hK=>?_)
 have hT:=HT.out.on z.out
 have zf:w11.frozen? ⟨rb,ro+a,none⟩=false:=by
  obtain ⟨b9,o9,d9,J,_,_,_,z9⟩:=hT.at (v:=s) hsi (k:=a) I
  rw [V.out] at J
  injection J with e1 _ _
  injection e1 with e1
  injection e1 with e1 e2
  subst e1 e2
  exact z9
 go_simp
 clear zf rq
 obtain ⟨nv,r⟩:=exx (min av cv)
 rw [<-r] at c
 try rw [<-r]
 clear r
 have d:=hT.set (y:=nv) (by omega) hsi (k:=a) I V.out
 have k9:=(onS KX.out z.out).setCell (p:=⟨rb,ro+a,none⟩) an.out (.int .i64 nv)
 have R:=hid (d.congr (x':=refMx i Wd C t (s+1)) (fun v _=>rfl) (fun u _ v _=>c.out u v))
 have KN:=hid k9
 clear hT d k9
 refine bkq hK ⟨zaa b (by simpa using G),zaa x0 (by simpa using E)⟩ (h:=fun hHeld=>?_)
 clear hK K hHeld
 refine wpAnyH_done (by kernel_rfl) ?_ _
 clear HT KX z c b x0
 go_wp2
 go_roundg (gk - 1)
 case measure=>omega
 case rel=>exact ⟨s+1,by go_num,by omega,by omega,R,KN⟩
theorem zhQ {P M:Int} {A:Option Addr} {k:Nat} {f:Nat->Int} {N:Int} {TC:Option Addr} {n:Nat} {ln:Nat->Nat} {V:Nat->Nat->Int} {m:Nat} {lc:Nat->Nat} {C:Nat->Nat->Int} {w0 w w':World} {e:Ending} {v:Int} (hr:IntsR w0 w0.heap.size A k f) (h:IntRows w0 TC n ln V)
    (h1:DecPost P M k f N n ln V m lc C w e w') (h2:ArgsV P M k f N n ln V m lc C v) :
    (v ≠ 0 ∧ e = .returned (.tuple #[.slice none 0 0, .int .i64 0, .int .i64 v])) ∨ (v = 0 ∧ FirstErr (CodeErrs P M k f N n ln V) 0 ∧ ∃ P' M' N' : Nat, P = P' ∧ M = M' ∧ N = N' ∧ TabOk (P' ^ M') N' m lc ∧ PricedP m lc C ∧
      ∃ g x,e=.returned (.tuple #[.slice (some ⟨g,0,none⟩) N' N',.int .i64 (costW C x N'),.int .i64 0])/\w'.rowIs g 3 N' (fun i=>.int .i64 ((x i:Nat):Int))/\w.heap.size<=g/\InSp (P' ^ M') (addF P' M') (mulF P' M' fun i=>(f i).toNat) n N' (natT V) x /\
           ∀ z,InSp (P' ^ M') (addF P' M') (mulF P' M' fun i=>(f i).toNat) n N' (natT V) z->costW C x N'<=costW C z N'/\(costW C z N'=costW C x N'->(∀ t,t<N'->x t=z t)∨LexLt (fun t=>((x t:Nat):Int)) (fun t=>((z t:Nat):Int)) N')):=by
  obtain ⟨_,u,hu,h1⟩:=h1
  obtain ⟨u2,b,h2⟩:=h2
  obtain rfl:u=u2:=FirstErr.unique hu b
  rcases h1 with ⟨h0,rfl⟩ | ⟨rfl,P',M',N',rfl,rfl,rfl,h1⟩
  · rcases h2 with ⟨_,rfl⟩ | ⟨h3,_⟩
    · exact .inl ⟨h0,rfl⟩
    · exact absurd h3 h0
  rcases h2 with ⟨h3,_⟩ | ⟨_,P2,M2,N2,e1,e2,e3,h2⟩
  · exact absurd rfl h3
  obtain rfl:P'=P2:=by omega
  obtain rfl:M'=M2:=by omega
  obtain rfl:N'=N2:=by omega
  rcases h1 with ⟨h3,rfl⟩ | ⟨h3,h4,rfl⟩ | ⟨h3,h4,pv,R,d,c,j,h1⟩
  · rcases h2 with ⟨_,rfl⟩ | ⟨h5,_⟩ | ⟨h5,_⟩
    · exact .inl ⟨by omega,rfl⟩
    · exact absurd h5 h3
    · exact absurd h5 h3
  · rcases h2 with ⟨h5,_⟩ | ⟨_,_,rfl⟩ | ⟨_,h5,_⟩
    · exact absurd h3 h5
    · exact .inl ⟨by omega,rfl⟩
    · exact absurd h5 h4
  rcases h2 with ⟨h5,_⟩ | ⟨_,h5,_⟩ | ⟨_,_,pr,se,hp,hs,h2⟩
  · exact absurd h3 h5
  · exact absurd h4 h5
  obtain ⟨P2,M2,N2,e1,e2,e3,hC⟩:=za1 hr h hu
  obtain rfl:P'=P2:=by omega
  obtain rfl:M'=M2:=by omega
  obtain rfl:N'=N2:=by omega
  have a:=zeh (fieldLaws hC.fld) d hC.rref.choose_spec.lt c j hp hs
  rcases h1 with ⟨h5,rfl⟩ | ⟨h5,h6⟩
  · rcases h2 with ⟨h7,_⟩ | ⟨_,rfl⟩
    · exact absurd (a.1 h7) h5
    · exact .inl ⟨by omega,rfl⟩
  rcases h2 with ⟨_,rfl⟩ | ⟨h7,_⟩
  · exact .inr ⟨rfl,hu,P',M',N',rfl,rfl,rfl,h3,h4,h6⟩
  · exact absurd (a.2 h5) h7
section
variable {q n N:Nat} {add mul:Nat->Nat->Nat} {V:Nat->Nat->Nat}
theorem zhR {x:Nat->Nat} (hx:InSp q add mul n N V x):∃ t,t<q ^ n/\∀ j,j<N->x j=spE add mul V (msgD q n t) n j:=by
 obtain ⟨c,h1,h2⟩:=hx
 refine ⟨valN q (fun j=>c (n - 1 - j)) n,za3 fun i hi=>h1 _ (by omega),fun j hj=>?_⟩
 rw [h2 j hj]
 refine zcs n fun u hu=>?_
 unfold msgD
 rw [zaX (fun i hi=>h1 _ (by omega)) _ (by omega),show n - 1 - (n - 1 - u)=u by omega]
theorem zio (hL:FieldLaws q add mul) (t:Nat):InSp q add mul n N V (fun j=>spE add mul V (msgD q n t) n j):=⟨msgD q n t,fun _ _=>zdA (by have:=hL.two; omega),fun _ _=>rfl⟩
end
end Go.Proofs.YtgekjfpapmlndaaGreat