/- Merged texts of a claim: PowPl, MinPlus, IntTab, PathPl, ZeroV, ZeroR, BoundV, MaxV, Proves, SynMem, Turn09, RefForward, RefPaths, Cmp11, SameN, RefIs, Check47, RefCP, Syn, Cont47, TChk, CheckP, IRepeat, VPot, Spans, Fits, SecPl, SortLay, SortLess, SortOwn. -/
import Derived.Test.YtgekjfpapmlndaaGreatTZ9
import Derived.Laws.StructEq
import Derived.Shelf.SlSortCmp.WholeK
import Derived.Shelf.SlSortCmp.Whole1
import Derived.Shelf.SlSortCmp.NoneTotal
import Derived.Shelf.SlicesG.Cmp
import Derived.Ground.SlgcProg
namespace Go.Proofs.YtgekjfpapmlndaaGreat
set_option maxRecDepth 100000
set_option maxHeartbeats 32000000
open KA KB KC KD KE KF
def SizeIn (q n N:Nat) (pv:Nat->Nat) (R:Nat->Nat->Nat):Prop:=powS q (fun i=>cntB (actA pv R N i) n) (N+1)<=65536/\powS q (fun i=>cntB (actE pv R N i) n) N<=262144
section
variable {q n N:Nat} {add mul:Nat->Nat->Nat} {pv:Nat->Nat} {R:Nat->Nat->Nat} {T:Trel}
theorem MinT.sums (hM:MinT q add mul n N pv R T):T.sumW (N+1)=(powS q (fun i=>cntB (actA pv R N i) n) (N+1):Nat)/\T.sumE N=powS q (fun i=>cntB (actE pv R N i) n) N:=by
 constructor
 ·have:∀ m,m<=N+1->T.sumW m=(powS q (fun i=>cntB (actA pv R N i) n) m:Nat):=by
   intro m
   induction m with
   | zero=>intro _; rfl
   | succ m ih =>
    intro h
    show T.sumW m+T.W m=((powS q (fun i=>cntB (actA pv R N i) n) m+q ^ cntB (actA pv R N m) n:Nat):Int)
    rw [ih (by omega),hM.w m (by omega)]
    push_cast
    rfl
  exact this _ (Nat.le_refl _)
 have:∀ m,m<=N->T.sumE m=powS q (fun i=>cntB (actE pv R N i) n) m:=by
  intro m
  induction m with
  | zero=>intro _; rfl
  | succ m ih =>
   intro h
   show T.sumE m+T.el m=powS q (fun i=>cntB (actE pv R N i) n) m+q ^ cntB (actE pv R N m) n
   rw [ih (by omega),hM.el m (by omega)]
 exact this _ (Nat.le_refl _)
theorem MinT.proper_in (hL:FieldLaws q add mul) (hq:q<=256) (hN:N<=64) (hM:MinT q add mul n N pv R T) (h:SizeIn q n N pv R):T.Proper :=
 hM.proper hL hq hN (by rw [hM.sums.1]; have:=h.1; omega) (by rw [hM.sums.2]; exact h.2)
theorem SpanF.ranks2 (hL:FieldLaws q add mul) {pv:Nat->Nat} {V R:Nat->Nat->Nat} (h:SpanF q n N pv R) (hV:∀ i,i<n->∀ j,j<N->V i j<q) (hS:SameSp q add mul N n n V R) (hd:∀ i j,i<j->j<n->lE (R i) N≠lE (R j) N)
  {i1 i a b:Nat} (hi1:i1<=N) (hi:i<=i1) (ha:RankIs q add mul n V 0 i1 a) (hb:RankIs q add mul n V i (N - i) b):a+b=cntB (fun s=>decide (pv s<i1) && decide ((i:Int)<=lE (R s) N)) n+n:=by
 obtain ⟨p1,W1,e,k⟩:=ha
 obtain ⟨p2,W2,d,f⟩:=hb
 have e1:SameSp q add mul i1 n a (fun s j=>R s (0+j)) W1:=fun x=>((hS.cut (lo:=0) (m:=i1) (by omega) x).symm.trans ((RowOps.sp hL (fun s hs j hj=>hV s hs (0+j) (by omega)) k).1 x)).trans (EchN.sp_top hL e x)
 have e2:SameSp q add mul (N - i) n b (fun s j=>R s (i+j)) W2:=fun x=>((hS.cut (lo:=i) (m:=N - i) (by omega) x).symm.trans ((RowOps.sp hL (fun s hs j hj=>hV s hs (i+j) (by omega)) f).1 x)).trans (EchN.sp_top hL d x)
 have k1:a=cntB (fun s=>decide (pv s<i1)) n:=by
  refine zdb hL (κ:=pv) (μ:=fun s=>s) (fun s hs j hj=>h.lt s hs (0+j) (by omega)) e.top e1 (fun s hs hD=>?_) (fun s t hs ht hD hne=>?_) (fun s hs hD j hj=>?_)
  ·have hD:=of_decide_eq_true hD
   refine ⟨hD,?_⟩
   show R s (0+pv s)≠0
   rw [Nat.zero_add,h.one s hs]
   omega
  ·have hD:=of_decide_eq_true hD
   rcases Nat.lt_or_ge t s with g | g
   ·exact .inr ⟨decide_eq_true (by have:=h.inc t s g hs; omega),g⟩
   refine .inl ?_
   show R t (0+pv s)=0
   rw [Nat.zero_add]
   exact h.low t ht _ (h.inc s t (by omega) ht)
  have hD:=of_decide_eq_false hD
  show R s (0+j)=0
  rw [Nat.zero_add]
  exact h.low s hs j (by omega)
 have k2:b=cntB (fun s=>decide ((i:Int)<=lE (R s) N)) n:=by
  have c:=fun s=>zhA (u:=R s) N
  refine zdb hL (κ:=fun s=>(lE (R s) N).toNat - i) (μ:=fun s=>N - (lE (R s) N).toNat) (fun s hs j hj=>h.lt s hs (i+j) (by omega)) d.top e2 (fun s hs hD=>?_) (fun s t hs ht hD hne=>?_) (fun s hs hD j hj=>?_)
  ·have hD:=of_decide_eq_true hD
   have h1:=c s
   have h2:=zie (u:=R s) N (lE (R s) N).toNat (by omega)
   refine ⟨by omega,?_⟩
   show R s (i+((lE (R s) N).toNat - i))≠0
   rw [show i+((lE (R s) N).toNat - i)=(lE (R s) N).toNat by omega]
   exact h2.2
  rotate_left
  ·have hD:=of_decide_eq_false hD
   have h1:=c s
   show R s (i+j)=0
   exact zbg (n:=N) (by omega) (by omega)
  have hD:=of_decide_eq_true hD
  have h1:=c s
  have h2:=c t
  show R t (i+((lE (R s) N).toNat - i))=0∨_
  rw [show i+((lE (R s) N).toNat - i)=(lE (R s) N).toNat by omega]
  have l:lE (R s) N≠lE (R t) N:=by
   rcases Nat.lt_or_ge s t with g | g
   ·exact hd s t g ht
   ·exact (hd t s (by omega) hs).symm
  by_cases g:lE (R t) N<lE (R s) N
  ·exact .inl (zbg (n:=N) (by omega) (by omega))
  ·exact .inr ⟨decide_eq_true (by omega),by omega⟩
 rw [k1,k2]
 exact zc9 n fun s hs=>by
  have h1:=h.pos hs
  by_cases g:pv s<i1
  ·exact .inl (decide_eq_true g)
  ·exact .inr (decide_eq_true (by omega))
theorem SpanF.prof (hL:FieldLaws q add mul) {pv:Nat->Nat} {V R:Nat->Nat->Nat} (h:SpanF q n N pv R) (hV:∀ i,i<n->∀ j,j<N->V i j<q) (hS:SameSp q add mul N n n V R) (hd:∀ i j,i<j->j<n->lE (R i) N≠lE (R j) N)
  {i a b:Nat} (hi:i<=N) (ha:RankIs q add mul n V 0 i a) (hb:RankIs q add mul n V i (N - i) b):a+b=cntB (actA pv R N i) n+n:=SpanF.ranks hL h hV hS hd hi ha hb
theorem SpanF.sects (hL:FieldLaws q add mul) {pv:Nat->Nat} {V R:Nat->Nat->Nat} (h:SpanF q n N pv R) (hV:∀ i,i<n->∀ j,j<N->V i j<q) (hS:SameSp q add mul N n n V R) (hd:∀ i j,i<j->j<n->lE (R i) N≠lE (R j) N)
  {i a b:Nat} (hi:i<N) (ha:RankIs q add mul n V 0 (i+1) a) (hb:RankIs q add mul n V i (N - i) b):a+b=cntB (actE pv R N i) n+n:=by
 have:=SpanF.ranks2 hL h hV hS hd (i1:=i+1) (i:=i) (by omega) (by omega) ha hb
 rw [this]
 congr 1
 refine zdD n fun s _=>?_
 unfold actE
 congr 1
 exact decide_eq_decide.2 (by omega)
end
open Go.RowKit
def Cost (a:Int):Prop:=0<=a/\a<=4611686018427387904
def capI (a b:Int):Int:=if 4611686018427387904<a+b then 4611686018427387904 else a+b
theorem zbh {a b:Int} (ha:Cost a) (hb:Cost b):Cost (capI a b):=by
 unfold Cost capI at *
 split <;> omega
theorem zbu {a b:Int} (h:a+b<=4611686018427387904):capI a b=a+b:=if_neg (by omega)
theorem zec {a b:Int} (ha:Cost a) (hb:Cost b):Cost (min a b):=by
 unfold Cost at *
 omega
theorem zde (a:Int) (w:World) (ha:Cost a):Calls Tryz.prog 180 #[.int .i64 a] w fun e w'=>e=.returned (.int .i64 a)/\Below w.heap.size w w':=by
 unfold Cost at ha
 have h1:max a 0=a:=by omega
 have h2:min a 4611686018427387904=a:=by omega
 go_enter Tryz.func180, Tryz.ntmps180
 go_wp2
 go_ret
 exact ⟨by first | rfl | (simp only [h1,h2]) | (rw [h1,h2]),Below.refl _ _⟩
theorem zfQ (a b:Int) (w:World) (ha:Cost a) (hb:Cost b):Calls Tryz.prog 294 #[.int .i64 a,.int .i64 b] w fun e w'=>e=.returned (.int .i64 (capI a b))/\Below w.heap.size w w':=by
 unfold Cost at ha hb
 have hw:IntKind.i64.wrap (4611686018427387904 - b)=4611686018427387904 - b:=IntWalk.i64_in _ (by omega)
 go_enter Tryz.func294, Tryz.ntmps294
 by_cases h:4611686018427387904<a+b
 ·have hd:¬ a<=4611686018427387904 - b:=by omega
  have d:4611686018427387904 - b<a:=by omega
  have hc:=hid (show capI a b=4611686018427387904 from if_pos h)
  clear h
  go_wp2
  go_ret
  exact ⟨by rw [hc.out]; rfl,Below.refl _ _⟩
 have hd:a<=4611686018427387904 - b:=by omega
 have d:¬ 4611686018427387904 - b<a:=by omega
 have c:IntKind.i64.wrap (a+b)=a+b:=IntWalk.i64_in _ (by omega)
 have hc:=hid (show capI a b=a+b from if_neg h)
 clear h
 go_wp2
 go_ret
 exact ⟨by rw [hc.out]; first | rfl | (rw [c]; rfl),Below.refl _ _⟩
theorem zcz (w:World):Calls Tryz.prog 119 #[.agg #[]] w fun e w'=>e=.returned (.int .i64 4611686018427387904)/\Below w.heap.size w w':=by
 go_enter Tryz.func119, Tryz.ntmps119
 go_wp2
 go_ret
 exact ⟨rfl,(Below.refl _ _).alloc (Nat.le_refl _) _⟩
theorem zeC (w:World):Calls Tryz.prog 293 #[.agg #[]] w fun e w'=>e=.returned (.int .i64 0)/\Below w.heap.size w w':=by
 go_enter Tryz.func293, Tryz.ntmps293
 go_wp2
 go_ret
 exact ⟨rfl,(Below.refl _ _).alloc (Nat.le_refl _) _⟩
theorem zdf (a b:Int) (w:World) (ha:Cost a) (hb:Cost b):Calls Tryz.prog 120 #[.agg #[],.int .i64 a,.int .i64 b] w fun e w'=>e=.returned (.int .i64 (min a b))/\Below w.heap.size w w':=by
 have g:=aly w (Obj.cells #[] 158)
 have HA:=hid ha
 have HB:=hid hb
 clear ha hb
 go_enter Tryz.func120, Tryz.ntmps120
 go_wp2_with fail
 refine (zde a _ HA.out).mono ?_
 rintro e w1 ⟨rfl,hb⟩
 have d:=onS g hb
 clear hb g
 go_wp2_with fail
 refine (zde b _ HB.out).mono ?_
 rintro e w2 ⟨rfl,hb⟩
 have c:=onS d hb
 clear hb d
 by_cases h:a<=b
 ·have h2:¬ b<a:=by omega
  have hm:=hid (show min a b=a by omega)
  go_wp2
  go_ret
  exact ⟨by rw [hm.out]; rfl,c⟩
 have h2:b<a:=by omega
 have hm:=hid (show min a b=b by omega)
 go_wp2
 go_ret
 exact ⟨by rw [hm.out]; rfl,c⟩
theorem zaV (a b:Int) (w:World) (ha:Cost a) (hb:Cost b):Calls Tryz.prog 292 #[.agg #[],.int .i64 a,.int .i64 b] w fun e w'=>e=.returned (.int .i64 (capI a b))/\Below w.heap.size w w':=by
 have g:=aly w (Obj.cells #[] 158)
 have HA:=hid ha
 have HB:=hid hb
 clear ha hb
 go_enter Tryz.func292, Tryz.ntmps292
 go_wp2_with fail
 refine (zde a _ HA.out).mono ?_
 rintro e w1 ⟨rfl,hb⟩
 have d:=onS g hb
 clear hb g
 go_wp2_with fail
 refine (zde b _ HB.out).mono ?_
 rintro e w2 ⟨rfl,hb⟩
 have c:=onS d hb
 clear hb d
 go_wp2_with fail
 refine (zfQ a b _ HA.out HB.out).mono ?_
 rintro e w3 ⟨rfl,hb⟩
 have h:=onS c hb
 clear hb c
 obtain ⟨x,hx⟩:=exx (capI a b)
 have HX:=hid hx
 rw [<-hx];clear hx
 go_wp2
 go_ret
 exact ⟨by rw [<-HX.out]; rfl,h⟩
def updI (x:Nat->Nat->Int) (v k:Nat) (y:Int):Nat->Nat->Int:=fun u j=>if u=v/\j=k then y else x u j
theorem zij (x:Nat->Nat->Int) (v k:Nat) (y:Int):updI x v k y v k=y:=if_pos ⟨rfl,rfl⟩
theorem zfR {x:Nat->Nat->Int} {v k u j:Nat} {y:Int} (h:¬ (u=v/\j=k)):updI x v k y u j=x u j:=if_neg h
def IntTab (w:World) (g base m:Nat) (F:Nat->Value) (n:Nat->Nat) (x:Nat->Nat->Int):Prop :=
 TabOwn w g base 22 3 1 m F n (fun v i _=>.int .i64 (x v i))
section
variable {w w':World} {g base m:Nat} {F:Nat->Value} {n n':Nat->Nat} {x x':Nat->Nat->Int}
theorem IntTab.on (h:IntTab w g base m F n x) (hb:Below w.heap.size w w'):IntTab w' g base m F n x:=⟨zab h.row hb,fun v hv=>(h.own v hv).on hb,h.apart⟩
theorem IntTab.congr (h:IntTab w g base m F n x) (e1:∀ v,v<m->n v=n' v) (e2:∀ v,v<m->∀ k,k<n v->x v k=x' v k):IntTab w g base m F n' x' :=
 ⟨h.row,fun v hv=>by
  rw [<-e1 v hv]
  exact (h.own v hv).congr fun i hi j _=>by
   show Value.int .i64 (x v i)=.int .i64 (x' v i)
   rw [e2 v hv i hi],h.apart⟩
theorem IntTab.at (h:IntTab w g base m F n x) {v k:Nat} (hv:v<m) (hk:k<n v):∃ b o d,F v=.slice (some ⟨b,o,none⟩) (n v) d/\base<=b/\b<w.heap.size/\w.cell? ⟨b,o+k,none⟩=some (.int .i64 (x v k))/\w.frozen? ⟨b,o+k,none⟩=false:=by
 have h1:=h.own v hv
 obtain ⟨b,o,d,e,hb,hl,_,_,hc⟩:=h1.form (by omega)
 have a:=hc k hk 0 (by omega)
 rw [Nat.mul_one,Nat.add_zero] at a
 refine ⟨b,o,d,e,hb,hl,a,?_⟩
 rw [e] at h1
 exact h1.frozen (o+k)
theorem IntTab.set (h:IntTab w g base m F n x) (hgb:g<base) {v k b o d:Nat} {y:Int} (hv:v<m) (hk:k<n v) (hF:F v=.slice (some ⟨b,o,none⟩) (n v) d) :
  IntTab (w.setCell ⟨b,o+k,none⟩ (.int .i64 y)) g base m F n (updI x v k y):=by
 have c:(F v).ownBlock=some b:=by rw [hF]; rfl
 have l:=(h.own v hv).lt b c
 refine ⟨h.row.setOther (by simp; omega) _,fun u hu=>?_,h.apart⟩
 by_cases e:u=v
 ·subst e
  have k1:=h.own u hu
  rw [hF] at k1 ⊢
  have ks:=k1.set (a:=k) (b:=0) hk (by omega) (.int .i64 y)
  rw [Nat.mul_one,Nat.add_zero] at ks
  exact ks.congr fun i _ j hj=>by
   obtain rfl:j=0:=by omega
   show (if i=k/\0=0 then _ else _)=Value.int .i64 (updI x u k y u i)
   unfold updI
   by_cases ei:i=k
   ·rw [if_pos ⟨ei,rfl⟩,if_pos ⟨rfl,ei⟩]
   ·rw [if_neg fun hh=>ei hh.1,if_neg fun hh=>ei hh.2]
 have k1:=h.own u hu
 have f:(F u).ownBlock≠some b:=fun hh=>by
  rcases h.apart u v hu hv e with h0 | h0
  ·rw [h0] at hh; cases hh
  ·rw [c] at h0; exact h0 hh
 exact (k1.setCell (a:=⟨b,o+k,none⟩) f _).congr fun i _ j _=>by
  show Value.int .i64 (x u i)=.int .i64 (updI x v k y u i)
  rw [zfR fun hh=>e hh.1]
theorem IntTab.put (h:IntTab w g base m F n x) (hgb:g<base) {v:Nat} (hv:v<m) {v':Value} {k':Nat} {y:Nat->Int} (hown:Own w' base 3 1 v' k' (fun i _=>.int .i64 (y i))) (hg:w.grownBy w' (F v).ownBlock) (hat:v'.ownBlock=(F v).ownBlock∨v'.ownBlock=some w.heap.size) :
  IntTab (w'.setCell ⟨g,v,none⟩ v') g base m (fun u=>if u=v then v' else F u) (fun u=>if u=v then k' else n u) (fun u=>if u=v then y else x u):=by
 have h1:=TabOwn.put h hgb hv hown hg hat
 refine ⟨h1.row,fun u hu=>?_,h1.apart⟩
 have h2:=h1.own u hu
 by_cases e:u=v
 ·simp only [if_pos e] at h2 ⊢
  exact h2
 ·simp only [if_neg e] at h2 ⊢
  exact h2
theorem IntTab.rows (h:IntTab w g base m F n x) (hx:∀ v,v<m->∀ k,k<n v -> -9223372036854775808<=x v k/\x v k<=9223372036854775807):IntRows w (some ⟨g,0,none⟩) m n x:=fun i hi=>by
 have h1:=h.own i hi
 obtain ⟨A,c,e⟩:=h1.shape
 have hc:=h.row.cell hi
 rw [e] at h1 hc
 exact ⟨g,0,A,c,rfl,h.row.lt,by rw [Nat.zero_add]; exact hc,h1.capL.1,h1.capL.2,h1.rd rfl,fun j hj=>hx i hi j hj⟩
end
theorem zaI {w:World} {g base m:Nat} {x:Nat->Nat->Int} (h:w.rowIs g 22 m (fun _=>.slice none 0 0)):IntTab w g base m (fun _=>.slice none 0 0) (fun _=>0) x :=
 ⟨h,fun _ _=>Own.nil _ _ _ _ _,fun _ _ _ _ _=>.inl rfl⟩
theorem zan {ops:Array Oper} {o:Oper} {a:Act} {w:World} {K:Act->World->Prop} {Q:Exit->Act->World->Prop} {E:Prop} (hgd:o.guard=none) (sl y:Operand)
  (ho:o.op=.call { callee:=.builtin .append,args:=#[sl,y],argTypes:=#[22, 22] })
  (base:Nat) (v:Value) (k:Nat) (x:Nat->Int) (hv:a.eval sl=v) (h:Own w base 3 1 v k (fun i _=>.int .i64 (x i))) (hbase:base<=w.heap.size) (hk:k<=1048576)
  (b c:Nat) (hy:a.eval y=.slice (some ⟨b,0,none⟩) 1 c) (c0:w.cell? ⟨b,0,none⟩=some (.int .i64 (x k)))
  (hK:∀ v' w',Own w' base 3 1 v' (k+1) (fun i _=>.int .i64 (x i))->w.grownBy w' v.ownBlock->(v'.ownBlock=v.ownBlock∨v'.ownBlock=some w.heap.size)->K (a.put o.dst v') w') :
  if Region.wanted o (yielded ops a.tmps)=true then Oper.wp Tryz.prog o a w K Q else E:=by
 obtain ⟨i0,qi0,qz0,qz1,qz2⟩:=info_parts Tryz.infoInt
 exact zbz w hgd sl y _ ho base 3 i0 _ 1 8 Tryz.underlying22 qi0 qz0 qz1 qz2 rfl (by omega) v k _ hv h ⟨b,0,none⟩ c hy (fun j hj=>by
   obtain rfl:j=0:=by omega
   exact c0) (fun _ _=>rfl) (by unfold maxLen; omega) (by omega) hbase hK
theorem Trel.ordP {T:Trel} {i:Nat} (h:T.secOk i):∀ q j,j<q->q<T.el i->T.fr i j<T.fr i q∨T.fr i j=T.fr i q/\T.lb i j<T.lb i q:=by
 intro q
 induction q with
 | zero=>intro j hj; omega
 | succ q ih =>
  intro j hj hq
  have h1:=(h.1 (q+1) hq).2.2 (by omega)
  unfold Trel.after at h1
  rw [Nat.add_sub_cancel] at h1
  by_cases e:j=q
  ·rw [e]; exact h1
  ·have h2:=ih j (by omega) (by omega)
   omega
open Go.ChangeShapes Go.WideShapes Go.ChangeAt
theorem ze4 (b:Nat) (U:Value) (n c:Nat) (w:World) (hcell:w.cell? ⟨b,0,none⟩=some U) (hU:U.oneCell'=true) (h1:1<=n) (hn:n<=1048576) :
  Calls Tryz.prog 118 #[.slice (some ⟨b,0,none⟩) 1 c,.int .i64 (n:Nat)] w fun e w' =>
   ∃ g,e=.returned (.slice (some ⟨g,0,none⟩) n n)/\w.heap.size<=g/\w'.rowIs g 3 n (fun _=>U)/\Below w.heap.size w w':=by
 have T:¬ (n:Int)<0:=by omega
 have N:IntKind.u64.wrap (n:Int)=(n:Int):=IntWalk.u64_in _ (by omega)
 have O:IntKind.i64.wrap (n:Int)=(n:Int):=IntWalk.i64_in _ (by omega)
 go_enter Tryz.func118, Tryz.ntmps118
 go_wp2_with fail
 refine (zig n (by omega) w).mono ?_
 rintro e w1 ⟨rfl,rfl⟩
 have R:¬ (n:Int) > 9223372036854775807:=by omega
 have G:decide ((n:Int) > 9223372036854775807)=false:=by simp; omega
 have F:decide (9223372036854775807<(n:Int))=false:=by simp; omega
 have s:=fun W=>zaf (P:=Tryz.prog) 22 3 _ 8 Tryz.underlying22 Tryz.infoInt rfl (n:Int) (by omega) (by omega) (by omega) W
 simp only [Int.toNat_natCast] at s
 go_upto_region 7 with fail
 obtain ⟨i0,J⟩:∃ i,Tryz.prog.info? 3 = some i:=by cases h:Tryz.prog.info? 3 with | none=>have:=Tryz.infoInt; simp [h] at this | some i=>exact ⟨i,rfl⟩
 have z:(Tryz.prog.info? 3).map (·.size)=some 1:=by
  have:=Tryz.infoInt
  rw [J] at this ⊢
  simp only [Option.map_some,Option.some.injEq,Prod.mk.injEq] at this ⊢
  exact this.2.1
 have q:(w1.alloc (Obj.cells (madeCells #[Value.int .i64 0] n) 3)).heap[w1.heap.size]?=some (.cells (filled U (.int .i64 0) 0 n).toArray 3 (0,0)):=by
  rw [<-zcu,Array.toArray_toList]
  exact heap_alloc_new _ _
 have r:=aly w1 (Obj.cells (madeCells #[Value.int .i64 0] n) 3)
 have x:=cellS r hcell
 obtain ⟨wm,y⟩:=exx (w1.alloc (Obj.cells (madeCells #[Value.int .i64 0] n) 3))
 rw [<-y] at q r x ⊢
 obtain ⟨g,hg⟩:=exx w1.heap.size
 have o:w1.heap.size<=g:=by omega
 rw [<-hg] at q ⊢
 have M:=hid x
 clear y s x hg hcell
 have a:Hid (∀ j v,(List.replicate 1 U)[j]?=some v->wm.cell? ((⟨b,0,none⟩:Addr).add j)=some v):=fun j v hv=>by
  have hj:j=0:=by
   have:=(List.getElem?_eq_some_iff.1 hv).1
   simp at this; omega
  subst hj
  have:U=v:=by simpa using hv
  rw [<-this]
  exact M.out
 have p:Hid (∀ m,∀ v ∈ List.replicate m U,v.oneCell'=true):=fun m v hv=>by rw [List.eq_of_mem_replicate hv]; exact hU
 have l:Hid (0+(List.replicate 1 U).length<=(filled U (.int .i64 0) 0 n).length):=by
  show _<=_
  rw [zb5 _ _ (by omega)]; simp; omega
 have d:Hid ((List.replicate 1 U).length=Nat.min 1 n):=by show 1=min 1 n; omega
 go_wp2_with (first | (refine wpList_copy_splice (cur:=filled U (.int .i64 0) 0 n) (cs:=List.replicate 1 U) (B:=w1.heap.size) (w0:=w1) rfl (.tmp 31) (.tmp 32) 22 22 rfl 3 Tryz.underlying22 z (some ⟨g,0,none⟩) (some ⟨b,0,none⟩) n n 1 c rfl rfl g 0 3 q d.out (fun _=>⟨rfl,_,rfl,a.out⟩) l.out (p.out 1) r o ?_; intro w2 hm2 hb2))
 have C:Hid (w2.heap[g]?=some (.cells (filled U (.int .i64 0) 1 n).toArray 3 (0,0))):=by
  have:=hm2.out
  rwa [zb6] at this
 clear q r hm2 hU d l a
 go_wp2
 go_loopg [8] n (fun gg iv wx=>∃ k:Nat,iv=.int .i64 (k:Nat)/\1<=k/\k<=n/\n<=k+gg/\Hid (wx.heap[g]?=some (.cells (filled U (.int .i64 0) k n).toArray 3 (0,0)))/\Below w1.heap.size w1 wx)
 case atStart=>exact ⟨1,rfl,by omega,by omega,by omega,C,hb2⟩
 clear C hb2
 obtain ⟨k,rfl,a0,hk,Z,HM,hb⟩:=hrel
 have a1:(0:Int)<=(k:Int):=by omega
 by_cases hlt:k<n
 rotate_left
 ·obtain rfl:k=n:=by omega
  have u:wr.rowIs g 3 k (fun _=>U):=⟨_,HM.out,by simp [filled],fun i hi=>by
   rw [List.getElem?_toArray,zdF hi]⟩
  go_wp2
  go_ret
  exact ⟨g,rfl,o,u,hb⟩
 have H:(k:Int)<(n:Int):=by omega
 obtain ⟨m,hm⟩:=exx (min k (n - k))
 have V:1<=m:=by omega
 have s:m<=k:=by omega
 have Y:k+m<=n:=by omega
 have I:(k:Int)<=(n:Int):=by omega
 have X:k≠n:=by omega
 have Q:¬ n=k:=by omega
 have a:Hid (∀ j v,(List.replicate m U)[j]?=some v->(World.drew wr).cell? ((⟨g,0,none⟩:Addr).add j)=some v):=fun j v hv=>by
  have hj:j<m:=by
   have:=(List.getElem?_eq_some_iff.1 hv).1
   simpa using this
  have E:U=v:=by
   rw [List.getElem?_replicate,if_pos hj] at hv
   simpa using hv
  rw [zb1,Nat.zero_add,<-E]
  show wr.cell? ⟨g,j,none⟩=some U
  rw [cell_of_row wr g j _ _ _ HM.out,List.getElem?_toArray,zdF (by omega)]
 have l:Hid (k+(List.replicate m U).length<=(filled U (.int .i64 0) k n).length):=by
  show _<=_
  rw [zb5 _ _ hk]; simp; omega
 have d:Hid ((List.replicate m U).length=Nat.min k (n - k)):=by show _=_; rw [List.length_replicate]; exact hm
 clear hm
 have D:IntKind.i64.wrap ((k:Int)+(m:Int))=(k:Int)+(m:Int):=IntWalk.i64_in _ (by omega)
 go_upto_region 9 with fail
 refine wp_region_held_drew (S:=fun w'=>Below w1.heap.size w1 w') (by kernel_rfl) hb.drew (fun hHeld=>?_)
 refine tkq 0 (h:=tkq 1 (h:=tkq 2 (h:=tkq 3 (h:=tkq 4 (h:=tkq 5 (h:=tkq 6 (h:=?_)))))))
 refine rdq 7 (h:=fun K hK=>?_)
 refine step_copy_splice (cur:=filled U (.int .i64 0) k n) (cs:=List.replicate m U) (B:=w1.heap.size) (w0:=w1) (by rfl) (.tmp 41) (.tmp 44) 22 22 (by rfl) 3 Tryz.underlying22 z (some ⟨g,k,none⟩) (some ⟨g,0,none⟩) (n - k) (n - k) k n (by rfl) (by rfl) g k 3 HM.out d.out (fun _=>⟨rfl,_,rfl,a.out⟩) l.out (p.out m) hb.drew o ?_
 intro w3 hm3 hb3
 refine bkq hK hb3 (h:=fun hHeld=>?_)
 clear hK K
 refine tkq 8 (h:=tkq 9 (h:=?_))
 refine wpAnyH_done (by kernel_rfl) ?_ _
 clear hHeld
 have L:Hid (w3.heap[g]?=some (.cells (filled U (.int .i64 0) (k+m) n).toArray 3 (0,0))):=by
  have:=hm3.out
  rwa [zb6] at this
 clear hm3
 go_wp2
 go_roundg (gk - 1)
 case measure=>omega
 case rel=>exact ⟨k+m,by go_num,by omega,by omega,by omega,L,hb3⟩
theorem IntTab.fresh {w w':World} {g base m:Nat} {F:Nat->Value} {n:Nat->Nat} {x:Nat->Nat->Int} (h:IntTab w g base m F n x) (hgb:g<base) (hbw:base<=w.heap.size) (kb:Below w.heap.size w w') {v:Nat} (hv:v<m) {v':Value} {k':Nat} {y:Nat->Int} (hown:Own w' w.heap.size 3 1 v' k' (fun i _=>.int .i64 (y i))) :
  IntTab (w'.setCell ⟨g,v,none⟩ v') g base m (fun u=>if u=v then v' else F u) (fun u=>if u=v then k' else n u) (fun u=>if u=v then y else x u):=by
 have h1:=h.on kb
 refine ⟨(h1.row.set v v').congr fun u _=>by split <;> rfl,fun u hu=>?_,fun a b ha hb hab=>?_⟩
 ·by_cases e:u=v
  ·subst e
   simp only [if_true]
   exact (hown.mono hbw).setCell (fun e=>by have h5:w.heap.size<=g:=(hown.lt _ e).1; omega) _
  ·simp only [if_neg e]
   exact (h1.own u hu).setCell (fun e=>by have h5:base<=g:=((h1.own u hu).lt _ e).1; omega) _
 by_cases ea:a=v
 ·have eb:¬ b=v:=fun e=>hab (by rw [ea,e])
  simp only [if_pos ea,if_neg eb]
  cases hfa:v'.ownBlock with
  | none=>exact .inl rfl
  | some k =>
   right
   intro e2
   have h5:=(hown.lt k hfa).1
   have h6:=((h.own b hb).lt k e2.symm).2
   omega
 simp only [if_neg ea]
 by_cases eb:b=v
 rotate_left
 ·simp only [if_neg eb]; exact h.apart a b ha hb hab
 simp only [if_pos eb]
 cases hfa:(F a).ownBlock with
 | none=>exact .inl rfl
 | some k =>
  right
  intro e2
  have h5:=(hown.lt k e2.symm).1
  have h6:=((h.own a ha).lt k hfa).2
  omega
theorem zgG {w:World} {g P M:Nat} {m:Nat->Nat} (x y:Nat) (h:GF w w.heap.size g P M m) (hx:x<P ^ M) (hy:y<P ^ M) (hy0:y≠0) :
  Calls Tryz.prog 142 #[.pointer (some ⟨g,0,none⟩),.int .i64 (x:Nat),.int .i64 (y:Nat)] w fun e w'=>Below w.heap.size w w'/\∃ a:Nat,e=.returned (.tuple #[.int .i64 (a:Nat),.int .i64 0])/\a<P ^ M/\mulF P M m a y=x:=by
 have HG:=hid h
 have hL:=fieldLaws h.ok
 have HL:=hid hL
 have d:=zal hx
 have c:=zal hy
 have k:=hid d
 have j:=hid c
 clear h hL d c
 go_enter Tryz.func142, Tryz.ntmps142
 go_wp2_with fail
 refine (zc5 (y:Int) HG.out).mono ?_
 rintro e w1 ⟨kb,hc⟩
 have HB:=hid kb
 clear kb;rw [j.out] at hc
 rcases hc with ⟨h0,_⟩ | ⟨_,v,rfl,hv,_,b⟩
 ·exact absurd h0 hy0
 have i:=zal hv
 go_wp2_with fail
 refine (zaU (x:Int) (v:Int) (HG.out.on HB.out)).mono ?_
 rintro e w2 ⟨rfl,kb⟩
 rw [k.out,i];replace HB:=hid (onS HB.out kb)
 obtain ⟨a,ha⟩:=exx (mulF P M m x v)
 rw [<-ha]
 have HA:Hid (a<P ^ M/\mulF P M m a y=x):=hid (by
  have hL:=HL.out
  rw [ha]
  refine ⟨hL.mulLt _ _,?_⟩
  rw [hL.mulAssoc x v y hx hv hy,hL.mulComm v y hv hy,b,hL.mulOne hx])
 clear ha b hv i kb
 go_wp2
 go_ret2
 exact ⟨HB.out,a,rfl,HA.out⟩
theorem zdg (A:Option Addr) (n c:Nat) (u:Nat->Nat) (w:World) (h:IntsR w w.heap.size A n (fun j=>((u j:Nat):Int))) (hn:n<=1048576) :
  Calls Tryz.prog 141 #[.slice A n c] w fun e w'=>e=.returned (.tuple #[.int .i64 (fE u n),.int .i64 (lE u n)])/\Below w.heap.size w w':=by
 have HA:=hid h
 clear h
 go_enter Tryz.func141, Tryz.ntmps141
 go_upto_region 3 with fail
 go_loopg [4,5,10] n (fun gg fv lv iv wx=>∃ k:Nat,iv=.int .i64 (k:Nat)/\fv=.int .i64 (fE u k)/\lv=.int .i64 (lE u k)/\k<=n/\n<=k+gg/\Below w.heap.size w wx)
 case atStart=>exact ⟨0,rfl,rfl,rfl,by omega,by omega,Below.refl _ _⟩
 obtain ⟨k,rfl,rfl,rfl,hk,p,i⟩:=hrel
 have q:(0:Int)<=(k:Int):=by omega
 have HB:=hid i
 obtain ⟨w3,l⟩:=exx wr
 subst l
 clear i
 obtain ⟨F,hF⟩:=exx (fE u k)
 obtain ⟨L,hL⟩:=exx (lE u k)
 rw [<-hF,<-hL]
 by_cases hlt:k<n
 rotate_left
 ·have g:¬ (k:Int)<(n:Int):=by omega
  obtain rfl:k=n:=by omega
  have H1:=hid hF
  have H2:=hid hL
  clear hF hL
  go_wp2
  go_ret2
  exact ⟨by rw [H1.out,H2.out]; rfl,HB.out⟩
 have g:(k:Int)<(n:Int):=by omega
 obtain ⟨b,o,m,hb,e0⟩:=(HA.out.on HB.out).at hlt
 subst m
 obtain ⟨x,hx⟩:=exx (u k)
 rw [<-hx] at e0
 have a:fE u (k+1)=if x=0 then F else if F<0 then (k:Int) else F:=by rw [hx,hF]; rfl
 have d:lE u (k+1)=if x=0 then L else (k:Int):=by rw [hx,hL]; rfl
 clear hx hF hL
 by_cases hx0:x=0
 focus
  have hz:((x:Int) == 0)=true:=by simp [hx0]
  rw [if_pos hx0] at a d
 rotate_left
 focus
  have hz:((x:Int) == 0)=false:=by simp [hx0]
  rw [if_neg hx0] at a d
  by_cases hneg:F<0
  focus
   rw [if_pos hneg] at a
  rotate_left
  focus
   rw [if_neg hneg] at a
  rotate_left
 rotate_left 2
 all_goals
  have H1:=hid a
  have H2:=hid d
  clear a d hx0
  go_wp2
  go_roundg (gk - 1)
  case measure=>omega
  case rel=>exact ⟨k+1,by go_num,by rw [H1.out],by rw [H2.out],by omega,by omega,HB.out⟩
def SpansPost (P M : Int) (k : Nat) (f : Nat → Int) (N : Int) (n : Nat) (ln : Nat → Nat) (V : Nat → Nat → Int) (w : World) (e : Ending) (w' : World) : Prop :=
  Below w.heap.size w w'/\∃ u,FirstErr (CodeErrs P M k f N n ln V) u /\
    ((u≠0/\e=.returned (.tuple #[.slice none 0 0,.int .i64 u])) ∨
     (u=0/\∃ P' M' N':Nat,P=P'/\M=M'/\N=N'/\∃ g F pv R,e=.returned (.tuple #[.slice (some ⟨g,0,none⟩) n n,.int .i64 0])/\w.heap.size<=g/\IntTab w' g (g+1) n F (fun _=>N') (fun i j=>((R i j:Nat):Int)) /\
       SpanF (P' ^ M') n N' pv R/\SameSp (P' ^ M') (addF P' M') (mulF P' M' fun i=>(f i).toNat) N' n n (natT V) R/\∀ i j,i<j->j<n->lE (R i) N'≠lE (R j) N'))
theorem zgH (P M:Int) (A:Option Addr) (k c:Nat) (f:Nat->Int) (N:Int) (TC:Option Addr) (n d:Nat) (ln:Nat->Nat) (V:Nat->Nat->Int) (w:World) (hr:IntsR w w.heap.size A k f) (h:IntRows w TC n ln V) :
  Calls Tryz.prog 73 #[.agg #[.int .i64 P,.int .i64 M,.slice A k c,.int .i64 N,.slice TC n d]] w (SpansPost P M k f N n ln V w):=by
 have HI:=hid hr
 have HT:=hid h
 clear hr h
 obtain ⟨w1,bi,hB,rf⟩:=zay w (.int .i64 P) (.int .i64 M) (.slice A k c) (.int .i64 N) (.slice TC n d) 27
 go_enter Tryz.func73, Tryz.ntmps73
 go_upto_region 1 with fail
 rw [<-bi];clear bi
 obtain ⟨b0,b8⟩:=exx w.heap.size
 rw [<-b8] at rf;rw [<-b8];clear b8
 have O:Hid (∀ X,Below w1.heap.size w1 X->(X.cell? ⟨b0,0,none⟩=some (.int .i64 P)/\X.cell? ⟨b0,1,none⟩=some (.int .i64 M)/\X.cell? ⟨b0,2,none⟩=some (.slice A k c)/\X.cell? ⟨b0,3,none⟩=some (.int .i64 N)/\X.cell? ⟨b0,4,none⟩=some (.slice TC n d))):=hid fun X hx =>
  ⟨(zab rf hx).cell (i:=0) (by omega),(zab rf hx).cell (i:=1) (by omega),(zab rf hx).cell (i:=2) (by omega),(zab rf hx).cell (i:=3) (by omega),(zab rf hx).cell (i:=4) (by omega)⟩
 have HB:=hid hB
 clear hB rf
 obtain ⟨q0,q1,q2,q3,q4⟩:=O.out _ (Below.refl _ _)
 go_wp2_with fail
 refine (zdC P M A k c f N TC n d ln V w1 (HI.out.on HB.out) (HT.out.on HB.out)).mono ?_
 rintro e w2 ⟨u,rfl,hu,kb⟩
 have HU:=hid hu
 have KB:=hid kb
 clear kb hu q0 q1 q2 q3 q4
 by_cases hu0:u=0
 rotate_left
 ·have bj:(u != 0)=true:=by simpa using hu0
  have cn:=hid hu0
  clear hu0
  go_wp2
  go_ret2
  exact ⟨onS HB.out KB.out,u,HU.out,.inl ⟨cn.out,rfl⟩⟩
 subst hu0
 have bj:((0:Int) != 0)=false:=by simp
 obtain ⟨P',M',N',rfl,rfl,rfl,hC⟩:=za1 HI.out HT.out HU.out
 have HC:=hid hC
 have cg:=hC.ln2
 have cw:=hC.n_le
 clear hC
 obtain ⟨q0,q1,q2,q3,q4⟩:=O.out _ KB.out
 go_wp2_with fail
 refine (zbK (P':Int) (M':Int) A k c f w2 (HI.out.on (onS HB.out KB.out))).mono ?_
 rintro e w3 ⟨kb,ag⟩
 rcases ag with ⟨b7,_⟩ | ⟨_,gf,P2,M2,cf,ci,rfl,_,hG⟩
 ·refine absurd ?_ b7
  rcases HU.out with ⟨_,h9⟩ | ⟨h1,_⟩
  ·cases h9
  ·exact h1
 obtain rfl:P'=P2:=by omega
 obtain rfl:M'=M2:=by omega
 have HG:=hid hG.gf
 have ar:=hid (onS HB.out (onS KB.out kb))
 replace KB:=hid (onS KB.out kb);clear kb q0 q1 q2 q3 q4 cf ci hG bj
 obtain ⟨q0,q1,q2,q3,q4⟩:=O.out _ KB.out
 have bm:=fun W=>zaf (P:=Tryz.prog) 25 22 _ 24 Tryz.underlying25 Tryz.infoInts rfl (n:Int) (by omega) (by omega) (by omega) W
 simp only [Int.toNat_natCast] at bm
 go_upto_region 6 with fail
 clear q0 q1 q2 q3 q4
 have rz:World.rowIs (World.alloc w3 (Obj.cells (madeCells #[Value.slice none 0 0] n) 22)) w3.heap.size 22 n (fun _=>.slice none 0 0):=World.rowIs_made _ (.slice none 0 0) n 22
 have kb:=aly w3 (Obj.cells (madeCells #[Value.slice none 0 0] n) 22)
 have az:(World.alloc w3 (Obj.cells (madeCells #[Value.slice none 0 0] n) 22)).heap.size=w3.heap.size+1:=by simp
 obtain ⟨w4,bh⟩:=exx (World.alloc w3 (Obj.cells (madeCells #[Value.slice none 0 0] n) 22))
 rw [<-bh] at rz kb az ⊢
 have K7:=hid kb
 have ah:w.heap.size<=w3.heap.size:=ar.out.size
 obtain ⟨lt,b2⟩:=exx w3.heap.size
 rw [<-b2] at rz az ah ⊢
 have am:Hid (lt=w3.heap.size):=hid b2
 have b:Hid (IntTab w4 lt (lt+1) n (fun _=>.slice none 0 0) (fun v=>if v<0 then N' else 0) (fun i j=>((natT V i j:Nat):Int))):=hid ((zaI (x:=fun i j=>((natT V i j:Nat):Int)) rz).congr (fun v _=>by rw [if_neg (by omega)]) fun v _ k _=>rfl)
 have E:lt+1<=w4.heap.size:=by omega
 clear rz kb az bh bm b2
 obtain ⟨q0,q1,q2,q3,q4⟩:=O.out _ (onS KB.out K7.out)
 go_upto_region 7 with fail
 clear q0 q1 q2 q3 q4
 go_loopg [38] n (fun gg iv wx=>∃ (i:Nat) (F:Nat->Value),iv=.int .i64 (i:Nat)/\i<=n/\n<=i+gg/\Hid (IntTab wx lt (lt+1) n F (fun v=>if v<i then N' else 0) (fun i j=>((natT V i j:Nat):Int)))/\lt+1<=wx.heap.size/\Below w3.heap.size w3 wx)
 case atStart=>exact ⟨0,_,rfl,by omega,by omega,b,E,K7.out⟩
 clear b K7 E
 obtain ⟨i,F,rfl,hi,bn,b,a,z⟩:=hrel
 have bp:(0:Int)<=(i:Int):=by omega
 have K7:=hid z
 obtain ⟨w8,c6⟩:=exx wr
 subst c6
 clear z
 by_cases s:i<n
 ·have a0:(i:Int)<(n:Int):=by omega
  obtain ⟨pb,po,RA,rc,ce,_,x0,cd,d1,ab,b1⟩:=HC.out.rows i s
  subst ce
  replace x0:=cellS (onS ar.out K7.out) x0
  have be:=hid ab
  clear ab b1
  go_wp2_with fail
  clear x0
  refine (zaA RA N' rc (fun j=>((natT V i j:Nat):Int)) w8 (be.out.on (onS ar.out K7.out)) cd (by omega)).mono ?_
  rintro e w9 ⟨SA,sc,rfl,hO,kb⟩
  have hn:=b.out.fresh (by omega) a kb s (y:=fun j=>((natT V i j:Nat):Int)) hO
  have r0:=(b.out.on kb).row.cell s
  have z0:=(b.out.on kb).row.frozen i
  have au:=(onS K7.out kb).setCell (p:=⟨lt,i,none⟩) (by have:=am.out; show _<=lt; omega) (.slice SA N' sc)
  have bk:lt+1<=(w9.setCell ⟨lt,i,none⟩ (.slice SA N' sc)).heap.size:=by rw [World.size_setCell]; exact Nat.le_trans a kb.size
  obtain ⟨w10,D⟩:=exx (w9.setCell ⟨lt,i,none⟩ (.slice SA N' sc))
  rw [<-D] at hn au bk
  have HN:=hid (hn.congr (n':=fun v=>if v<i+1 then N' else 0) (x':=fun i j=>((natT V i j:Nat):Int)) (fun v hv=>by
   by_cases e:v=i
   ·rw [if_pos e,if_pos (by omega)]
   ·have h1:(v<i)↔(v<i+1):=by omega
    simp only [if_neg e,h1]) fun v hv k hk=>by
   by_cases e:v=i
   ·rw [if_pos e,e]
   ·rw [if_neg e])
  have K9:=hid au
  have aj:=hid D
  clear hn kb au hO D
  go_upto_region 10 with fail
  rw [<-aj.out];clear r0 z0 aj
  go_wp2
  go_roundg (gk - 1)
  case measure=>omega
  case rel=>exact ⟨i+1,_,by go_num,by omega,by omega,HN,bk,K9.out⟩
 have a0:¬ (i:Int)<(n:Int):=by omega
 obtain rfl:i=n:=by omega
 have bw:Hid (IntTab w8 lt (lt+1) i F (fun _=>N') (fun u j=>((natT V u j:Nat):Int))):=hid (b.out.congr (fun v hv=>if_pos hv) fun v _ k _=>rfl)
 clear b s hi bn bp
 obtain ⟨n,hn⟩:=exx i
 subst hn
 obtain ⟨pv,hE⟩:=HC.out.rref
 have l:=hid hE.spanF
 have hL:=fieldLaws HC.out.fld
 have ac:∀ x,x<P' ^ M'->negF P' M' x<P' ^ M'/\addF P' M' x (negF P' M' x)=0:=fun x _=>⟨zb2 (by have:=HC.out.fld.1.1; omega),zbI (by have:=HC.out.fld.1.1; omega)⟩
 have HL:=hid hL
 have cp:=hid ac
 have B:Hid (SameSp (P' ^ M') (addF P' M') (mulF P' M' fun i=>(f i).toNat) N' n n (natT V) (natT V)):=hid fun _=>Iff.rfl
 clear hE hL ac
 go_upto_region 12 with fail
 clear a0
 go_loopg [10] (n*N'+1) (fun gg cv wx=>∃ (ch:Bool) (R:Nat->Nat->Nat),cv=.bool ch/\Hid ((ch=true/\mesL R N' n<gg)∨(ch=false/\∀ i j,i<j->j<n->lE (R i) N'≠lE (R j) N'))/\Hid (SpanF (P' ^ M') n N' pv R)/\Hid (SameSp (P' ^ M') (addF P' M') (mulF P' M' fun i=>(f i).toNat) N' n n (natT V) R)/\Hid (IntTab wx lt (lt+1) n F (fun _=>N') (fun u j=>((R u j:Nat):Int)))/\lt+1<=wx.heap.size/\Below w3.heap.size w3 wx)
 case atStart=>exact ⟨true,natT V,rfl,.inl ⟨rfl,by have:=zg6 (R:=natT V) (N:=N') n; omega⟩,l,B,bw,a,K7.out⟩
 clear l B bw K7 a
 obtain ⟨ch,R,rfl,C,l,B,b,a,z⟩:=hrel
 have K7:=hid z
 obtain ⟨w9,c5⟩:=exx wr
 subst c5
 clear z
 cases ch with
 | false =>
  have HD:Hid (∀ i j,i<j->j<n->lE (R i) N'≠lE (R j) N'):=hid (C.out.elim (fun h=>(nomatch h.1)) fun h=>h.2)
  go_wp2
  go_ret2
  exact ⟨onS ar.out K7.out,0,HU.out,.inr ⟨rfl,P',M',N',rfl,rfl,rfl,lt,F,pv,R,rfl,ah,b.out,l.out,B.out,HD.out⟩⟩
 | true =>
  have c9:mesL R N' n<gk:=C.out.elim (fun h=>h.2) fun h=>(nomatch h.1)
  obtain ⟨m0,ae⟩:=exx (mesL R N' n)
  rw [<-ae] at c9
  have c1:Hid (mesL R N' n<=m0):=hid (by omega)
  clear C ae
  obtain ⟨gO,cc⟩:=exx gk
  subst cc
  go_upto_region 15 with fail
  go_loopg [10,52] n (fun gg cv jv wx=>∃ (ch:Bool) (j:Nat) (R:Nat->Nat->Nat),cv=.bool ch/\jv=.int .i64 (j:Nat)/\j<=n/\n<=j+gg/\Hid ((ch=true/\mesL R N' n<m0)∨(ch=false/\mesL R N' n<=m0/\∀ i j',i<j'->j'<j->lE (R i) N'≠lE (R j') N'))/\Hid (SpanF (P' ^ M') n N' pv R)/\Hid (SameSp (P' ^ M') (addF P' M') (mulF P' M' fun i=>(f i).toNat) N' n n (natT V) R)/\Hid (IntTab wx lt (lt+1) n F (fun _=>N') (fun u j=>((R u j:Nat):Int)))/\lt+1<=wx.heap.size/\Below w3.heap.size w3 wx)
  case atStart=>exact ⟨false,0,R,rfl,rfl,by omega,by omega,.inr ⟨rfl,c1.out,fun _ _ _ h=>absurd h (by omega)⟩,l,B,b,a,K7.out⟩
  case round =>
   clear l B b K7 a c1
   obtain ⟨ch,j,R,rfl,rfl,hj,cz,C,l,B,b,a,z⟩:=hrel
   have d0:(0:Int)<=(j:Int):=by omega
   have K7:=hid z
   obtain ⟨w10,D⟩:=exx wr
   subst D
   clear z
   by_cases hjn:j<n
   ·have b4:(j:Int)<(n:Int):=by omega
    have Y:=l.out.pos hjn
    obtain ⟨rb,ro,rd,hF,_,_,_,_⟩:=b.out.at (v:=j) hjn (k:=pv j) (l.out.pvlt j hjn)
    have c0:=b.out.row.cell hjn
    rw [hF] at c0
    have r:=b.out.own j hjn
    rw [hF] at r
    have ak:Hid (IntsR w10 w10.heap.size (some ⟨rb,ro,none⟩) N' (fun k=>((R j k:Nat):Int))):=hid (r.rd rfl)
    clear r
    go_wp2_with fail
    clear c0
    refine (zdg (some ⟨rb,ro,none⟩) N' rd (R j) w10 ak.out (by omega)).mono ?_
    rintro e w11 ⟨rfl,kb⟩
    obtain ⟨t,ht⟩:∃ t:Nat,lE (R j) N'=(t:Nat):=⟨(lE (R j) N').toNat,by omega⟩
    have ao:t<N':=(zie N' t ht).1
    have bq:=l.out.first hjn
    rw [ht,bq]
    have T:=hid ht
    have m:=hid (b.out.on kb)
    replace K7:=hid (onS K7.out kb)
    have g:lt+1<=w11.heap.size:=Nat.le_trans a kb.size
    have an:=hid hF
    clear kb b ak ht bq hF Y a
    obtain ⟨gP,cb⟩:=exx gk
    subst cb
    go_upto_region 19 with fail
    have q:Hid ((ch=true/\mesL R N' n<m0)∨(ch=false/\mesL R N' n<=m0/\(∀ i j',i<j'->j'<j->lE (R i) N'≠lE (R j') N')/\∀ i,i<0->lE (R i) N'≠(t:Int))):=hid (by
     rcases C.out with h | ⟨h1,h2,h3⟩
     ·exact .inl h
     ·exact .inr ⟨h1,h2,h3,fun _ h=>absurd h (by omega)⟩)
    clear C
    go_loopg [10,64] j (fun gg cv iv wx=>∃ (ch:Bool) (i:Nat) (R:Nat->Nat->Nat),cv=.bool ch/\iv=.int .i64 (i:Nat)/\i<=j/\j<=i+gg/\Hid ((ch=true/\mesL R N' n<m0)∨(ch=false/\mesL R N' n<=m0/\(∀ i j',i<j'->j'<j->lE (R i) N'≠lE (R j') N')/\∀ i',i'<i->lE (R i') N'≠(t:Int)))/\Hid (lE (R j) N'=(t:Int))/\Hid (SpanF (P' ^ M') n N' pv R)/\Hid (SameSp (P' ^ M') (addF P' M') (mulF P' M' fun i=>(f i).toNat) N' n n (natT V) R)/\Hid (IntTab wx lt (lt+1) n F (fun _=>N') (fun u j=>((R u j:Nat):Int)))/\lt+1<=wx.heap.size/\Below w3.heap.size w3 wx)
    case atStart=>exact ⟨ch,0,R,rfl,rfl,by omega,by omega,q,T,l,B,m,g,K7.out⟩
    case round =>
     clear l B m K7 g q T
     obtain ⟨ch,i,R,rfl,rfl,hi,bn,C,T,l,B,b,a,z⟩:=hrel
     have bp:(0:Int)<=(i:Int):=by omega
     have K7:=hid z
     obtain ⟨w12,ax⟩:=exx wr
     subst ax
     clear z
     by_cases hij:i<j
     ·have b5:(i:Int)<(j:Int):=by omega
      have s:i<n:=by omega
      have a0:(i:Int)<(n:Int):=by omega
      obtain ⟨ib,io,id,aq,bo,_,_,_⟩:=b.out.at (v:=i) s (k:=pv i) (l.out.pvlt i s)
      have c0:=b.out.row.cell s
      rw [aq] at c0
      have r:=b.out.own i s
      rw [aq] at r
      have ak:Hid (IntsR w12 w12.heap.size (some ⟨ib,io,none⟩) N' (fun k=>((R i k:Nat):Int))):=hid (r.rd rfl)
      clear r
      go_wp2_with fail
      clear c0
      refine (zdg (some ⟨ib,io,none⟩) N' id (R i) w12 ak.out (by omega)).mono ?_
      rintro e w13 ⟨rfl,kb⟩
      have br:=l.out.first s
      rw [br]
      have Y:=l.out.pos s
      obtain ⟨li,af⟩:=exx (lE (R i) N')
      rw [<-af]
      have m:=hid (b.out.on kb)
      replace K7:=hid (onS K7.out kb)
      have g:lt+1<=w13.heap.size:=Nat.le_trans a kb.size
      have a6:=hid aq
      clear kb b ak br aq Y a
      by_cases hlt':li=(t:Int)
      rotate_left
      ·have ad:(li != (t:Int))=true:=by simpa using hlt'
       have q:Hid ((ch=true/\mesL R N' n<m0)∨(ch=false/\mesL R N' n<=m0/\(∀ i j',i<j'->j'<j->lE (R i) N'≠lE (R j') N')/\∀ i',i'<i+1->lE (R i') N'≠(t:Int))):=hid (by
        rcases C.out with h | ⟨h1,h2,h3,h4⟩
        ·exact .inl h
        ·exact .inr ⟨h1,h2,h3,fun i' h=>by
          by_cases e:i'=i
          ·rw [e,<-af]; exact hlt'
          ·exact h4 i' (by omega)⟩)
       clear af hlt' C
       go_wp2
       go_roundg (gk - 1)
       case measure=>omega
       case rel=>exact ⟨ch,i+1,R,rfl,by go_num,by omega,by omega,q,T,l,B,m,g,K7.out⟩
      ·have ad:(li != (t:Int))=false:=by simpa using hlt'
       have c2:Hid (lE (R i) N'=(t:Int)):=hid (af.symm.trans hlt')
       subst hlt'
       have c8:Hid (mesL R N' n<=m0):=hid (by
        rcases C.out with ⟨_,h⟩ | ⟨_,h,_⟩
        ·omega
        ·exact h)
       clear af C
       have x0:=(m.out.row).cell s
       rw [a6.out] at x0
       have y0:=(m.out.row).cell hjn
       rw [an.out] at y0
       have H:=m.out.own i s
       rw [a6.out] at H
       have Z:=m.out.own j hjn
       rw [an.out] at Z
       have x1:=(show IntsR w13 w13.heap.size (some ⟨ib,io,none⟩) N' (fun k=>((R i k:Nat):Int)) from H.rd rfl).here ao
       have y1:=(show IntsR w13 w13.heap.size (some ⟨rb,ro,none⟩) N' (fun k=>((R j k:Nat):Int)) from Z.rd rfl).here ao
       clear H Z
       obtain ⟨xv,Q⟩:=exx (R i t)
       obtain ⟨yv,G⟩:=exx (R j t)
       have aa:xv<P' ^ M':=by rw [Q]; exact l.out.lt i s t ao
       have a9:yv<P' ^ M':=by rw [G]; exact l.out.lt j hjn t ao
       have bg:yv≠0:=by rw [G]; exact (zie N' t T.out).2
       rw [<-Q] at x1;rw [<-G] at y1
       have bv:=hid Q
       have bu:=hid G
       clear Q G
       have c7:(0:Int)<=(t:Int):=by omega
       have ay:(t:Int)<(N':Int):=by omega
       go_upto_region 23 with fail
       refine wp_region_held_drew (S:=fun X=>X.cell? ⟨lt,i,none⟩=some (.slice (some ⟨ib,io,none⟩) N' id)/\X.cell? ⟨lt,j,none⟩=some (.slice (some ⟨rb,ro,none⟩) N' rd)/\X.cell? ⟨ib,io+t,none⟩=some (.int .i64 (xv:Nat))/\X.cell? ⟨rb,ro+t,none⟩=some (.int .i64 (yv:Nat))) (by kernel_rfl) ⟨cellS (Below.refl _ _).drew x0,cellS (Below.refl _ _).drew y0,cellS (Below.refl _ _).drew x1,cellS (Below.refl _ _).drew y1⟩ (fun hHeld=>?_)
       obtain ⟨w14,hw,kb⟩:=dwx w13
       rw [<-hw] at hHeld ⊢;clear hw
       have HX:Hid (∀ X,Below w14.heap.size w14 X->X.cell? ⟨lt,i,none⟩=some (.slice (some ⟨ib,io,none⟩) N' id)/\X.cell? ⟨lt,j,none⟩=some (.slice (some ⟨rb,ro,none⟩) N' rd)/\X.cell? ⟨ib,io+t,none⟩=some (.int .i64 (xv:Nat))/\X.cell? ⟨rb,ro+t,none⟩=some (.int .i64 (yv:Nat))):=hid fun X hx=>⟨cellS hx (cellS kb x0),cellS hx (cellS kb y0),cellS hx (cellS kb x1),cellS hx (cellS kb y1)⟩
       have J:=hid (m.out.on kb)
       replace K7:=hid (onS K7.out kb)
       have o:lt+1<=w14.heap.size:=Nat.le_trans g kb.size
       clear kb x0 y0 x1 y1 m g
       refine tkq 0 (h:=tkq 1 (h:=tkq 2 (h:=tkq 3 (h:=tkq 4 (h:=tkq 5 (h:=tkq 6 (h:=tkq 7 (h:=tkq 8 (h:=tkq 9 (h:=tkq 10 (h:=tkq 11 (h:=tkq 12 (h:=tkq 13 (h:=tkq 14 (h:=?_)))))))))))))))
       clear hHeld
       refine rdq 15 (h:=fun K hK=>?_)
       go_simp
       go_wp2_with fail
       refine (zgG xv yv (HG.out.at K7.out K7.out.size) aa a9 bg).mono ?_
       rintro e w15 ⟨kb,av,rfl,bt,bs⟩
       refine bkq hK (HX.out _ kb) (h:=fun hHeld=>?_)
       clear hK K
       refine tkq 16 (h:=tkq 17 (h:=tkq 18 (h:=tkq 19 (h:=tkq 20 (h:=?_)))))
       refine wpAnyH_done (by kernel_rfl) ?_ _
       clear hHeld;replace J:=hid (J.out.on kb)
       have x0:=(HX.out _ kb).1
       replace K7:=hid (onS K7.out kb);replace o:=Nat.le_trans o kb.size
       have cu:Hid (mulF P' M' (fun i=>(f i).toNat) av (R j t)=R i t):=hid (by rw [<-bv.out,<-bu.out]; exact bs)
       clear HX kb bs bv bu aa a9 bg c7 ay ad
       obtain ⟨gQ,ca⟩:=exx gk
       subst ca
       have a8:Hid (i<n):=hid s
       have ai:Hid (j<n):=hid hjn
       obtain ⟨R1,b9⟩:∃ R1:Nat->Nat->Nat,R1=fun u kk=>if u=i then addF P' M' (R i kk) (negF P' M' (mulF P' M' (fun i=>(f i).toNat) av (R j kk))) else R u kk:=⟨_,rfl⟩
       have al:Hid (∀ kk,R1 i kk=addF P' M' (R i kk) (negF P' M' (mulF P' M' (fun i=>(f i).toNat) av (R j kk)))):=hid fun kk=>by rw [b9]; exact if_pos rfl
       have L:Hid (∀ u,u≠i->R1 u=R u):=hid fun u hu=>by rw [b9]; funext kk; exact if_neg hu
       clear b9
       have bx:Hid (IntTab w15 lt (lt+1) n F (fun _=>N') (fun u kk=>(((if u=i/\kk<0 then R1 i kk else R u kk):Nat):Int))):=hid (J.out.congr (fun _ _=>rfl) fun v _ kk _=>by rw [if_neg (fun h=>absurd h.2 (by omega))])
       go_upto_region 25 with fail
       clear x0 J
       go_loopg [102] N' (fun gg kv wx=>∃ kk:Nat,kv=.int .i64 (kk:Nat)/\kk<=N'/\N'<=kk+gg/\Hid (IntTab wx lt (lt+1) n F (fun _=>N') (fun u x=>(((if u=i/\x<kk then R1 i x else R u x):Nat):Int)))/\lt+1<=wx.heap.size/\Below w3.heap.size w3 wx)
       case atStart=>exact ⟨0,rfl,by omega,by omega,bx,o,K7.out⟩
       case round =>
        clear bx K7 o
        obtain ⟨kk,rfl,hk,cx,b,a,z⟩:=hrel
        have cy:(0:Int)<=(kk:Int):=by omega
        have K7:=hid z
        obtain ⟨w16,aw⟩:=exx wr
        subst aw
        clear z
        by_cases hkN:kk<N'
        ·have b3:(kk:Int)<(N':Int):=by omega
         have x0:=b.out.row.cell a8.out
         rw [a6.out] at x0
         have y0:=b.out.row.cell ai.out
         rw [an.out] at y0
         have H:=b.out.own i a8.out
         rw [a6.out] at H
         have Z:=b.out.own j ai.out
         rw [an.out] at Z
         have x1:=(show IntsR w16 w16.heap.size (some ⟨ib,io,none⟩) N' (fun x=>(((if i=i/\x<kk then R1 i x else R i x):Nat):Int)) from H.rd rfl).here hkN
         have y1:=(show IntsR w16 w16.heap.size (some ⟨rb,ro,none⟩) N' (fun x=>(((if j=i/\x<kk then R1 i x else R j x):Nat):Int)) from Z.rd rfl).here hkN
         rw [if_neg (fun h=>absurd h.2 (by omega))] at x1
         rw [if_neg (fun h=>absurd h.1 (by omega))] at y1
         have b6:lt+1<=ib:=(H.lt ib rfl).1
         have cl:Hid (∀ X,Below w16.heap.size w16 X->X.frozen? ⟨ib,io+kk,none⟩=false):=hid fun X hx=>(H.on hx).frozen _
         have ad:ib≠rb:=fun e=>by
          rcases b.out.apart i j a8.out ai.out (by omega) with h1 | h1
          ·rw [a6.out] at h1; cases h1
          ·rw [a6.out,an.out,e] at h1; exact h1 rfl
         have cq:Hid (lt≠ib/\rb≠ib):=hid ⟨by omega,fun e=>ad e.symm⟩
         have bf:Hid (w3.heap.size<=ib):=hid (by have:=am.out; omega)
         clear H Z ad b6
         obtain ⟨xv,Q⟩:=exx (R i kk)
         obtain ⟨yv,G⟩:=exx (R j kk)
         have aa:xv<P' ^ M':=by rw [Q]; exact l.out.lt i a8.out kk hkN
         have a9:yv<P' ^ M':=by rw [G]; exact l.out.lt j ai.out kk hkN
         have a7:=al.out kk
         rw [<-Q] at x1 a7;rw [<-G] at y1 a7
         obtain ⟨mv,ap⟩:=exx (mulF P' M' (fun i=>(f i).toNat) av yv)
         have bl:mv<P' ^ M':=by rw [ap]; exact HL.out.mulLt _ _
         rw [<-ap] at a7
         obtain ⟨zv,U⟩:=exx (addF P' M' xv (negF P' M' mv))
         rw [<-U] at a7
         have cs:=hid (zal aa)
         have c3:=hid (zal a9)
         have c4:=hid (zal bt)
         have ct:=hid (zal bl)
         have bz:=hid ap
         have ck:=hid U
         have cm:=hid a7
         clear Q G ap U a7 aa a9 bl
         have a5:Hid (∀ X,Below w16.heap.size w16 X->(X.cell? ⟨lt,i,none⟩=some (.slice (some ⟨ib,io,none⟩) N' id)/\X.cell? ⟨lt,j,none⟩=some (.slice (some ⟨rb,ro,none⟩) N' rd)/\X.cell? ⟨rb,ro+kk,none⟩=some (.int .i64 (yv:Nat)))):=hid fun X hx=>⟨cellS hx x0,cellS hx y0,cellS hx y1⟩
         have ba:Hid (∀ X,Below w16.heap.size w16 X->X.cell? ⟨ib,io+kk,none⟩=some (.int .i64 (xv:Nat))):=hid fun X hx=>cellS hx x1
         clear x0 y0 x1 y1
         go_upto_region 27 with fail
         refine wp_region_held_drew (S:=fun X=>X.cell? ⟨lt,i,none⟩=some (.slice (some ⟨ib,io,none⟩) N' id)/\X.cell? ⟨lt,j,none⟩=some (.slice (some ⟨rb,ro,none⟩) N' rd)/\X.cell? ⟨rb,ro+kk,none⟩=some (.int .i64 (yv:Nat))) (by kernel_rfl) (a5.out _ (Below.refl _ _).drew) (fun hHeld=>?_)
         obtain ⟨w17,hw,kb⟩:=dwx w16
         rw [<-hw] at hHeld ⊢;clear hw
         have K8:=hid kb
         clear kb
         refine tkq 0 (h:=tkq 1 (h:=tkq 2 (h:=tkq 3 (h:=tkq 4 (h:=tkq 5 (h:=tkq 6 (h:=tkq 7 (h:=tkq 8 (h:=tkq 9 (h:=tkq 10 (h:=tkq 11 (h:=tkq 13 (h:=tkq 14 (h:=tkq 15 (h:=tkq 16 (h:=tkq 17 (h:=tkq 18 (h:=tkq 19 (h:=tkq 20 (h:=tkq 21 (h:=?_)))))))))))))))))))))
         clear hHeld
         refine rdq2 12 22 (h:=fun K hK=>?_) (h2:=fun K hK=>?_)
         focus
          have u0:=ba.out _ K8.out
          go_simp
          clear u0
          refine bkq hK (a5.out _ K8.out) (h:=fun hHeld=>?_)
          clear hK K hHeld
          refine rdq 22 (h:=fun K hK=>?_)
          go_simp
          go_wp2_with fail
          refine (zaU (av:Int) (yv:Int) (HG.out.at (onS K7.out K8.out) (onS K7.out K8.out).size)).mono ?_
          rintro e w18 ⟨rfl,kb⟩
          rw [c4.out,c3.out,<-bz.out]
          have K9:=hid (onS K8.out kb)
          clear kb
          refine bkq hK (a5.out _ K9.out) (h:=fun hHeld=>?_)
          clear hK K hHeld K8
         rotate_left
         focus
          go_simp
          go_wp2_with fail
          refine (zaU (av:Int) (yv:Int) (HG.out.at (onS K7.out K8.out) (onS K7.out K8.out).size)).mono ?_
          rintro e w18 ⟨rfl,kb⟩
          rw [c4.out,c3.out,<-bz.out]
          have K9:=hid (onS K8.out kb)
          clear kb
          refine bkq hK (a5.out _ K9.out) (h:=fun hHeld=>?_)
          clear hK K hHeld
          refine rdq 12 (h:=fun K hK=>?_)
          have u0:=ba.out _ K9.out
          go_simp
          clear u0
          refine bkq hK (a5.out _ K9.out) (h:=fun hHeld=>?_)
          clear hK K hHeld K8
         all_goals
          refine rdq 23 (h:=fun K hK=>?_)
          go_simp
          go_wp2_with fail
          refine (zgl (xv:Int) (mv:Int) (HG.out.at (onS K7.out K9.out) (onS K7.out K9.out).size)).mono ?_
          rintro e w19 ⟨rfl,kb⟩
          rw [cs.out,ct.out,<-ck.out]
          have a4:=hid (onS K9.out kb)
          clear kb K9
          refine bkq hK (a5.out _ a4.out) (h:=fun hHeld=>?_)
          clear hK K
          refine tkq 24 (h:=?_)
          clear hHeld
          refine rdq 25 (h:=fun K hK=>?_)
          have u0:=ba.out _ a4.out
          have zf:=cl.out _ a4.out
          go_simp
          clear u0 zf
          have hn:=((b.out.on a4.out).set (v:=i) (k:=kk) (by omega) a8.out hkN a6.out (y:=((zv:Nat):Int))).congr (x':=fun u x=>(((if u=i/\x<kk+1 then R1 i x else R u x):Nat):Int)) (fun _ _=>rfl) fun v _ x _=>by
           by_cases e1:v=i/\x=kk
           ·rw [e1.1,e1.2,zij,if_pos ⟨rfl,by omega⟩,cm.out]
           ·rw [zfR e1]
            have h1:(v=i/\x<kk)↔(v=i/\x<kk+1):=by omega
            simp only [h1]
          have kb:=(onS K7.out a4.out).setCell (p:=⟨ib,io+kk,none⟩) bf.out (.int .i64 (zv:Nat))
          obtain ⟨a1,a2,a3⟩:=a5.out _ a4.out
          obtain ⟨n1,n2⟩:=cq.out
          replace a1:=zaa (p:=⟨ib,io+kk,none⟩) (u:=.int .i64 (zv:Nat)) a1 n1;replace a2:=zaa (p:=⟨ib,io+kk,none⟩) (u:=.int .i64 (zv:Nat)) a2 n1;replace a3:=zaa (p:=⟨ib,io+kk,none⟩) (u:=.int .i64 (zv:Nat)) a3 n2
          obtain ⟨w20,hw⟩:=exx (w19.setCell ⟨ib,io+kk,none⟩ (.int .i64 (zv:Nat)))
          rw [<-hw] at hn kb a1 a2 a3 ⊢
          have I:lt+1<=w20.heap.size:=by rw [hw]; exact Nat.le_trans a (by rw [World.size_setCell]; exact a4.out.size)
          have HN:=hid hn
          have cj:=hid kb
          clear hn kb hw n1 n2
          refine bkq hK ⟨a1,a2,a3⟩ (h:=fun hHeld=>?_)
          clear hK K a1 a2 a3
          refine wpAnyH_done (by kernel_rfl) ?_ _
          clear hHeld
          go_wp2
          go_roundg (gk - 1)
          case measure=>omega
          case rel=>exact ⟨kk+1,by go_num,by omega,by omega,HN,I,cj.out⟩
        ·have b3:¬ (kk:Int)<(N':Int):=by omega
         obtain rfl:kk=N':=by omega
         obtain ⟨s1,s2,s3⟩:=l.out.step HL.out cp.out hij ai.out c2.out T.out bt cu.out (fun kk _=>al.out kk) L.out
         have bd:=hid s1
         have bc:Hid (SameSp (P' ^ M') (addF P' M') (mulF P' M' fun i=>(f i).toNat) kk n n (natT V) R1):=hid fun x=>(B.out x).trans (s2 x)
         have cr:Hid (mesL R1 kk n<m0):=hid (Nat.lt_of_lt_of_le (zg7 L.out (by rw [c2.out]; exact s3) n a8.out) c8.out)
         have bb:Hid (lE (R1 j) kk=(t:Int)):=hid (by rw [L.out j (by omega)]; exact T.out)
         have co:Hid (IntTab w16 lt (lt+1) n F (fun _=>kk) (fun u x=>((R1 u x:Nat):Int))):=hid (b.out.congr (fun _ _=>rfl) fun v _ x hx=>by
          by_cases e:v=i
          ·rw [e,if_pos ⟨rfl,hx⟩]
          ·rw [if_neg (fun h=>e h.1),L.out v e])
         clear s1 s2 s3
         go_wp2
         go_roundg (gQ - 1)
         case measure=>omega
         case rel=>exact ⟨true,i+1,R1,rfl,by go_num,by omega,by omega,.inl ⟨rfl,cr.out⟩,bb,bd,bc,co,a,K7.out⟩
     ·have b5:¬ (i:Int)<(j:Int):=by omega
      obtain rfl:i=j:=by omega
      have q:Hid ((ch=true/\mesL R N' n<m0)∨(ch=false/\mesL R N' n<=m0/\∀ i1 j',i1<j'->j'<i+1->lE (R i1) N'≠lE (R j') N')):=hid (by
       rcases C.out with h | ⟨h1,h2,h3,h4⟩
       ·exact .inl h
       ·exact .inr ⟨h1,h2,fun i1 j' h5 h6=>by
         by_cases e:j'=i
         ·rw [e,T.out]; exact h4 i1 (by omega)
         ·exact h3 i1 j' h5 (by omega)⟩)
      go_wp2
      go_roundg (gP - 1)
      case measure=>omega
      case rel=>exact ⟨ch,i+1,R,rfl,by go_num,by omega,by omega,q,l,B,b,a,K7.out⟩
   ·have b4:¬ (j:Int)<(n:Int):=by omega
    obtain rfl:j=n:=by omega
    have q:Hid ((ch=true/\mesL R N' j<gO - 1)∨(ch=false/\∀ i j',i<j'->j'<j->lE (R i) N'≠lE (R j') N')):=hid (by
     rcases C.out with ⟨h,h2⟩ | ⟨h1,h2,h3⟩
     ·exact .inl ⟨h,by omega⟩
     ·exact .inr ⟨h1,h3⟩)
    go_wp2
    go_roundg (gO - 1)
    case measure=>omega
    case rel=>exact ⟨ch,R,rfl,q,l,B,b,a,K7.out⟩
theorem zhI (q k:Nat) (w:World) (hq:2<=q) (hq2:q<=1048576) (hk:k<=1048576) :
  Calls Tryz.prog 148 #[.int .i64 (q:Nat),.int .i64 (k:Nat),.int .i64 0] w (ExpNPost q k 0 w):=by
 have hp:Hid (0<q ^ k):=hid (Nat.pow_pos (by omega))
 have c1:¬ ((q:Int)<0):=by omega
 have c2:¬ ((k:Int)<0):=by omega
 have c3:¬ ((0:Int)<0):=by omega
 have c4:((q:Int) == 0)=false:=by simp; omega
 have c5:((0:Int) == 0)=true:=by simp
 go_enter Tryz.func148, Tryz.ntmps148
 go_wp2
 go_ret2
 exact ⟨.inr ⟨hp.out,rfl⟩,Below.refl _ _⟩
theorem zdK (q k most:Nat) (w:World) (hq:2<=q) (hq2:q<=1048576) (hk:k<=1048576) (hm2:most<=1048576) :
  Calls Tryz.prog 148 #[.int .i64 (q:Nat),.int .i64 (k:Nat),.int .i64 (most:Nat)] w (ExpNPost q k most w):=by
 by_cases h:most=0
 ·subst h
  exact zhI q k w hq hq2 hk
 ·exact zid q k most w hq hq2 hk (by omega) hm2
theorem zbi (D:Nat->Bool) (n:Nat):cntB D (n+1)=cntB D n+if D n then 1 else 0:=rfl
theorem zhJ (q n N:Nat) (pv:Nat->Nat) (R:Nat->Nat->Nat) (T:Option Addr) (d:Nat) (w:World) (h:IntRows w T n (fun _=>N) (fun s j=>((R s j:Nat):Int))) (hS:SpanF q n N pv R) (hq:2<=q) (hq2:q<=256) (hn:n<=64) (hN:N<=64) :
  Calls Tryz.prog 75 #[.int .i64 (q:Nat),.int .i64 (N:Nat),.slice T n d] w fun e w'=>((SizeIn q n N pv R/\e=.returned (.int .i64 0))∨(¬ SizeIn q n N pv R/\e=.returned (.int .i64 8)))/\Below w.heap.size w w':=by
 have HR:=hid h
 have HS:=hid hS
 clear h hS
 obtain ⟨dA,z⟩:∃ dA:Nat->Nat,dA=fun i=>cntB (actA pv R N i) n:=⟨_,rfl⟩
 obtain ⟨dE,E⟩:∃ dE:Nat->Nat,dE=fun i=>cntB (actE pv R N i) n:=⟨_,rfl⟩
 have a7:=hid z
 have a6:=hid E
 have t:dA 0=0:=by rw [z]; exact zbN zdd n
 have F:Hid (SizeIn q n N pv R↔powS q dA (N+1)<=65536/\powS q dE N<=262144):=hid (by rw [z,E]; exact Iff.rfl)
 have a8:=hid t
 clear z E t
 go_enter Tryz.func75, Tryz.ntmps75
 go_upto_region 3 with fail
 go_loopg [7,8,21] N (fun gg nv ev iv wx=>∃ i nd ed:Nat,iv=.int .i64 (i:Nat)/\nv=.int .i64 (nd:Nat)/\ev=.int .i64 (ed:Nat)/\i<=N/\N<=i+gg/\Hid (nd=powS q dA (i+1))/\Hid (ed=powS q dE i)/\nd<=65536/\ed<=262144/\Below w.heap.size w wx)
 case atStart=>exact ⟨0,1,0,rfl,rfl,rfl,by omega,by omega,hid (by show 1=0+q ^ dA 0; rw [a8.out]; simp),hid rfl,by omega,by omega,Below.refl _ _⟩
 obtain ⟨i,nd,ed,rfl,rfl,rfl,hi,ac,M,O,ab,ae,v⟩:=hrel
 have ad:(0:Int)<=(i:Int):=by omega
 have HB:=hid v
 obtain ⟨w3,V⟩:=exx wr
 subst V
 clear v
 by_cases hlt:i<N
 rotate_left
 ·have D:¬ (i:Int)<(N:Int):=by omega
  obtain rfl:i=N:=by omega
  have a1:Hid (SizeIn q n i pv R):=hid (F.out.2 ⟨by have:=M.out; omega,by have:=O.out; omega⟩)
  go_wp2
  go_ret
  exact ⟨.inl ⟨a1.out,rfl⟩,HB.out⟩
 have D:(i:Int)<(N:Int):=by omega
 obtain ⟨gO,Y⟩:=exx gk
 subst Y
 go_upto_region 7 with fail
 go_loopg [10,11,26] n (fun gg av bv sv wx=>∃ s a b:Nat,sv=.int .i64 (s:Nat)/\av=.int .i64 (a:Nat)/\bv=.int .i64 (b:Nat)/\s<=n/\n<=s+gg/\Hid (a=cntB (actA pv R N (i+1)) s)/\Hid (b=cntB (actE pv R N i) s)/\a<=s/\b<=s/\Below w.heap.size w wx)
 case atStart=>exact ⟨0,0,0,rfl,rfl,rfl,by omega,by omega,hid rfl,hid rfl,by omega,by omega,HB.out⟩
 clear HB
 obtain ⟨s,a,b,rfl,rfl,rfl,hs,a9,HA,HE,ag,af,v⟩:=hrel
 have aa:(0:Int)<=(s:Int):=by omega
 have HB:=hid v
 obtain ⟨w4,U⟩:=exx wr
 subst U
 clear v
 by_cases hsn:s<n
 ·have B:(s:Int)<(n:Int):=by omega
  obtain ⟨b1,o1,RA,rc,a0,Z,x0,h1,h2,h3,h4⟩:=HR.out s hsn
  subst a0
  replace x0:=cellS HB.out x0
  have G:=hid h3
  clear h3 h4 h1 h2 Z
  go_wp2_with fail
  clear x0
  refine (zdg RA N rc (R s) w4 (G.out.on HB.out) (by omega)).mono ?_
  rintro e w5 ⟨rfl,kb⟩
  replace HB:=hid (onS HB.out kb);clear kb;rw [HS.out.first hsn]
  have C:=HS.out.pos hsn
  have m:actA pv R N (i+1) s=true↔(pv s<=i/\(i:Int)<lE (R s) N):=by rw [zaN]; omega
  have c:actE pv R N i s=true↔(pv s<=i/\(i:Int)<=lE (R s) N):=zbs i s
  obtain ⟨p,hp⟩:=exx (pv s)
  obtain ⟨l,hl⟩:=exx (lE (R s) N)
  rw [<-hp,<-hl] at C m c ⊢;clear hp hl
  by_cases g1:p<=i
  rotate_left
  ·have g1':¬ (p:Int)<=(i:Int):=by omega
   have g1d:decide ((p:Int)<=(i:Int))=false:=by simp; omega
   have r:actA pv R N (i+1) s=false:=by
    cases hb:actA pv R N (i+1) s with
    | false=>rfl
    | true=>exact absurd (m.1 hb).1 g1
   have o:Hid (a=cntB (actA pv R N (i+1)) (s+1)):=hid (by rw [zbi,r,<-HA.out]; rfl)
   have u:actE pv R N i s=false:=by
    cases hb:actE pv R N i s with
    | false=>rfl
    | true=>exact absurd (c.1 hb).1 g1
   have k:Hid (b=cntB (actE pv R N i) (s+1)):=hid (by rw [zbi,u,<-HE.out]; rfl)
   clear m c r u
   go_wp2
   go_roundg (gk - 1)
   case measure=>omega
   case rel=>exact ⟨s+1,a,b,by go_num,rfl,rfl,by omega,by omega,o,k,by omega,by omega,HB.out⟩
  have g1':(p:Int)<=(i:Int):=by omega
  have g1d:decide ((p:Int)<=(i:Int))=true:=by simp; omega
  by_cases g2:(i:Int)<l
  ·have g3:(i:Int)<=l:=by omega
   have g2d:decide ((i:Int)<l)=true:=by simp; omega
   have g3d:decide ((i:Int)<=l)=true:=by simp; omega
   have o:Hid (a+1=cntB (actA pv R N (i+1)) (s+1)):=hid (by rw [zbi,m.2 ⟨g1,g2⟩,<-HA.out]; rfl)
   have k:Hid (b+1=cntB (actE pv R N i) (s+1)):=hid (by rw [zbi,c.2 ⟨g1,g3⟩,<-HE.out]; rfl)
   clear m c
   go_wp2
   go_roundg (gk - 1)
   case measure=>omega
   case rel=>exact ⟨s+1,a+1,b+1,by go_num,by go_num,by go_num,by omega,by omega,o,k,by omega,by omega,HB.out⟩
  have g2d:decide ((i:Int)<l)=false:=by simp; omega
  have r:actA pv R N (i+1) s=false:=by
   cases hb:actA pv R N (i+1) s with
   | false=>rfl
   | true=>exact absurd (m.1 hb).2 g2
  have o:Hid (a=cntB (actA pv R N (i+1)) (s+1)):=hid (by rw [zbi,r,<-HA.out]; rfl)
  by_cases g3:(i:Int)<=l
  ·have g3d:decide ((i:Int)<=l)=true:=by simp; omega
   have k:Hid (b+1=cntB (actE pv R N i) (s+1)):=hid (by rw [zbi,c.2 ⟨g1,g3⟩,<-HE.out]; rfl)
   clear m c r
   go_wp2
   go_roundg (gk - 1)
   case measure=>omega
   case rel=>exact ⟨s+1,a,b+1,by go_num,rfl,by go_num,by omega,by omega,o,k,by omega,by omega,HB.out⟩
  have g3d:decide ((i:Int)<=l)=false:=by simp; omega
  have u:actE pv R N i s=false:=by
   cases hb:actE pv R N i s with
   | false=>rfl
   | true=>exact absurd (c.1 hb).2 g3
  have k:Hid (b=cntB (actE pv R N i) (s+1)):=hid (by rw [zbi,u,<-HE.out]; rfl)
  clear m c r u
  go_wp2
  go_roundg (gk - 1)
  case measure=>omega
  case rel=>exact ⟨s+1,a,b,by go_num,rfl,rfl,by omega,by omega,o,k,by omega,by omega,HB.out⟩
 have B:¬ (s:Int)<(n:Int):=by omega
 obtain rfl:s=n:=by omega
 obtain ⟨mo,K⟩:∃ mo:Nat,mo=65536 - nd:=⟨_,rfl⟩
 have m1:wrap64 ((65536:Int) - (nd:Int))=(mo:Int):=by unfold wrap64; omega
 have m2:IntKind.i64.wrap ((65536:Int) - (nd:Int))=(mo:Int):=by rw [IntWalk.i64_in _ (by omega)]; omega
 obtain ⟨me,L⟩:∃ me:Nat,me=262144 - ed:=⟨_,rfl⟩
 have m3:wrap64 ((262144:Int) - (ed:Int))=(me:Int):=by unfold wrap64; omega
 have m4:IntKind.i64.wrap ((262144:Int) - (ed:Int))=(me:Int):=by rw [IntWalk.i64_in _ (by omega)]; omega
 have a3:=hid K
 have a4:=hid L
 have W:mo<=65536:=by omega
 have X:me<=262144:=by omega
 have o:Hid (a=dA (i+1)):=hid (by rw [a7.out]; exact HA.out)
 have k:Hid (b=dE i):=hid (by rw [a6.out]; exact HE.out)
 clear K L HA HE
 go_wp2_with fail
 refine (zdK q a mo w4 hq (by omega) (by omega) (by omega)).mono ?_
 rintro e w5 ⟨hx,kb⟩
 have S:∃ x1 e1:Int,e=.returned (.tuple #[.int .i64 x1,.int .i64 e1])/\((q ^ a<=mo/\x1=(q ^ a:Nat)/\e1=0)∨(mo<q ^ a/\e1=8)):=by
  rcases hx with ⟨h1,h2⟩ | ⟨h1,h2⟩
  ·exact ⟨_,_,h2,.inl ⟨h1,rfl,rfl⟩⟩
  ·exact ⟨_,_,h2,.inr ⟨h1,rfl⟩⟩
 obtain ⟨x1,e1,rfl,J⟩:=S
 have HX:=hid J
 replace HB:=hid (onS HB.out kb);clear hx J kb
 go_wp2_with fail
 refine (zdK q b me w5 hq (by omega) (by omega) (by omega)).mono ?_
 rintro e w6 ⟨hy,kb⟩
 have Q:∃ y1 f1:Int,e=.returned (.tuple #[.int .i64 y1,.int .i64 f1])/\((q ^ b<=me/\y1=(q ^ b:Nat)/\f1=0)∨(me<q ^ b/\f1=8)):=by
  rcases hy with ⟨h1,h2⟩ | ⟨h1,h2⟩
  ·exact ⟨_,_,h2,.inl ⟨h1,rfl,rfl⟩⟩
  ·exact ⟨_,_,h2,.inr ⟨h1,rfl⟩⟩
 obtain ⟨y1,f1,rfl,I⟩:=Q
 have HY:=hid I
 replace HB:=hid (onS HB.out kb);clear hy I kb m1 m2 m3 m4
 have eA:powS q dA (i+2)=powS q dA (i+1)+q ^ dA (i+1):=rfl
 have eE:powS q dE (i+1)=powS q dE i+q ^ dE i:=rfl
 have mA:powS q dA (i+2)<=powS q dA (N+1):=by
  have:=zch (q:=q) (d:=dA) (i+2) (N+1 - (i+2))
  rwa [show i+2+(N+1 - (i+2))=N+1 by omega] at this
 have mE:powS q dE (i+1)<=powS q dE N:=by
  have:=zch (q:=q) (d:=dE) (i+1) (N - (i+1))
  rwa [show i+1+(N - (i+1))=N by omega] at this
 have b1:=M.out
 have b2:=O.out
 have b3:=o.out
 have b4:=k.out
 have b5:=a3.out
 have b6:=a4.out
 rcases HX.out with ⟨x2,rfl,rfl⟩ | ⟨x2,rfl⟩
 rotate_left
 ·have P:((8:Int) != 0)=true:=by simp
  have H:Hid (¬ SizeIn q s N pv R):=hid fun g=>by
   have:=(F.out.1 g).1
   rw [b3] at x2
   omega
  clear HX HY b1 b2 b3 b4 eA eE mA mE
  go_wp2
  go_ret
  exact ⟨.inr ⟨H.out,rfl⟩,HB.out⟩
 have hz:((0:Int) != 0)=false:=by simp
 rcases HY.out with ⟨y2,rfl,rfl⟩ | ⟨y2,rfl⟩
 ·obtain ⟨qa,y⟩:∃ qa,qa=q ^ a:=⟨_,rfl⟩
  obtain ⟨qb,x⟩:=exx (q ^ b)
  have a2:Hid (nd+qa=powS q dA (i+1+1)):=hid (by rw [y,b3,b1,<-b3]; rw [show i+1+1=i+2 by omega,eA,b3])
  have a5:Hid (ed+qb=powS q dE (i+1)):=hid (by rw [x,b4,b2]; exact eE.symm)
  rw [<-y] at x2;rw [<-x] at y2;rw [<-y,<-x];clear y x HX HY b1 b2 b3 b4 eA eE mA mE
  go_wp2
  go_roundg (gO - 1)
  case measure=>omega
  case rel=>exact ⟨i+1,nd+qa,ed+qb,by go_num,by go_num,by go_num,by omega,by omega,a2,a5,by omega,by omega,HB.out⟩
 have P:((8:Int) != 0)=true:=by simp
 have H:Hid (¬ SizeIn q s N pv R):=hid fun g=>by
  have:=(F.out.1 g).2
  rw [b4] at y2
  omega
 clear HX HY b1 b2 b3 b4 eA eE mA mE
 go_wp2
 go_ret
 exact ⟨.inr ⟨H.out,rfl⟩,HB.out⟩
def stepE (q:Nat) (add mul:Nat->Nat->Nat) (pv:Nat->Nat) (R:Nat->Nat->Nat) (N i t:Nat) (e:Int × Int × Int) (a:Nat):Int × Int × Int :=
 (if pv t<i then e.1*(q:Nat)+(a:Nat) else e.1,((add e.2.1.toNat (mul a (R t i)):Nat):Int),if (i:Int)<lE (R t) N then e.2.2*(q:Nat)+(a:Nat) else e.2.2)
def SecX (q:Nat) (add mul:Nat->Nat->Nat) (pv:Nat->Nat) (R:Nat->Nat->Nat) (N i t:Nat) (x:Nat->Int × Int × Int):Prop :=
 ∀ c:Nat->Nat,(∀ s,c s<q)->x (packB q (actE pv R N i) c t)=secE q add mul pv R N t i c
structure SecM (q:Nat) (add mul:Nat->Nat->Nat) (n N:Nat) (pv:Nat->Nat) (R:Nat->Nat->Nat) (i m:Nat) (y:Nat->Int × Int × Int):Prop where
 el:m=q ^ cntB (actE pv R N i) n
 out:∀ c:Nat->Nat,(∀ s,c s<q)->∃ j,j<m/\y j=secE q add mul pv R N n i c
 inn:∀ j,j<m->∃ c:Nat->Nat,(∀ s,c s<q)/\y j=secE q add mul pv R N n i c
 srt:∀ a b,a<b->b<m->ltE (y a) (y b)
section
variable {q n N:Nat} {add mul:Nat->Nat->Nat} {pv:Nat->Nat} {R:Nat->Nat->Nat} {i:Nat}
theorem zgI:SecX q add mul pv R N i 0 (fun _=>(0,0,0)):=fun _ _=>rfl
theorem zgJ (hL:FieldLaws q add mul) (h:SpanF q n N pv R) (hi:i<N) {t:Nat} (ht:t<n) {x:Nat->Int × Int × Int} (hA:actE pv R N i t=false) (hx:SecX q add mul pv R N i t x):SecX q add mul pv R N i (t+1) x:=by
 have hR:R t i=0:=by
  by_cases g1:pv t<=i
  ·by_cases g2:(i:Int)<=lE (R t) N
   ·rw [(zbs i t).2 ⟨g1,g2⟩] at hA
    cases hA
   ·exact zbg (n:=N) hi (by omega)
  ·exact h.low t ht i (by omega)
 have hn:¬ (pv t<=i/\(i:Int)<=lE (R t) N):=fun g=>by rw [(zbs i t).2 g] at hA; cases hA
 have h1:actA pv R N i t=false:=by
  cases hb:actA pv R N i t with
  | false=>rfl
  | true=>have:=(zaN i t).1 hb; exact absurd ⟨by omega,this.2⟩ hn
 have h2:actA pv R N (i+1) t=false:=by
  cases hb:actA pv R N (i+1) t with
  | false=>rfl
  | true=>have:=(zaN (i+1) t).1 hb; exact absurd ⟨by omega,by omega⟩ hn
 intro c hc
 have e0:packB q (actE pv R N i) c (t+1)=packB q (actE pv R N i) c t:=by
  show (if actE pv R N i t then packB q (actE pv R N i) c t*q+c t else packB q (actE pv R N i) c t)=_
  rw [hA]; rfl
 have e1:packB q (actA pv R N i) c (t+1)=packB q (actA pv R N i) c t:=by
  show (if actA pv R N i t then packB q (actA pv R N i) c t*q+c t else packB q (actA pv R N i) c t)=_
  rw [h1]; rfl
 have e2:packB q (actA pv R N (i+1)) c (t+1)=packB q (actA pv R N (i+1)) c t:=by
  show (if actA pv R N (i+1) t then packB q (actA pv R N (i+1)) c t*q+c t else packB q (actA pv R N (i+1)) c t)=_
  rw [h2]; rfl
 have e3:spE add mul R c (t+1) i=spE add mul R c t i:=by
  show add (spE add mul R c t i) (mul (c t) (R t i))=_
  rw [hR,hL.mulZero (hc t),hL.addComm,hL.zeroAdd _ (zaZ hL _ _ _)]
 rw [e0,hx c hc]
 unfold secE
 rw [e1,e2,e3]
theorem zgK {t:Nat} {x:Nat->Int × Int × Int} (hA:actE pv R N i t=true) (hx:SecX q add mul pv R N i t x):SecX q add mul pv R N i (t+1) (fun y=>stepE q add mul pv R N i t (x (y / q)) (y % q)):=by
 obtain ⟨g1,g2⟩:=(zbs i t).1 hA
 intro c hc
 have hq:0<q:=by have:=hc 0; omega
 have e0:packB q (actE pv R N i) c (t+1)=packB q (actE pv R N i) c t*q+c t:=by
  show (if actE pv R N i t then packB q (actE pv R N i) c t*q+c t else packB q (actE pv R N i) c t)=_
  rw [hA]; rfl
 have d1:(packB q (actE pv R N i) c t*q+c t) / q=packB q (actE pv R N i) c t:=by
  rw [Nat.mul_comm,Nat.mul_add_div hq,Nat.div_eq_of_lt (hc t),Nat.add_zero]
 have d2:(packB q (actE pv R N i) c t*q+c t) % q=c t:=by
  rw [Nat.mul_add_mod_self_right,Nat.mod_eq_of_lt (hc t)]
 show stepE q add mul pv R N i t (x (packB q (actE pv R N i) c (t+1) / q)) (packB q (actE pv R N i) c (t+1) % q)=_
 rw [e0,d1,d2,hx c hc]
 unfold stepE secE
 have e1:packB q (actA pv R N i) c (t+1)=if pv t<i then packB q (actA pv R N i) c t*q+c t else packB q (actA pv R N i) c t:=by
  show (if actA pv R N i t then packB q (actA pv R N i) c t*q+c t else packB q (actA pv R N i) c t)=_
  by_cases g:pv t<i
  ·rw [(zaN i t).2 ⟨g,g2⟩,if_pos g]; rfl
  have:actA pv R N i t=false:=by
   cases hb:actA pv R N i t with
   | false=>rfl
   | true=>exact absurd ((zaN i t).1 hb).1 g
  rw [this,if_neg g]; rfl
 have e2:packB q (actA pv R N (i+1)) c (t+1)=if (i:Int)<lE (R t) N then packB q (actA pv R N (i+1)) c t*q+c t else packB q (actA pv R N (i+1)) c t:=by
  show (if actA pv R N (i+1) t then packB q (actA pv R N (i+1)) c t*q+c t else packB q (actA pv R N (i+1)) c t)=_
  by_cases g:(i:Int)<lE (R t) N
  ·rw [(zaN (i+1) t).2 ⟨by omega,by omega⟩,if_pos g]; rfl
  have:actA pv R N (i+1) t=false:=by
   cases hb:actA pv R N (i+1) t with
   | false=>rfl
   | true=>have:=((zaN (i+1) t).1 hb).2; omega
  rw [this,if_neg g]; rfl
 rw [e1,e2]
 refine Prod.ext ?_ (Prod.ext ?_ ?_)
 ·show (if pv t<i then _ else _)=_
  split <;> push_cast <;> rfl
 ·show ((add ((spE add mul R c t i:Nat):Int).toNat (mul (c t) (R t i)):Nat):Int)=((add (spE add mul R c t i) (mul (c t) (R t i)):Nat):Int)
  rw [Int.toNat_natCast]
 ·show (if (i:Int)<lE (R t) N then _ else _)=_
  split <;> push_cast <;> rfl
theorem zik (hL:FieldLaws q add mul) {t:Nat} {x:Nat->Int × Int × Int} (hx:SecX q add mul pv R N i t x) {y:Nat} (hy:y<q ^ cntB (actE pv R N i) t) :
  0<=(x y).1/\(x y).1<((q ^ cntB (actA pv R N i) t:Nat):Int)/\0<=(x y).2.1/\(x y).2.1<(q:Int)/\0<=(x y).2.2/\(x y).2.2<((q ^ cntB (actA pv R N (i+1)) t:Nat):Int):=by
 obtain ⟨c,h1,_,h3⟩:=zaM (by have:=hL.two; omega) t y hy
 have l1:=zbC (D:=actA pv R N i) t fun s _=>h1 s
 have l2:=zbC (D:=actA pv R N (i+1)) t fun s _=>h1 s
 have l3:=zaZ hL (V:=R) c t i
 rw [<-h3,hx c h1]
 unfold secE
 refine ⟨by show (0:Int)<=((_:Nat):Int); omega,by show (((_:Nat):Int))<((_:Nat):Int); omega,by show (0:Int)<=((_:Nat):Int); omega,by show (((_:Nat):Int))<((_:Nat):Int); omega,by show (0:Int)<=((_:Nat):Int); omega,by show (((_:Nat):Int))<((_:Nat):Int); omega⟩
theorem zfS {D E:Nat->Bool} (h:∀ s,D s=true->E s=true):∀ t,cntB D t<=cntB E t
 | 0=>Nat.le_refl _
 | t+1=>by
  have ih:=zfS h t
  show cntB D t+(if D t then 1 else 0)<=cntB E t+if E t then 1 else 0
  cases hD:D t with
  | false=>cases E t <;> simp <;> omega
  | true=>rw [h t hD]; simp; omega
theorem zfT (D:Nat->Bool):∀ t d,cntB D t<=cntB D (t+d)
 | _,0=>Nat.le_refl _
 | t,d+1=>by
  have:=zfT D t d
  show cntB D t<=cntB D (t+d)+if D (t+d) then 1 else 0
  omega
theorem zil (hL:FieldLaws q add mul) (h:SpanF q n N pv R) (hi:i<N) {x y:Nat->Int × Int × Int} (hx:SecX q add mul pv R N i n x)
  (hp:((List.range (q ^ cntB (actE pv R N i) n)).map y).Perm ((List.range (q ^ cntB (actE pv R N i) n)).map x)) (hs:∀ a b,a<b->b<q ^ cntB (actE pv R N i) n->¬ ltE (y b) (y a)) :
  SecM q add mul n N pv R i (q ^ cntB (actE pv R N i) n) y:=by
 have hq:0<q:=by have:=hL.two; omega
 have d:∀ j,j<q ^ cntB (actE pv R N i) n->∃ c:Nat->Nat,(∀ s,c s<q)/\x j=secE q add mul pv R N n i c:=fun j hj=>by
  obtain ⟨c,h1,_,h3⟩:=zaM hq n j hj
  exact ⟨c,h1,by rw [<-h3,hx c h1]⟩
 have k:((((List.range (q ^ cntB (actE pv R N i) n)).map x)).map fun t=>(t.1,t.2.1)).Nodup:=by
  rw [List.map_map]
  refine zaE.2 fun a b hab hb e=>?_
  obtain ⟨c,h1,_,h3⟩:=zaM hq (D:=actE pv R N i) n a (by omega)
  obtain ⟨c',g,_,m⟩:=zaM hq (D:=actE pv R N i) n b hb
  simp only [Function.comp,Prod.mk.injEq] at e
  rw [<-h3,<-m,hx c h1,hx c' g] at e
  have:=zhH (q:=q) (zhG hL h hi h1 g e.1 e.2)
  omega
 have f:=((hp.map fun t=>(t.1,t.2.1)).nodup_iff).2 k
 rw [List.map_map] at f
 refine ⟨rfl,fun c hc=>?_,fun j hj=>?_,fun a b hab hb=>?_⟩
 ·have:=hp.mem_iff.2 (List.mem_map.2 ⟨packB q (actE pv R N i) c n,List.mem_range.2 (zbC n fun s _=>hc s),rfl⟩)
  obtain ⟨j,hj,e⟩:=List.mem_map.1 this
  exact ⟨j,List.mem_range.1 hj,by rw [e,hx c hc]⟩
 ·have:=hp.mem_iff.1 (List.mem_map.2 ⟨j,List.mem_range.2 hj,rfl⟩)
  obtain ⟨p,l,e⟩:=List.mem_map.1 this
  obtain ⟨c,h1,h2⟩:=d p (List.mem_range.1 l)
  exact ⟨c,h1,by rw [<-e,h2]⟩
 have h3:=zaE.1 f a b hab hb
 have h4:=hs a b hab hb
 simp only [Function.comp,ne_eq,Prod.mk.injEq] at h3
 unfold ltE at *
 omega
end
end Go.Proofs.YtgekjfpapmlndaaGreat
namespace Go.Proofs
open Go.Shelf
def Tryz.sortInts_ren:Go.Shelf.Ren:=⟨fun | 6 => 156 | 15 => 202 | 14 => 208 | 28 => 219 | 29 => 237 | 20 => 242 | 21 => 243 | 22 => 244 | 23 => 245 | 24 => 246 | 25 => 247 | 26 => 248 | 27 => 249 | 46 => 265 | 47 => 255 | 48 => 256 | 49 => 266 | 50 => 267 | 57 => 269 | n=>n,fun | 22 => 22 | 24 => 3 | 25 => 123 | 3 => 3 | 39 => 200 | 0 => 0 | 53 => 109 | 55 => 71 | 4 => 4 | 46 => 253 | 45 => 252 | 50 => 130 | 5 => 5 | 9 => 9 | 66 => 268 | 70 => 272 | 76 => 280 | 77 => 101 | n=>n,fun | n=>n⟩
theorem Tryz.sortInts:Go.Proofs.SlLaysF.n6 Tryz.prog Tryz.sortInts_ren:={
 mixed:=by kernel_rfl
 f6:=⟨Tryz.f156.name,by decide,Tryz.func156.trans (congrArg some (by kernel_rfl))⟩
 f14:=⟨Tryz.f208.name,by decide,Tryz.func208.trans (congrArg some (by kernel_rfl))⟩
 f15:=Tryz.func202.trans (congrArg some (by kernel_rfl))
 f20:=⟨Tryz.f242.name,by decide,Tryz.func242.trans (congrArg some (by kernel_rfl))⟩
 f21:=⟨Tryz.f243.name,by decide,Tryz.func243.trans (congrArg some (by kernel_rfl))⟩
 f22:=⟨Tryz.f244.name,by decide,Tryz.func244.trans (congrArg some (by kernel_rfl))⟩
 f23:=⟨Tryz.f245.name,by decide,Tryz.func245.trans (congrArg some (by kernel_rfl))⟩
 f24:=⟨Tryz.f246.name,by decide,Tryz.func246.trans (congrArg some (by kernel_rfl))⟩
 f25:=⟨Tryz.f247.name,by decide,Tryz.func247.trans (congrArg some (by kernel_rfl))⟩
 f26:=⟨Tryz.f248.name,by decide,Tryz.func248.trans (congrArg some (by kernel_rfl))⟩
 f27:=⟨Tryz.f249.name,by decide,Tryz.func249.trans (congrArg some (by kernel_rfl))⟩
 f28:=Tryz.func219.trans (congrArg some (by kernel_rfl))
 f29:=Tryz.func237.trans (congrArg some (by kernel_rfl))
 f46:=⟨Tryz.f265.name,by decide,Tryz.func265.trans (congrArg some (by kernel_rfl))⟩
 f47:=Tryz.func255.trans (congrArg some (by kernel_rfl))
 f48:=Tryz.func256.trans (congrArg some (by kernel_rfl))
 f49:=⟨Tryz.f266.name,by decide,Tryz.func266.trans (congrArg some (by kernel_rfl))⟩
 f50:=⟨Tryz.f267.name,by decide,Tryz.func267.trans (congrArg some (by kernel_rfl))⟩
 f57:=⟨Tryz.f269.name,by decide,Tryz.func269.trans (congrArg some (by kernel_rfl))⟩
 t0:=Tryz.underlying0
 a0:=Tryz.isAgg0
 z0:=Tryz.sizeOf0
 v0:=Tryz.zeroValue0
 t3:=Tryz.underlying3
 a3:=Tryz.isAgg3
 z3:=Tryz.sizeOf3
 v3:=Tryz.zeroValue3
 t4:=Tryz.underlying4
 a4:=Tryz.isAgg4
 z4:=Tryz.sizeOf4
 v4:=Tryz.zeroValue4
 t5:=Tryz.underlying5
 a5:=Tryz.isAgg5
 z5:=Tryz.sizeOf5
 v5:=Tryz.zeroValue5
 t9:=Tryz.underlying9
 a9:=Tryz.isAgg9
 z9:=Tryz.sizeOf9
 v9:=Tryz.zeroValue9
 t22:=Tryz.underlying22
 a22:=Tryz.isAgg22
 z22:=Tryz.sizeOf22
 v22:=Tryz.zeroValue22
 a24:=Tryz.isAgg3
 z24:=Tryz.sizeOf3
 t25:=Tryz.underlying123
 a25:=Tryz.isAgg123
 z25:=Tryz.sizeOf123
 v25:=Tryz.zeroValue123
 t39:=Tryz.underlying200
 a39:=Tryz.isAgg200
 z39:=Tryz.sizeOf200
 v39:=Tryz.zeroValue200
 t45:=Tryz.underlying252
 a45:=Tryz.isAgg252
 z45:=Tryz.sizeOf252
 v45:=Tryz.zeroValue252
 t46:=Tryz.underlying253
 a46:=Tryz.isAgg253
 z46:=Tryz.sizeOf253
 v46:=Tryz.zeroValue253
 t50:=Tryz.underlying130
 a50:=Tryz.isAgg130
 z50:=Tryz.sizeOf130
 v50:=Tryz.zeroValue130
 t53:=Tryz.underlying109
 a53:=Tryz.isAgg109
 z53:=Tryz.sizeOf109
 v53:=Tryz.zeroValue109
 t55:=Tryz.underlying71
 a55:=Tryz.isAgg71
 z55:=Tryz.sizeOf71
 v55:=Tryz.zeroValue71
 t66:=Tryz.underlying268
 a66:=Tryz.isAgg268
 z66:=Tryz.sizeOf268
 v66:=Tryz.zeroValue268
 t70:=Tryz.underlying272
 a70:=Tryz.isAgg272
 z70:=Tryz.sizeOf272
 v70:=Tryz.zeroValue272
 t76:=Tryz.underlying280
 a76:=Tryz.isAgg280
 z76:=Tryz.sizeOf280
 v76:=Tryz.zeroValue280
 t77:=Tryz.underlying101
 a77:=Tryz.isAgg101
 z77:=Tryz.sizeOf101
 v77:=Tryz.zeroValue101 }
def Tryz.sortEdges_ren:Go.Shelf.Ren:=⟨fun | 6 => 150 | 15 => 202 | 14 => 201 | 28 => 219 | 29 => 237 | 20 => 229 | 21 => 230 | 22 => 231 | 23 => 232 | 24 => 233 | 25 => 234 | 26 => 235 | 27 => 236 | 46 => 254 | 47 => 255 | 48 => 256 | 49 => 257 | 50 => 258 | 57 => 268 | n=>n,fun | 22 => 86 | 24 => 90 | 25 => 184 | 3 => 3 | 39 => 200 | 0 => 0 | 53 => 109 | 55 => 71 | 4 => 4 | 46 => 253 | 45 => 252 | 50 => 130 | 5 => 5 | 9 => 9 | 66 => 268 | 70 => 272 | 76 => 280 | 77 => 101 | n=>n,fun | n=>n⟩
theorem Tryz.sortEdges:Go.Proofs.SlLaysF0.n6 Tryz.prog Tryz.sortEdges_ren:={
 mixed:=by kernel_rfl
 f6:=⟨Tryz.f150.name,by decide,Tryz.func150.trans (congrArg some (by kernel_rfl))⟩
 f14:=⟨Tryz.f201.name,by decide,Tryz.func201.trans (congrArg some (by kernel_rfl))⟩
 f15:=Tryz.func202.trans (congrArg some (by kernel_rfl))
 f20:=⟨Tryz.f229.name,by decide,Tryz.func229.trans (congrArg some (by kernel_rfl))⟩
 f21:=⟨Tryz.f230.name,by decide,Tryz.func230.trans (congrArg some (by kernel_rfl))⟩
 f22:=⟨Tryz.f231.name,by decide,Tryz.func231.trans (congrArg some (by kernel_rfl))⟩
 f23:=⟨Tryz.f232.name,by decide,Tryz.func232.trans (congrArg some (by kernel_rfl))⟩
 f24:=⟨Tryz.f233.name,by decide,Tryz.func233.trans (congrArg some (by kernel_rfl))⟩
 f25:=⟨Tryz.f234.name,by decide,Tryz.func234.trans (congrArg some (by kernel_rfl))⟩
 f26:=⟨Tryz.f235.name,by decide,Tryz.func235.trans (congrArg some (by kernel_rfl))⟩
 f27:=⟨Tryz.f236.name,by decide,Tryz.func236.trans (congrArg some (by kernel_rfl))⟩
 f28:=Tryz.func219.trans (congrArg some (by kernel_rfl))
 f29:=Tryz.func237.trans (congrArg some (by kernel_rfl))
 f46:=⟨Tryz.f254.name,by decide,Tryz.func254.trans (congrArg some (by kernel_rfl))⟩
 f47:=Tryz.func255.trans (congrArg some (by kernel_rfl))
 f48:=Tryz.func256.trans (congrArg some (by kernel_rfl))
 f49:=⟨Tryz.f257.name,by decide,Tryz.func257.trans (congrArg some (by kernel_rfl))⟩
 f50:=⟨Tryz.f258.name,by decide,Tryz.func258.trans (congrArg some (by kernel_rfl))⟩
 f57:=⟨Tryz.f268.name,by decide,Tryz.func268.trans (congrArg some (by kernel_rfl))⟩
 t0:=Tryz.underlying0
 a0:=Tryz.isAgg0
 z0:=Tryz.sizeOf0
 v0:=Tryz.zeroValue0
 t3:=Tryz.underlying3
 a3:=Tryz.isAgg3
 z3:=Tryz.sizeOf3
 v3:=Tryz.zeroValue3
 t4:=Tryz.underlying4
 a4:=Tryz.isAgg4
 z4:=Tryz.sizeOf4
 v4:=Tryz.zeroValue4
 t5:=Tryz.underlying5
 a5:=Tryz.isAgg5
 z5:=Tryz.sizeOf5
 v5:=Tryz.zeroValue5
 t9:=Tryz.underlying9
 a9:=Tryz.isAgg9
 z9:=Tryz.sizeOf9
 v9:=Tryz.zeroValue9
 t22:=Tryz.underlying86
 a22:=Tryz.isAgg86
 z22:=Tryz.sizeOf86
 v22:=Tryz.zeroValue86
 t25:=Tryz.underlying184
 a25:=Tryz.isAgg184
 z25:=Tryz.sizeOf184
 v25:=Tryz.zeroValue184
 t39:=Tryz.underlying200
 a39:=Tryz.isAgg200
 z39:=Tryz.sizeOf200
 v39:=Tryz.zeroValue200
 t45:=Tryz.underlying252
 a45:=Tryz.isAgg252
 z45:=Tryz.sizeOf252
 v45:=Tryz.zeroValue252
 t46:=Tryz.underlying253
 a46:=Tryz.isAgg253
 z46:=Tryz.sizeOf253
 v46:=Tryz.zeroValue253
 t50:=Tryz.underlying130
 a50:=Tryz.isAgg130
 z50:=Tryz.sizeOf130
 v50:=Tryz.zeroValue130
 t53:=Tryz.underlying109
 a53:=Tryz.isAgg109
 z53:=Tryz.sizeOf109
 v53:=Tryz.zeroValue109
 t55:=Tryz.underlying71
 a55:=Tryz.isAgg71
 z55:=Tryz.sizeOf71
 v55:=Tryz.zeroValue71
 t66:=Tryz.underlying268
 a66:=Tryz.isAgg268
 z66:=Tryz.sizeOf268
 v66:=Tryz.zeroValue268
 t70:=Tryz.underlying272
 a70:=Tryz.isAgg272
 z70:=Tryz.sizeOf272
 v70:=Tryz.zeroValue272
 t76:=Tryz.underlying280
 a76:=Tryz.isAgg280
 z76:=Tryz.sizeOf280
 v76:=Tryz.zeroValue280
 t77:=Tryz.underlying101
 a77:=Tryz.isAgg101
 z77:=Tryz.sizeOf101
 v77:=Tryz.zeroValue101 }
def Tryz.cmpInt_ren:Go.Shelf.Ren:=⟨fun | 5 => 157 | 7 => 209 | n=>n,fun | 22 => 3 | 3 => 3 | 4 => 4 | n=>n,fun | n=>n⟩
theorem Tryz.cmpInt:Go.Proofs.SlLaysC2.n5 Tryz.prog Tryz.cmpInt_ren:={
 mixed:=by kernel_rfl
 f5:=⟨Tryz.f157.name,by decide,Tryz.func157.trans (congrArg some (by kernel_rfl))⟩
 f7:=⟨Tryz.f209.name,by decide,Tryz.func209.trans (congrArg some (by kernel_rfl))⟩
 t3:=Tryz.underlying3
 a3:=Tryz.isAgg3
 z3:=Tryz.sizeOf3
 v3:=Tryz.zeroValue3
 t4:=Tryz.underlying4
 a4:=Tryz.isAgg4
 z4:=Tryz.sizeOf4
 v4:=Tryz.zeroValue4
 t22:=Tryz.underlying3
 a22:=Tryz.isAgg3
 z22:=Tryz.sizeOf3
 v22:=Tryz.zeroValue3 }
end Go.Proofs
namespace Go.Proofs.YtgekjfpapmlndaaGreat
open Go.RowKit
def GG (w w':World):Prop:=∃ q os,w'=Go.Sort.grow (w.drewN q) os
theorem GG.refl (w:World):GG w w:=⟨0,#[],by rw [Go.Sort.grow_empty]; rfl⟩
theorem GG.trans {a b c:World} (h:GG a b) (k:GG b c):GG a c:=by
 obtain ⟨q,os,rfl⟩:=h
 obtain ⟨q',os',rfl⟩:=k
 refine ⟨q+q',os ++ os',?_⟩
 show Go.Sort.grow (Go.Sort.grow ((a.drewN q).drewN q') os) os'=_
 rw [Go.Sort.grow_grow,World.drewN_drewN]
theorem GG.alloc {a b:World} (h:GG a b) {o:Obj}:GG a (b.alloc o):=h.trans ⟨0,#[o],by rw [Go.Sort.alloc_eq_grow]; rfl⟩
theorem GG.drew {a b:World} (h:GG a b):GG a b.drew:=h.trans ⟨1,#[],by rw [Go.Sort.grow_empty]; rfl⟩
theorem GG.below {a b:World} (h:GG a b):Below a.heap.size a b:=by
 obtain ⟨q,os,rfl⟩:=h
 exact ⟨rfl,rfl,rfl,by simp [Go.Sort.grow,World.drewN],fun k hk=>Go.Sort.heap_grow_old (a.drewN q) os hk⟩
theorem zim (a b:Int):Go.Lib.compareInt a b=cmpI a b:=rfl
theorem zin (a b:Int) (w:World):Calls Tryz.prog 157 #[.int .i64 a,.int .i64 b] w fun e w'=>e=.returned (.int .i64 (cmpI a b))/\Below w.heap.size w w'/\GG w w' :=
 (show Calls Tryz.prog 157 _ _ _ from AnyG.cmp_Compare_int Tryz.cmpInt a b w).mono fun _ _ ⟨he,hw⟩=>⟨by rw [he,zim],by rw [hw]; exact Below.refl _ _,by rw [hw]; exact GG.refl _⟩
theorem zhK (A:Option Addr) (c:Nat) (f:Nat->Int) (w:World) (h:IntsR w w.heap.size A 2 f) :
  Calls Tryz.prog 203 #[.slice A 2 c] w fun e w'=>e=.returned (.int .i64 (orV (f 0) (f 1)))/\w'=w:=by
 obtain ⟨b,o,rfl,hb,x0⟩:=h.at (i:=0) (by omega)
 obtain ⟨_,_,e1,_,x1⟩:=h.at (i:=1) (by omega)
 injection e1 with e1; injection e1 with e1 e2; subst e1 e2
 obtain ⟨x,hx⟩:=exx (f 0)
 obtain ⟨y,hy⟩:=exx (f 1)
 rw [<-hx] at x0 ⊢;rw [<-hy] at x1 ⊢;clear hx hy h
 go_enter Tryz.func203, Tryz.ntmps203
 go_wp2
 go_loopg [5,8] 2 (fun gg ev iv wx=>∃ k:Nat,iv=.int .i64 (k:Nat)/\k<=2/\2<=k+gg/\(1<=k->x=0)/\(2<=k->y=0)/\wx=w)
 case atStart=>exact ⟨0,rfl,by omega,by omega,fun h=>absurd h (by omega),fun h=>absurd h (by omega),rfl⟩
 obtain ⟨k,rfl,hk,j,h1,h2,rfl⟩:=hrel
 have H1:=hid h1
 have H2:=hid h2
 clear h1 h2
 by_cases hk2:k=2
 ·have g:¬ (k:Int)<2:=by omega
  have hE:Hid (orV x y=0):=by
   show _=_
   unfold orV
   rw [if_pos (H1.out (by omega)),H2.out (by omega)]
  clear hk2
  go_wp2
  go_ret
  exact ⟨zao hE.out.symm,rfl⟩
 have g:(k:Int)<2:=by omega
 have l:(0:Int)<=(k:Int):=by omega
 by_cases hk1:k=0
 ·have xk:wr.cell? ⟨b,o+k,none⟩=some (.int .i64 x):=by rw [hk1]; exact x0
  by_cases hx:x=0
  ·have d:(x != 0)=false:=by simp [hx]
   have a:(x == 0)=true:=by simp [hx]
   have HX:=hid hx
   have HK:=hid hk1
   clear hx x0 x1 hk1 hk2
   go_wp2
   go_roundg (gk - 1)
   case measure=>omega
   case rel=>exact ⟨k+1,by go_num,by omega,by omega,fun _=>HX.out,fun h=>absurd h (by have:=HK.out; omega),rfl⟩
  have d:(x != 0)=true:=by simp [hx]
  have a:(x == 0)=false:=by simp [hx]
  have hE:Hid (orV x y=x):=if_neg hx
  clear hx x0 x1 hk1 hk2
  go_wp2
  go_ret
  exact ⟨zao hE.out.symm,rfl⟩
 have xk:wr.cell? ⟨b,o+k,none⟩=some (.int .i64 y):=by rw [show k=1 by omega]; exact x1
 have hx:x=0:=H1.out (by omega)
 by_cases hy:y=0
 ·have d:(y != 0)=false:=by simp [hy]
  have a:(y == 0)=true:=by simp [hy]
  have HX:=hid hx
  have HY:=hid hy
  clear hx hy x0 x1 hk1 hk2
  go_wp2
  go_roundg (gk - 1)
  case measure=>omega
  case rel=>exact ⟨k+1,by go_num,by omega,by omega,fun _=>HX.out,fun _=>HY.out,rfl⟩
 have d:(y != 0)=true:=by simp [hy]
 have a:(y == 0)=false:=by simp [hy]
 have hE:Hid (orV x y=y):=if_pos hx
 clear hx hy x0 x1 hk1 hk2
 go_wp2
 go_ret
 exact ⟨zao hE.out.symm,rfl⟩
theorem zgL (A:Option Addr) (c:Nat) (f:Nat->Int) (w:World) (h:IntsR w w.heap.size A 2 f) :
  Calls Tryz.prog 203 #[.slice A 2 c] w fun e w'=>e=.returned (.int .i64 (orV (f 0) (f 1)))/\Below w.heap.size w w'/\GG w w' :=
 (zhK A c f w h).mono fun _ _ ⟨he,hw⟩=>⟨he,by rw [hw]; exact Below.refl _ _,by rw [hw]; exact GG.refl _⟩
theorem zg9 (f l t f' l' t':Int) (w:World) :
  Calls Tryz.prog 151 #[.agg #[.int .i64 f,.int .i64 l,.int .i64 t],.agg #[.int .i64 f',.int .i64 l',.int .i64 t']] w fun e w'=>e=.returned (.int .i64 (lessV f l f' l'))/\Below w.heap.size w w'/\GG w w':=by
 go_enter Tryz.func151, Tryz.ntmps151
 go_upto_region 1 with fail
 obtain ⟨B1,c⟩:=exx ((Obj.cells #[.int .i64 f,.int .i64 l,.int .i64 t] 90))
 obtain ⟨B2,b⟩:=exx ((Obj.cells #[.int .i64 f',.int .i64 l',.int .i64 t'] 90))
 rw [<-c,<-b]
 have a:Below (w.heap.size+1) (w.alloc B1) ((w.alloc B1).alloc B2):=(Below.refl _ _).alloc (by simp) _
 have hW:=zaC a
 have hG:GG w ((w.alloc B1).alloc B2):=(GG.refl w).alloc.alloc
 have p0:((w.alloc B1).alloc B2).cell? ⟨w.heap.size,0,none⟩=some (.int .i64 f):=by subst c; exact tbox a rfl
 have p1:((w.alloc B1).alloc B2).cell? ⟨w.heap.size,1,none⟩=some (.int .i64 l):=by subst c; exact tbox a rfl
 have p2:((w.alloc B1).alloc B2).cell? ⟨w.heap.size+1,0,none⟩=some (.int .i64 f'):=by subst b; simp
 have p3:((w.alloc B1).alloc B2).cell? ⟨w.heap.size+1,1,none⟩=some (.int .i64 l'):=by subst b; simp
 obtain ⟨w1,d⟩:∃ W,W=(w.alloc B1).alloc B2:=⟨_,rfl⟩
 rw [<-d] at hW hG p0 p1 p2 p3 ⊢;clear a d c b
 refine wp_region_held_drew (S:=fun w'=>w'.cell? ⟨w.heap.size,0,none⟩=some (.int .i64 f)/\w'.cell? ⟨w.heap.size,1,none⟩=some (.int .i64 l)/\w'.cell? ⟨w.heap.size+1,0,none⟩=some (.int .i64 f')/\w'.cell? ⟨w.heap.size+1,1,none⟩=some (.int .i64 l')) (by kernel_rfl) ⟨cellS (Below.refl _ _).drew p0,cellS (Below.refl _ _).drew p1,cellS (Below.refl _ _).drew p2,cellS (Below.refl _ _).drew p3⟩ (fun hHeld=>?_)
 obtain ⟨w2,hw,kb⟩:=dwx w1
 have kg:GG w1 w2:=by rw [hw]; exact (GG.refl _).drew
 rw [<-hw] at hHeld ⊢;clear hw;replace hW:=onS hW kb;replace p0:=cellS kb p0;replace p1:=cellS kb p1;replace p2:=cellS kb p2;replace p3:=cellS kb p3;clear kb;replace hG:=hG.trans kg;clear kg
 refine tkq 0 (h:=tkq 1 (h:=tkq 2 (h:=tkq 3 (h:=tkq 5 (h:=tkq 6 (h:=tkq 7 (h:=tkq 8 (h:=?_))))))))
 refine rdq 4 (h:=fun K hK=>?_)
 go_simp
 go_wp2_with fail
 refine (zin f f' w2).mono ?_
 rintro e w3 ⟨rfl,kb,kg⟩
 replace hW:=onS hW kb;replace p0:=cellS kb p0;replace p1:=cellS kb p1;replace p2:=cellS kb p2;replace p3:=cellS kb p3;clear kb;replace hG:=hG.trans kg;clear kg
 refine bkq hK ⟨p0,p1,p2,p3⟩ (h:=fun hHeld=>?_)
 clear hK K
 refine rdq 9 (h:=fun K hK=>?_)
 go_simp
 go_wp2_with fail
 refine (zin l l' w3).mono ?_
 rintro e w4 ⟨rfl,kb,kg⟩
 replace hW:=onS hW kb;replace p0:=cellS kb p0;replace p1:=cellS kb p1;replace p2:=cellS kb p2;replace p3:=cellS kb p3;clear kb;replace hG:=hG.trans kg;clear kg
 refine bkq hK ⟨p0,p1,p2,p3⟩ (h:=fun hHeld=>?_)
 clear hK K
 refine rdq 10 (h:=fun K hK=>?_)
 go_simp
 obtain ⟨w5,hw⟩:=exx (World.alloc w4 (Obj.cells #[.int .i64 (cmpI f f'),.int .i64 (cmpI l l')] 3))
 have kb:=alx hw
 have kg:GG w4 w5:=by rw [hw]; exact (GG.refl _).alloc
 have hi:IntsR w5 w5.heap.size (some ⟨w4.heap.size,0,none⟩) 2 (fun i=>if i=0 then cmpI f f' else cmpI l l'):=by
  rw [hw]
  intro i hi
  refine ⟨_,0,rfl,by simp,fun j hj=>?_⟩
  obtain rfl:j=0:=by omega
  match i,hi with
  | 0,_=>simp
  | 1,_=>simp
 rw [<-hw];clear hw
 obtain ⟨nb,g⟩:=exx w4.heap.size
 rw [<-g] at hi ⊢;clear g;replace hW:=onS hW kb;replace p0:=cellS kb p0;replace p1:=cellS kb p1;replace p2:=cellS kb p2;replace p3:=cellS kb p3;clear kb;replace hG:=hG.trans kg;clear kg
 refine bkq hK ⟨p0,p1,p2,p3⟩ (h:=fun hHeld=>?_)
 clear hK K
 refine rdq 11 (h:=fun K hK=>?_)
 go_simp
 go_wp2_with fail
 refine ((show Calls _ _ _ _ (fun e w'=>e=.returned (.int .i64 (lessV f l f' l'))/\Below w5.heap.size w5 w'/\GG w5 w') from zgL (some ⟨nb,0,none⟩) 2 _ w5 hi)).mono ?_
 rintro e w6 ⟨rfl,kb,kg⟩
 replace hW:=onS hW kb;replace p0:=cellS kb p0;replace p1:=cellS kb p1;replace p2:=cellS kb p2;replace p3:=cellS kb p3;replace hi:=hi.on kb;clear kb;replace hG:=hG.trans kg;clear kg
 refine bkq hK ⟨p0,p1,p2,p3⟩ (h:=fun hHeld=>?_)
 clear hK K
 refine tkq 12 (h:=?_)
 refine wpAnyH_done (by kernel_rfl) ?_ _
 clear hHeld
 go_wp2_with fail
 go_ret
 exact ⟨rfl,hW,hG⟩
section
variable {α:Type} [Inhabited α] {w:World} {base:Nat} {e:TypeId} {s n g o cap:Nat} {f f':Nat->Nat->Value}
theorem ze5 (enc:α->Value) (w:World) (m g o:Nat) (d:Array α) (os:Array Obj) {cur:Array Value} {e:TypeId} {fr:Nat × Nat} (hg:w.heap[g]?=some (.cells cur e fr)) :
  (sortWorld enc w g o m d os).heap[g]?=some (.cells (Go.Sort.putCells enc o d cur) e fr):=by
 have a:=(Array.getElem?_eq_some_iff.1 hg).1
 unfold sortWorld
 rw [Go.Sort.heap_grow_old _ _ (by rw [Go.Sort.size_putRow]; exact a)]
 show (w.heap.modify g (Go.Sort.onCells (Go.Sort.putCells enc o d)))[g]?=_
 rw [Array.getElem?_modify,if_pos rfl,hg]
 rfl
theorem zbj (enc:α->Value) (w:World) (m g o:Nat) (d:Array α) (os:Array Obj):w.grownBy (sortWorld enc w g o m d os) (some g):=by
 refine ⟨rfl,rfl,rfl,by unfold sortWorld; rw [Go.Sort.size_grow,Go.Sort.size_putRow,Go.Sort.heap_ahead]; omega,fun k hk hne=>?_⟩
 unfold sortWorld
 rw [Go.Sort.heap_grow_old _ _ (by rw [Go.Sort.size_putRow]; exact hk)]
 show (w.heap.modify g _)[k]?=_
 rw [Array.getElem?_modify,if_neg (fun h=>hne (by rw [h]))]
theorem zdL (enc:α->Value) (d:Array α) (m:Nat) (os:Array Obj) (h:Own w base e s (.slice (some ⟨g,o,none⟩) n cap) n f) (hd:d.size=n*s) (hf:∀ i,i<n->∀ j,j<s->enc d[i*s+j]! =f' i j) :
  Own (sortWorld enc w g o m d os) base e s (.slice (some ⟨g,o,none⟩) n cap) n f':=by
 rcases h with ⟨h,_⟩ | ⟨g',o',cap',cur,h1,hb,hg,hc,hm,h6,h7⟩
 ·cases h
 injection h1 with h1 _ h2
 injection h1 with h1
 injection h1 with h1 h3
 subst h1 h2 h3
 refine .inr ⟨g,o,cap,_,rfl,hb,ze5 enc w m g o d os hg,hc,hm,by simpa [Go.Sort.putCells] using h6,fun i hi j hj=>?_⟩
 have b:i*s+j<n*s:=by
  have h1:(i+1)*s<=n*s:=Nat.mul_le_mul_right _ hi
  rw [Nat.add_mul,Nat.one_mul] at h1
  omega
 have a:o+i*s+j<cur.size:=by
  have h1:n*s<=cap*s:=Nat.mul_le_mul_right _ hc
  omega
 simp only [Go.Sort.putCells,Array.getElem?_mapIdx]
 rw [Array.getElem?_eq_getElem a,Option.map_some,if_pos ⟨by omega,by omega⟩,show o+i*s+j - o=i*s+j by omega,hf i hi j hj]
theorem zeD (enc:α->Value) (d:Array α) (h:Own w base e s (.slice (some ⟨g,o,none⟩) n cap) n f) (hs:0<s) (hn:0<n) (hd:d.size=n*s) (hf:∀ i,i<n->∀ j,j<s->enc d[i*s+j]! =f i j) :
  Go.Sort.Holds enc w g o d:=by
 intro t ht
 obtain ⟨g',o',c',h1,_,_,_,_,hc⟩:=h.form hn
 injection h1 with h1 _ h2
 injection h1 with h1
 injection h1 with h1 h3
 subst h1 h2 h3
 have h1:t / s<n:=Nat.div_lt_of_lt_mul (by rw [Nat.mul_comm]; omega)
 have h2:t % s<s:=Nat.mod_lt _ hs
 have h3:=hc _ h1 _ h2
 have h4:t / s*s+t % s=t:=by rw [Nat.mul_comm]; exact Nat.div_add_mod t s
 rw [Nat.add_assoc,h4,<-hf _ h1 _ h2,h4] at h3
 exact ⟨h3,h.frozen _⟩
end
theorem zcA {α:Type} [Inhabited α] {d d':Array α} (h:Go.Sort.PermIn 0 d.size d d'):d'.toList.Perm d.toList:=by
 obtain ⟨h1,_,h3⟩:=h
 have e1:d'.extract 0 d.size=d':=by rw [<-h1]; simp
 have e2:d.extract 0 d.size=d:=by simp
 rw [e1,e2] at h3
 exact h3
def CmpN (g:Nat) (cb:Array Value) (n:Nat) (cf:Nat->Nat->Int) (w:World) (row:Option Nat):Prop :=
 ∀ W,w.grownBy W row->∀ u v,u<n->v<n->Calls Tryz.prog g (#[.int .i64 (u:Nat),.int .i64 (v:Nat)] ++ cb) W fun e w'=>e=.returned (.int .i64 (cf u v))/\GG W w'
def encN (n:Nat) (x:Fin n):Value:=.int .i64 (x.val:Nat)
theorem zed (g:Nat) (cb:Array Value) (n:Nat) (cf:Nat->Nat->Int) (key:Nat->Nat) (w:World) (base:Nat) (v:Value)
  (eg:∀ args w,(callFunc g args).run Tryz.prog w=.ok (.enter g args) w) (hcmp:CmpN g cb n cf w v.ownBlock) (hlt:∀ u v,u<n->v<n->(cf u v<0↔key u<key v))
  (h:Own w base 3 1 v n (fun i _=>.int .i64 (i:Nat))) (hn:0<n) (hsz:n<=1048576) :
  Calls Tryz.prog 156 #[v,.func (.func g) #[] cb] w fun e w'=>e=.returned (.tuple #[]) /\
   ∃ l:List Nat,l.Perm (List.range n)/\(∀ p q,p<q->q<n->key (l.getD p 0)<=key (l.getD q 0))/\Own w' base 3 1 v n (fun i _=>.int .i64 (l.getD i 0:Nat))/\w.grownBy w' v.ownBlock:=by
 obtain ⟨blk,off,cap,rfl,_,hb,_⟩:=h.form hn
 haveI:Inhabited (Fin n):=⟨⟨0,hn⟩⟩
 have o:∀ i (hi:i<n),((Array.ofFn fun i:Fin n=>i)[i]!:Fin n)=⟨i,hi⟩:=fun i hi=>by
  rw [getElem!_pos _ i (by simpa using hi)]
  simp
 have b:(Array.ofFn fun i:Fin n=>i).size=n:=by simp
 have a:(Array.ofFn fun i:Fin n=>i).toList.map (·.val)=List.range n:=by
  apply List.ext_getElem (by simp)
  intro i h1 h2
  simp
 obtain ⟨d,hd⟩:∃ d:Array (Fin n),d=Array.ofFn fun i=>i:=⟨_,rfl⟩
 rw [<-hd] at o b a
 have hO:Go.Sort.SWO (ltOf fun x y:Fin n=>cf x.val y.val):=by
  have hl:∀ x y:Fin n,ltOf (fun x y:Fin n=>cf x.val y.val) x y=decide (key x.val<key y.val):=fun x y=>by
   unfold ltOf
   exact decide_eq_decide.2 (hlt x.val y.val x.2 y.2)
  exact ⟨fun x=>by rw [hl]; simp,fun x y z h1 h2=>by rw [hl] at *; simp at *; omega,fun x y z h1 h2=>by rw [hl] at *; simp at *; omega⟩
 have hH:Go.Sort.Holds (encN n) w blk off d:=zeD (encN n) d h (by omega) hn (by rw [b]; omega) fun i hi j hj=>by
  obtain rfl:j=0:=by omega
  rw [show i*1+0=i by omega,o i hi]
  rfl
 have hc:CmpLays1 Tryz.prog g cb (encN n) (fun x y:Fin n=>cf x.val y.val) blk off d.size w:=fun m os dk _ x y =>
  hcmp _ (zbj (encN n) w m blk off dk os) x.val y.val x.2 y.2
 have c:=Any.slices_SortFunc Tryz.sortInts (encN n) (fun _=>rfl) (fun x y:Fin n=>cf x.val y.val) hO g cb blk off cap d w eg hc hH hb (by rw [b]; omega)
 rw [b] at c
 refine Calls.mono (show Calls Tryz.prog 156 _ _ _ from c) ?_
 rintro e w' ⟨rfl,d',m,os,hp,k,rfl⟩
 refine ⟨rfl,d'.toList.map (·.val),?_,?_,?_,zbj (encN n) w m blk off d' os⟩
 ·rw [<-a]
  exact (zcA (by rw [b]; exact hp)).map _
 ·intro p q hpq hq
  have r:d'.size=n:=by have:=hp.1; omega
  have h1:=k p q (by omega) hpq hq
  have e1:∀ i,i<n->(d'.toList.map (·.val)).getD i 0=(d'[i]!:Fin n).val:=fun i hi=>by
   rw [List.getD_eq_getElem?_getD,List.getElem?_map,Array.getElem?_toList,getElem!_pos d' i (by omega),Array.getElem?_eq_getElem (by omega)]
   rfl
  rw [e1 p (by omega),e1 q hq]
  have h2:¬ cf (d'[q]!:Fin n).val (d'[p]!:Fin n).val<0:=by simpa [ltOf] using h1
  rw [hlt _ _ (Fin.isLt _) (Fin.isLt _)] at h2
  omega
 have r:d'.size=n:=by have:=hp.1; omega
 refine zdL (encN n) d' m os h (by omega) fun i hi j hj=>?_
 obtain rfl:j=0:=by omega
 rw [show i*1+0=i by omega,List.getD_eq_getElem?_getD,List.getElem?_map,Array.getElem?_toList,getElem!_pos d' i (by omega),Array.getElem?_eq_getElem (by omega)]
 rfl
def encE (x:Int × Int × Int):List Value:=[.int .i64 x.1,.int .i64 x.2.1,.int .i64 x.2.2]
theorem zgM (x y:Int × Int × Int):lessV x.1 x.2.1 y.1 y.2.1<0↔ltE x y:=zbM
theorem zb7 (n:Nat) (x:Nat->Int × Int × Int) (w:World) (base:Nat) (v:Value)
  (h:Own w base 90 3 v n (edgeCell x)) (hn:0<n) (hsz:n<=1048576) :
  Calls Tryz.prog 150 #[v,.func (.func 151) #[] #[]] w fun e w'=>e=.returned (.tuple #[]) /\
   ∃ y:Nat->Int × Int × Int,((List.range n).map y).Perm ((List.range n).map x)/\(∀ p q,p<q->q<n->¬ ltE (y q) (y p))/\Own w' base 90 3 v n (edgeCell y)/\w.grownBy w' v.ownBlock:=by
 obtain ⟨blk,off,cap,rfl,_,hb,_⟩:=h.form hn
 have eg:∀ args w,(callFunc 151 args).run Tryz.prog w=.ok (.enter 151 args) w:=enters_of Tryz.func151 (by kernel_rfl) rfl
 obtain ⟨d,hd⟩:∃ d:Array (Int × Int × Int),d=((List.range n).map x).toArray:=⟨_,rfl⟩
 have a:d.size=n:=by rw [hd]; simp
 have o:∀ i,i<n->d[i]! =x i:=fun i hi=>by
  rw [getElem!_pos d i (by omega)]
  simp [hd]
 have hO:Go.Sort.SWO (ltOf fun x y:Int × Int × Int=>lessV x.1 x.2.1 y.1 y.2.1):=by
  have hl:∀ x y:Int × Int × Int,ltOf (fun x y:Int × Int × Int=>lessV x.1 x.2.1 y.1 y.2.1) x y=decide (x.1<y.1∨x.1=y.1/\x.2.1<y.2.1):=fun x y=>by
   unfold ltOf
   exact decide_eq_decide.2 zbM
  exact ⟨fun x=>by rw [hl]; simp,fun x y z h1 h2=>by rw [hl] at *; simp at *; omega,fun x y z h1 h2=>by rw [hl] at *; simp at *; omega⟩
 have l:∀ (d:Array (Int × Int × Int)) (y:Nat->Int × Int × Int),d.size=n->(∀ i,i<n->d[i]! =y i)->∀ i,i<n->∀ j,j<3->(Go.Sort.flatK encE 3 d)[i*3+j]! =edgeCell y i j:=fun d y hs hy i hi j hj=>by
  rw [Go.Sort.get_flatK encE 3 d _ (by omega),show (i*3+j) / 3=i by omega,show (i*3+j) % 3=j by omega,hy i hi]
  match j,hj with
  | 0,_=>rfl
  | 1,_=>rfl
  | 2,_=>rfl
 have hH:Go.Sort.HoldsK encE 3 w blk off d:=zeD id (Go.Sort.flatK encE 3 d) h (by omega) hn (by simp [a]) (l d x a o)
 have hc:CmpLays Tryz.prog 151 #[] encE 3 (fun x y:Int × Int × Int=>lessV x.1 x.2.1 y.1 y.2.1) blk off d.size w:=fun m os dk _ x y =>
  (zg9 x.1 x.2.1 x.2.2 y.1 y.2.1 y.2.2 _).mono fun _ _ ⟨he,_,hg⟩=>⟨he,hg⟩
 have b:=AnyQ.slices_SortFunc Tryz.sortEdges 3 Tryz.isAgg90 Tryz.sizeOf90 encE (fun _=>rfl) (fun x v hv=>by simp [encE] at hv; rcases hv with rfl | rfl | rfl <;> rfl) (fun x y:Int × Int × Int=>lessV x.1 x.2.1 y.1 y.2.1) hO 151 #[] blk off cap d w eg hc hH hb (by rw [a]; omega)
 rw [a] at b
 refine Calls.mono (show Calls Tryz.prog 150 _ _ _ from b) ?_
 rintro e w' ⟨rfl,d',m,os,hp,c,rfl⟩
 have g:d'.size=n:=by have:=hp.1; omega
 have k:(List.range n).map (fun i=>d'[i]!)=d'.toList:=by
  apply List.ext_getElem (by simp [g])
  intro i h1 h2
  have hi:i<d'.size:=by simpa using h2
  simp [getElem!_pos d' i hi]
 refine ⟨rfl,fun i=>d'[i]!,?_,?_,?_,zbj id w m blk off _ os⟩
 ·rw [k]
  have:=zcA (d:=d) (d':=d') (by rw [a]; exact hp)
  rw [hd] at this
  exact this
 ·intro p q hpq hq hlt
  have h1:=c p q (by omega) hpq hq
  have h2:¬ ltE (d'[q]!) (d'[p]!):=by
   rw [<-zgM]
   simpa [ltOf] using h1
  exact h2 hlt
 ·exact zdL id (Go.Sort.flatK encE 3 d') m os h (by simp [g]) (l d' _ g fun _ _=>rfl)
end Go.Proofs.YtgekjfpapmlndaaGreat