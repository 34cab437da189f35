/- Merged texts of a claim. -/
import Derived.Test.YtgekjfpapmlndaaGreatTM14
import Derived.Test.YtgekjfpapmlndaaGreatTO1
import Derived.Test.YtgekjfpapmlndaaGreatTO2
namespace Go.Proofs.YtgekjfpapmlndaaGreat
set_option maxRecDepth 100000
set_option maxHeartbeats 32000000
open Go.RowKit Go.ChangeShapes Go.WideShapes Go.ChangeAt
theorem ybl (P M:Nat) (m:Nat->Nat) (A:Option Addr) (k c N:Nat) (T:Option Addr) (n d:Nat) (V:Nat->Nat->Nat) (i:Nat) (w:World) (h:CodeR w P M m A k N T n V) (hi:i<N) :
  Calls Tryz.prog 223 #[.agg #[.int .i64 (P:Nat),.int .i64 (M:Nat),.slice A k c,.int .i64 (N:Nat),.slice T n d],.int .i64 (i:Nat)] w (RowPost n (fun r=>.int .i64 (V r i:Nat)) w):=by
 have HC:=hid h
 have hN64:=h.ln2
 have hnN:=h.n_le
 clear h
 have rf:=zai (w:=w) (a:=.int .i64 (P:Nat)) (b:=.int .i64 (M:Nat)) (c:=.slice A k c) (d:=.int .i64 (N:Nat)) (e:=.slice T n d) (T := 27)
 have hB:Below w.heap.size w (w.alloc (.cells #[.int .i64 (P:Nat),.int .i64 (M:Nat),.slice A k c,.int .i64 (N:Nat),.slice T n d] 27)):=(Below.refl _ _).alloc (Nat.le_refl _) _
 obtain ⟨w1,hw1⟩:∃ W,W=w.alloc (.cells #[.int .i64 (P:Nat),.int .i64 (M:Nat),.slice A k c,.int .i64 (N:Nat),.slice T n d] 27):=⟨_,rfl⟩
 rw [<-hw1] at hB rf
 have hmk:=fun W=>zah (P:=Tryz.prog) 22 3 _ 8 Tryz.underlying22 Tryz.infoInt rfl (n:Int) (by omega) (by omega) (by omega) W
 simp only [Int.toNat_natCast] at hmk
 go_enter Tryz.func223, Tryz.ntmps223
 go_upto_region 1 with fail
 rw [<-hw1];clear hw1
 obtain ⟨b0,hb0⟩:∃ b,b=w.heap.size:=⟨_,rfl⟩
 rw [<-hb0] at rf;rw [<-hb0];clear hb0
 have q4:w1.cell? ⟨b0,4,none⟩=some (.slice T n d):=rf.cell (i:=4) (by omega)
 go_upto_region 2 with fail
 have rz:World.rowIs (World.alloc w1 (Obj.cells (madeCells #[Value.int .i64 0] n) 3)) w1.heap.size 3 n (fun _=>.int .i64 0):=World.rowIs_made _ (.int .i64 0) n 3
 have kb:Below w1.heap.size w1 (World.alloc w1 (Obj.cells (madeCells #[Value.int .i64 0] n) 3)):=(Below.refl _ _).alloc (Nat.le_refl _) _
 obtain ⟨w2,hw2⟩:∃ W,W=World.alloc w1 (Obj.cells (madeCells #[Value.int .i64 0] n) 3):=⟨_,rfl⟩
 rw [<-hw2] at rz kb ⊢
 obtain ⟨go,hgo⟩:∃ g,g=w1.heap.size:=⟨_,rfl⟩
 have hgoB:w.heap.size<=go:=by rw [hgo]; exact hB.size
 have HGO:=hid hgo
 rw [<-hgo] at rz ⊢
 have HB:=hid hB
 have K2:=hid kb
 replace q4:=cellS kb q4;clear kb hw2 hgo hmk hB rf
 go_upto_region 3 with fail
 clear q4
 go_loopg [15] n (fun gg iv wx=>∃ r:Nat,iv=.int .i64 (r:Nat)/\r<=n/\n<=r+gg/\Hid (wx.rowIs go 3 n (fun t=>.int .i64 ((if t<r then V t i else 0:Nat):Int)))/\Below w1.heap.size w1 wx)
 case atStart=>exact ⟨0,rfl,by omega,by omega,rz.congr fun t _=>by rw [if_neg (by omega)]; rfl,K2.out⟩
 case round =>
  clear rz K2
  obtain ⟨r,rfl,hr,hrg,HROW,hBx⟩:=hrel
  have hr0:(0:Int)<=(r:Int):=by omega
  have K2:=hid hBx
  obtain ⟨w3,hw3⟩:∃ X,X=wr:=⟨_,rfl⟩
  subst hw3
  clear hBx
  by_cases hrn:r<n
  ·have hrn':(r:Int)<(n:Int):=by omega
   have hi0:(0:Int)<=(i:Int):=by omega
   have hiN:(i:Int)<(N:Int):=by omega
   obtain ⟨pb,po,RA,rc,hTe,_,x0,hc1,hc2,hrow,hrng⟩:=(HC.out.on (onS HB.out K2.out)).rows r hrn
   subst hTe
   obtain ⟨ab,ao,hAe,_,y0⟩:=(show IntsR w3 w3.heap.size RA N (fun j=>((V r j:Nat):Int)) from hrow).at hi
   subst hAe
   obtain ⟨v,hv⟩:∃ x,x=V r i:=⟨_,rfl⟩
   rw [<-hv] at y0
   have u0:=HROW.out.cell (i:=r) hrn
   have u1:=HROW.out.frozen r
   have hrow2:=HROW.out.set r (.int .i64 (v:Nat))
   have kb:=K2.out.setCell (p:=⟨go,r,none⟩) (by rw [HGO.out]; exact Nat.le_refl _) (.int .i64 (v:Nat))
   obtain ⟨w4,hw4⟩:∃ W,W=w3.setCell ⟨go,r,none⟩ (.int .i64 (v:Nat)):=⟨_,rfl⟩
   rw [<-hw4] at hrow2 kb
   have HROW2:Hid (w4.rowIs go 3 n (fun t=>.int .i64 ((if t<r+1 then V t i else 0:Nat):Int))):=hid (hrow2.congr fun t _=>by
    by_cases et:t=r
    ·rw [if_pos et,if_pos (by omega),hv,et]
    ·have h1:(t<r)↔(t<r+1):=by omega
     rw [if_neg et]
     simp only [h1])
   have K4:=hid kb
   have HW4:=hid hw4
   clear hrow2 kb hw4 hv hrow hrng hc1 hc2
   go_wp2
   rw [<-HW4.out]
   go_roundg (gk - 1)
   case measure=>omega
   case rel=>exact ⟨r+1,by go_num,by omega,by omega,HROW2,K4.out⟩
  ·have hrn':¬ (r:Int)<(n:Int):=by omega
   obtain rfl:r=n:=by omega
   have HF:Hid (w3.rowIs go 3 r (fun t=>.int .i64 (V t i:Nat))):=hid (HROW.out.congr fun t ht=>by rw [if_pos ht])
   go_wp2
   go_ret
   exact ⟨go,rfl,hgoB,HF.out,onS HB.out K2.out⟩
theorem ybw (x:Int) (w:World):Calls Tryz.prog 252 #[.int .i64 x] w fun e w'=>e=.returned (.bool (x != 0))/\w=w':=by
 go_enter Tryz.func252, Tryz.ntmps252
 go_wp2
 go_ret
 exact ⟨rfl,rfl⟩
theorem ybm {p:Int->Bool} {f:Nat->Int}:∀ n i:Nat,idxP p f n=(i:Int)->∀ j,j<i->p (f j)=false
 | 0,i,h=>by
  have h:(-1:Int)=i:=h
  omega
 | n + 1, i, h => by
  have hd:idxP p f (n+1)=if 0<=idxP p f n then idxP p f n else if p (f n) then (n:Int) else -1:=rfl
  rw [hd] at h
  rcases ze3 p f n with ⟨h1,h2⟩ | ⟨j,_,h1,_⟩
  ·rw [h1,if_neg (by omega)] at h
   intro l hl
   cases hp:p (f n)
   ·rw [hp,if_neg (by simp)] at h; omega
   ·rw [hp,if_pos rfl] at h
    exact h2 l (by omega)
  ·rw [h1,if_pos (by omega)] at h
   exact ybm n i (h1.trans h)
theorem yaY {w:World} {b n base:Nat} {t:TypeId} {F:Nat->Value} (h:w.rowIs b t n F) (hb:base<=b) (hn:n<=maxLen):Own w base t 1 (.slice (some ⟨b,0,none⟩) n n) n (fun i _=>F i):=by
 obtain ⟨cs,h1,h2,h3⟩:=h
 refine .inr ⟨b,0,n,cs,rfl,hb,h1,Nat.le_refl _,hn,by omega,fun i hi j hj=>?_⟩
 obtain rfl:j=0:=by omega
 rw [Nat.zero_add,Nat.mul_one,Nat.add_zero]
 exact h3 i hi
def MTabQ (w:World) (base:Nat) (v:Value) (n k:Nat) (W:Nat->Nat->Nat) (Q:Nat->Prop):Prop :=
 ∃ R:Nat->Value,Own w base 22 1 v n (fun i _=>R i)/\∀ i,i<n->Own w base 3 1 (R i) k (fun j _=>.int .i64 (W i j:Nat))/\∀ b,(R i).ownBlock=some b->Q b
section
variable {w w':World} {base n k:Nat} {v z:Value} {W:Nat->Nat->Nat} {Q Q':Nat->Prop}
theorem MTabQ.tab (h:MTabQ w base v n k W Q):MTab w base v n k W:=by
 obtain ⟨R,h1,h2⟩:=h
 exact ⟨R,h1,fun i hi=>(h2 i hi).1⟩
theorem MTabQ.on (h:MTabQ w base v n k W Q) (hb:Below w.heap.size w w'):MTabQ w' base v n k W Q:=by
 obtain ⟨R,h1,h2⟩:=h
 exact ⟨R,h1.on hb,fun i hi=>⟨(h2 i hi).1.on hb,(h2 i hi).2⟩⟩
theorem MTabQ.congr {W':Nat->Nat->Nat} (h:MTabQ w base v n k W Q) (e:∀ i,i<n->∀ j,j<k->W i j=W' i j):MTabQ w base v n k W' Q:=by
 obtain ⟨R,h1,h2⟩:=h
 exact ⟨R,h1,fun i hi=>⟨(h2 i hi).1.congr fun j hj _ _=>by rw [e i hi j hj],(h2 i hi).2⟩⟩
theorem MTabQ.far {q i:Nat} {x:Value} (h:MTabQ w base v n k W Q) (hq:q<base):MTabQ (w.setCell ⟨q,i,none⟩ x) base v n k W Q:=by
 obtain ⟨R,h1,h2⟩:=h
 exact ⟨R,h1.setCell (fun e=>absurd (h1.lt _ e).1 (Nat.not_le_of_lt hq)) x,fun j hj=>⟨(h2 j hj).1.setCell (fun e=>absurd ((h2 j hj).1.lt _ e).1 (Nat.not_le_of_lt hq)) x,(h2 j hj).2⟩⟩
theorem MTabQ.shape (h:MTabQ w base v n k W Q):∃ A c,v=.slice A n c:=h.choose_spec.1.shape
theorem MTabQ.grown {m:Nat} {f:Nat->Nat->Value} (h:MTabQ w base v n k W Q) (hz:Own w base 3 1 z m f) (hg:w.grownBy w' z.ownBlock) (hq:∀ b,b<w.heap.size->Q b->some b≠z.ownBlock/\Q' b):MTabQ w' base v n k W Q':=by
 obtain ⟨R,h1,h2⟩:=h
 have hne:v.ownBlock=none∨v.ownBlock≠z.ownBlock:=za0 hz h1 (by decide)
 refine ⟨R,h1.kept hg hne,fun i hi=>⟨(h2 i hi).1.kept hg ?_,fun b e=>(hq b ((h2 i hi).1.lt b e).2 ((h2 i hi).2 b e)).2⟩⟩
 cases e:(R i).ownBlock with
 | none=>exact .inl rfl
 | some b=>exact .inr (hq b ((h2 i hi).1.lt b e).2 ((h2 i hi).2 b e)).1
theorem yan {ops:Array Oper} {o:Oper} {a:Act} {K:Act->World->Prop} {Qx:Exit->Act->World->Prop} {E:Prop} (hgd:o.guard=none) (sl x:Operand)
  (ho:o.op=.call { callee:=.builtin .append,args:=#[sl,x],argTypes:=#[25, 25] })
  (h:MTabQ w base v n k W Q) (hv:a.eval sl=v) {ad:Addr} {c:Nat} {r:Value} {y:Nat->Nat} (hx:a.eval x=.slice (some ad) 1 c)
  (hcell:w.cell? (ad.add 0)=some r) (h1:r.oneCell'=true) (hrow:Own w base 3 1 r k (fun j _=>.int .i64 (y j:Nat))) (hrz:∀ b,r.ownBlock=some b->Q b) (hbase:base<=w.heap.size) (hN:n<=1048576)
  (K':∀ v' w',MTabQ w' base v' (n+1) k (fun u=>if u=n then y else W u) Q->(∀ u mu fu,Own w base 3 1 u mu fu->Own w' base 3 1 u mu fu)->w.grownBy w' v.ownBlock->(∀ q,v.ownBlock=some q->base<=q)->K (a.put o.dst v') w') :
  if Region.wanted o (yielded ops a.tmps)=true then Oper.wp Tryz.prog o a w K Qx else E:=by
 obtain ⟨R,hA,hB⟩:=h
 obtain ⟨i0,qi0,qz0,qz1,qz2⟩:=info_parts Tryz.infoInts
 have hown:Own w base 22 1 v n (fun i _=>if i=n then r else R i):=hA.congr fun i hi _ _=>by rw [if_neg (by omega)]
 refine zbE w hgd sl x _ ho base 22 i0 _ 1 24 Tryz.underlying25 qi0 qz0 qz1 qz2 rfl (by omega) v n _ hv hown ad c hx (fun j hj=>by
   obtain rfl:j=0:=by omega
   rw [if_pos rfl]
   exact hcell) (fun _ _=>by rw [if_pos rfl]; exact h1) (by unfold maxLen; omega) (by omega) hbase ?_
 intro v' w3 hown3 hg3 _
 have ne:(22 : Nat) ≠ 3 := by decide
 refine K' v' w3 ⟨fun i=>if i=n then r else R i,hown3,fun i hi=>?_⟩ (fun u mu fu hu=>hu.kept hg3 (za0 hA hu ne)) hg3 (fun q e=>(hA.lt q e).1)
 show Own w3 base _ 1 (if i=n then r else R i) k _/\∀ b,(if i=n then r else R i).ownBlock=some b->Q b
 by_cases e:i=n
 ·rw [if_pos e]
  simp only [if_pos e]
  exact ⟨hrow.kept hg3 (za0 hA hrow ne),hrz⟩
 ·rw [if_neg e]
  simp only [if_neg e]
  exact ⟨(hB i (by omega)).1.kept hg3 (za0 hA (hB i (by omega)).1 ne),(hB i (by omega)).2⟩
end
def Bas (w:World) (bb gf k m:Nat) (B:Nat->Nat->Nat) (p:Nat->Nat) (z:Value) (mz:Nat) (fz:Nat->Nat->Value):Prop :=
 ∃ rv pvv,w.rowIs bb 247 3 (fldCell (.pointer (some ⟨gf,0,none⟩)) rv pvv)/\MTabQ w (bb+1) rv m k B (fun b=>some b≠pvv.ownBlock/\some b≠z.ownBlock)/\Own w (bb+1) 3 1 pvv m (fun j _=>.int .i64 (p j:Nat))/\Own w (bb+1) 3 1 z mz fz/\∀ b,z.ownBlock=some b->some b≠pvv.ownBlock
theorem Bas.on {w w':World} {bb gf k m:Nat} {B:Nat->Nat->Nat} {p:Nat->Nat} {z:Value} {mz:Nat} {fz:Nat->Nat->Value} (h:Bas w bb gf k m B p z mz fz) (hb:Below w.heap.size w w'):Bas w' bb gf k m B p z mz fz:=by
 obtain ⟨rv,pvv,h1,h2,h3,h4,h5⟩:=h
 exact ⟨rv,pvv,zab h1 hb,h2.on hb,h3.on hb,h4.on hb,h5⟩
theorem Bas.push {w w':World} {bb gf k m:Nat} {B:Nat->Nat->Nat} {p:Nat->Nat} {z z':Value} {mz mz':Nat} {fz fz':Nat->Nat->Value} (h:Bas w bb gf k m B p z mz fz) (hg:w.grownBy w' z.ownBlock) (ha:z'.ownBlock=z.ownBlock∨z'.ownBlock=some w.heap.size) (ho:Own w' (bb+1) 3 1 z' mz' fz'):Bas w' bb gf k m B p z' mz' fz':=by
 obtain ⟨rv,pvv,h1,h2,h3,h4,h5⟩:=h
 refine ⟨rv,pvv,h1.of_block (hg.block _ h1.lt fun e=>absurd (h4.lt _ e.symm).1 (Nat.not_le_of_lt (Nat.lt_succ_self bb))),h2.grown h4 hg fun b hb hq=>⟨hq.2,hq.1,fun e=>?_⟩,h3.kept hg ?_,ho,fun b e e2=>?_⟩
 ·rcases ha with ha | ha
  ·exact hq.2 (e.trans ha)
  ·rw [ha] at e; injection e with e; omega
 ·cases e:pvv.ownBlock with
  | none=>exact .inl rfl
  | some b=>exact .inr fun e2=>h5 b e2.symm e.symm
 ·rcases ha with ha | ha
  ·exact h5 b (ha.symm.trans e) e2
  ·rw [ha] at e; injection e with e
   have:=(h3.lt b e2.symm).2
   omega
def AddPost (q k m bb gf:Nat) (add mul:Nat->Nat->Nat) (neg:Nat->Nat) (B:Nat->Nat->Nat) (p v:Nat->Nat) (z:Value) (mz:Nat) (fz:Nat->Nat->Value) (w0:World) (e:Ending) (w':World):Prop :=
  Below w0.heap.size w0 w'/\bb<w'.heap.size /\
  ((e=.returned (.bool false)/\(∀ j,j<k->redN add mul neg B p v m j=0)/\Bas w' bb gf k m B p z mz fz) ∨
   (e=.returned (.bool true)/\∃ f i,f<k/\(∀ j,j<f->redN add mul neg B p v m j=0)/\i<q/\mul i (redN add mul neg B p v m f)=1 /\
     Bas w' bb gf k (m+1) (fun t=>if t=m then fun j=>mul i (redN add mul neg B p v m j) else B t) (fun t=>if t=m then f else p t) z mz fz))
theorem ybU (P M gf bb vb k m:Nat) (m':Nat->Nat) (B:Nat->Nat->Nat) (p v:Nat->Nat) (z:Value) (mz:Nat) (fz:Nat->Nat->Value) (w0 wv w:World) (hG:GF w0 w0.heap.size gf P M m') (hbb:w0.heap.size<=bb) (K0:Below w0.heap.size w0 wv) (hbas:Bas wv bb gf k m B p z mz fz) (hvb:wv.heap.size<=vb) (K1:Below wv.heap.size wv w)
  (hv:w.rowIs vb 3 k (fun j=>.int .i64 (v j:Nat))) (htri:Tri (P ^ M) k m B p) (hvq:∀ j,j<k->v j<P ^ M) (hk:k<=64) :
  Calls Tryz.prog 222 #[.pointer (some ⟨bb,0,none⟩),.slice (some ⟨vb,0,none⟩) k k] w (AddPost (P ^ M) k m bb gf (addF P M) (mulF P M m') (negF P M) B p v z mz fz w0):=by
 have hmk:=htri.le
 have hL:=fieldLaws hG.ok
 have hneg:∀ x,x<P ^ M->negF P M x<P ^ M/\addF P M x (negF P M x)=0:=fun x _=>⟨zbp (by have:=hG.ok.1.1; omega),za4 (by have:=hG.ok.1.1; omega)⟩
 have HL:=hid hL
 have HNG:=hid hneg
 have HG:=hid hG
 have HTR:=hid htri
 obtain ⟨rv,pvv,hrow,hMX,hO,hZ,hZA⟩:=hbas
 have hM:=hMX.tab
 obtain ⟨rA,rc,rfl⟩:=hM.shape
 obtain ⟨pA,pc,rfl⟩:=hO.shape
 have hbw:bb<wv.heap.size:=hrow.lt
 obtain ⟨R,hR1,hR2⟩:=id hM
 have HB0:Hid (∀ X,Below wv.heap.size wv X->X.cell? ⟨bb,0,none⟩=some (.pointer (some ⟨gf,0,none⟩))/\X.cell? ⟨bb,1,none⟩=some (.slice rA m rc)/\X.cell? ⟨bb,2,none⟩=some (.slice pA m pc)):=hid fun X hx=>⟨(zab hrow hx).cell (i:=0) (by omega),(zab hrow hx).cell (i:=1) (by omega),(zab hrow hx).cell (i:=2) (by omega)⟩
 have HROW:=hid hrow
 have HM:=hid hMX
 have HO:=hid hO
 have HZ:=hid hZ
 have HZA:=hid hZA
 have HR1:=hid hR1
 have HR2:=hid hR2
 have HRL:Hid (∀ t j,j<k->redN (addF P M) (mulF P M m') (negF P M) B p v t j<P ^ M):=hid fun t j hj=>zcd hL hvq t j hj
 have HK0:=hid K0
 have K2:=hid K1
 have HV0:Hid (w.rowIs vb 3 k (fun j=>.int .i64 (redN (addF P M) (mulF P M m') (negF P M) B p v 0 j:Nat))):=hid hv
 have hvb0:bb≠vb:=by omega
 have HVB:=hid hvb
 have HVN:=hid hvb0
 obtain ⟨rd,hrdd⟩:∃ r,r=redN (addF P M) (mulF P M m') (negF P M) B p v:=⟨_,rfl⟩
 have HRS:Hid (∀ t j,rd (t+1) j=if rd t (p t)=0 then rd t j else addF P M (rd t j) (negF P M (mulF P M m' (rd t (p t)) (B t j)))):=hid fun t j=>by rw [hrdd]; rfl
 have HRD:=hid hrdd
 rw [<-hrdd] at HRL HV0;clear hZ hZA hG K0 K1 hrow hM hMX hO hR1 hR2 hv htri hvq hL hneg hvb0 hrdd hvb
 go_enter Tryz.func222, Tryz.ntmps222
 obtain ⟨b0,b1,b2⟩:=HB0.out _ K2.out
 go_upto_region 2 with fail
 clear b0 b1 b2
 go_loopg [18] m (fun gg iv wx=>∃ t:Nat,iv=.int .i64 (t:Nat)/\t<=m/\m<=t+gg/\Hid (wx.rowIs vb 3 k (fun j=>.int .i64 (rd t j:Nat)))/\Below wv.heap.size wv wx)
 case atStart=>exact ⟨0,rfl,by omega,by omega,HV0,K2.out⟩
 case round =>
  clear HV0 K2
  obtain ⟨t,rfl,ht,htg,HV,hBx⟩:=hrel
  have ht0:(0:Int)<=(t:Int):=by omega
  have K2:=hid hBx
  obtain ⟨w3,hw3⟩:∃ X,X=wr:=⟨_,rfl⟩
  subst hw3
  clear hBx
  by_cases htm:t<m
  ·have htm':(t:Int)<(m:Int):=by omega
   obtain ⟨b0,b1,b2⟩:=HB0.out _ K2.out
   obtain ⟨rb,ro,hrA,_,hrc⟩:=(HR1.out.on K2.out).rd rfl t htm
   have c0:=hrc 0 (by omega)
   rw [Nat.mul_one,Nat.add_zero] at c0;replace c0:w3.cell? ⟨rb,ro+t,none⟩=some (R t):=c0
   subst hrA
   obtain ⟨yA,yc,hRt⟩:=(HR2.out t htm).shape
   have hyo:=HR2.out t htm
   rw [hRt] at c0 hyo
   have HYR:Hid (IntsR wv wv.heap.size yA k (fun j=>((B t j:Nat):Int))):=hid (hyo.rd rfl)
   obtain ⟨pb,po,hpA,_,p0⟩:=(show IntsR wv wv.heap.size pA m (fun j=>((p j:Nat):Int)) from HO.out.rd rfl).at htm
   subst hpA
   replace p0:=cellS K2.out p0
   have hpk:=HTR.out.plt t htm
   obtain ⟨pt,hpt⟩:∃ x,x=p t:=⟨_,rfl⟩
   rw [<-hpt] at p0 hpk
   have hp0:(0:Int)<=(pt:Int):=by omega
   have hpk':(pt:Int)<(k:Int):=by omega
   have v0:=HV.out.cell (i:=pt) hpk
   obtain ⟨xv,hxv⟩:∃ x,x=rd t pt:=⟨_,rfl⟩
   rw [<-hxv] at v0
   have hst:∀ j,rd (t+1) j=if xv=0 then rd t j else addF P M (rd t j) (negF P M (mulF P M m' xv (B t j))):=fun j=>by rw [hxv,hpt]; exact HRS.out t j
   have hxq:xv<P ^ M:=by rw [hxv]; exact HRL.out t pt hpk
   have HST:=hid hst
   clear hst hxv hpt hrc hyo hRt
   go_upto_region 5 with fail
   clear b0 b1 b2 c0 p0 v0
   by_cases hx0:xv=0
   ·have hz:((xv:Int) != 0)=false:=by simp [hx0]
    have HV2:Hid (w3.rowIs vb 3 k (fun j=>.int .i64 (rd (t+1) j:Nat))):=hid (HV.out.congr fun j _=>by rw [HST.out j,if_pos hx0])
    clear hx0
    go_wp2
    go_roundg (gk - 1)
    case measure=>omega
    case rel=>exact ⟨t+1,by go_num,by omega,by omega,HV2,K2.out⟩
   ·have hz:((xv:Int) != 0)=true:=by simp [hx0]
    have HS2:Hid (∀ j,rd (t+1) j=addF P M (rd t j) (negF P M (mulF P M m' xv (B t j)))):=hid fun j=>by rw [HST.out j,if_neg hx0]
    clear hx0
    obtain ⟨gO,hgO⟩:∃ x,x=gk:=⟨_,rfl⟩
    subst hgO
    go_upto_region 7 with fail
    clear hz
    have HV1:Hid (w3.rowIs vb 3 k (fun j=>.int .i64 ((if j<0 then rd (t+1) j else rd t j:Nat):Int))):=hid (HV.out.congr fun j _=>by rw [if_neg (by omega)])
    go_loopg [37] k (fun gg iv wx=>∃ jj:Nat,iv=.int .i64 (jj:Nat)/\jj<=k/\k<=jj+gg/\Hid (wx.rowIs vb 3 k (fun j=>.int .i64 ((if j<jj then rd (t+1) j else rd t j:Nat):Int)))/\Below wv.heap.size wv wx)
    case atStart=>exact ⟨0,rfl,by omega,by omega,HV1,K2.out⟩
    case round =>
     clear HV1 HV K2
     obtain ⟨jj,rfl,hj,hjg,HV,hBx⟩:=hrel
     have hj0:(0:Int)<=(jj:Int):=by omega
     have K2:=hid hBx
     obtain ⟨w4,hw4⟩:∃ X,X=wr:=⟨_,rfl⟩
     subst hw4
     clear hBx
     by_cases hjk:jj<k
     ·have hjk':(jj:Int)<(k:Int):=by omega
      obtain ⟨yb,yo,hyA,_,y0⟩:=(HYR.out.on K2.out).at hjk
      subst hyA
      obtain ⟨yv,hyv⟩:∃ x,x=B t jj:=⟨_,rfl⟩
      obtain ⟨rvv,hrv⟩:∃ x,x=rd t jj:=⟨_,rfl⟩
      have hyq:yv<P ^ M:=by rw [hyv]; exact HTR.out.lt t htm jj hjk
      have hrq:rvv<P ^ M:=by rw [hrv]; exact HRL.out t jj hjk
      have hzz:=HS2.out jj
      rw [<-hyv] at y0 hzz;rw [<-hrv] at hzz
      obtain ⟨mv,hmv⟩:∃ x,x=mulF P M m' xv yv:=⟨_,rfl⟩
      have hmq:mv<P ^ M:=by rw [hmv]; exact HL.out.mulLt _ _
      rw [<-hmv] at hzz
      obtain ⟨zv,hzv⟩:∃ x,x=addF P M rvv (negF P M mv):=⟨_,rfl⟩
      rw [<-hzv] at hzz
      have HIX:=hid (zak hxq)
      have HIY:=hid (zak hyq)
      have HIR:=hid (zak hrq)
      have HIM:=hid (zak hmq)
      have HMV:=hid hmv
      have HZV:=hid hzv
      have HZ1:=hid hzz
      have x0:=HV.out.cell (i:=jj) hjk
      rw [if_neg (Nat.lt_irrefl _),<-hrv] at x0
      have HX1:Hid (∀ X,Below w4.heap.size w4 X->X.cell? ⟨vb,jj,none⟩=some (.int .i64 (rvv:Nat))/\X.frozen? ⟨vb,jj,none⟩=false):=hid fun X hx=>⟨cellS hx x0,(zab HV.out hx).frozen jj⟩
      have HS:Hid (∀ X,Below w4.heap.size w4 X->X.cell? ⟨bb,0,none⟩=some (.pointer (some ⟨gf,0,none⟩))):=hid fun X hx=>(HB0.out X (onS K2.out hx)).1
      clear hyv hrv hmv hzv hzz hyq hrq hmq x0
      go_upto_region 9 with fail
      clear y0
      refine wp_region_held_drew (S:=fun X=>X.cell? ⟨bb,0,none⟩=some (.pointer (some ⟨gf,0,none⟩))) (by kernel_rfl) (HS.out _ (Below.refl _ _).drew) (fun hHeld=>?_)
      obtain ⟨w5,hw⟩:∃ W,W=World.drew w4:=⟨_,rfl⟩
      have kb:Below w4.heap.size w4 w5:=by rw [hw]; exact (Below.refl _ _).drew
      rw [<-hw] at hHeld ⊢;clear hw
      have K8:=hid kb
      clear kb
      have HGX:Hid (∀ X,Below w4.heap.size w4 X->GF X X.heap.size gf P M m'):=hid fun X hx=>by
       have h1:=onS HK0.out (onS K2.out hx)
       exact HG.out.at h1 h1.size
      refine tkq 0 (h:=tkq 1 (h:=tkq 2 (h:=tkq 3 (h:=tkq 4 (h:=tkq 5 (h:=tkq 6 (h:=tkq 7 (h:=tkq 8 (h:=tkq 10 (h:=tkq 11 (h:=tkq 12 (h:=tkq 13 (h:=tkq 14 (h:=tkq 15 (h:=?_)))))))))))))))
      clear hHeld
      refine rdq2 9 16 (h:=fun K hK=>?_) (h2:=fun K hK=>?_)
      focus
       obtain ⟨u0,_⟩:=HX1.out _ K8.out
       go_simp
       clear u0
       refine bkq hK (HS.out _ K8.out) (h:=fun hHeld=>?_)
       clear hK K hHeld
       refine rdq 16 (h:=fun K hK=>?_)
       go_simp
       go_wp2_with fail
       refine (zaM (xv:Int) (yv:Int) (HGX.out _ K8.out)).mono ?_
       rintro e w6 ⟨rfl,kb⟩
       rw [HIX.out,HIY.out,<-HMV.out]
       have K9:=hid (onS K8.out kb)
       clear kb
       refine bkq hK (HS.out _ K9.out) (h:=fun hHeld=>?_)
       clear hK K hHeld K8
      rotate_left
      focus
       go_simp
       go_wp2_with fail
       refine (zaM (xv:Int) (yv:Int) (HGX.out _ K8.out)).mono ?_
       rintro e w6 ⟨rfl,kb⟩
       rw [HIX.out,HIY.out,<-HMV.out]
       have K9:=hid (onS K8.out kb)
       clear kb
       refine bkq hK (HS.out _ K9.out) (h:=fun hHeld=>?_)
       clear hK K hHeld
       refine rdq 9 (h:=fun K hK=>?_)
       obtain ⟨u0,_⟩:=HX1.out _ K9.out
       go_simp
       clear u0
       refine bkq hK (HS.out _ K9.out) (h:=fun hHeld=>?_)
       clear hK K hHeld K8
      all_goals
       refine rdq 17 (h:=fun K hK=>?_)
       go_simp
       go_wp2_with fail
       refine (zeO (rvv:Int) (mv:Int) (HGX.out _ K9.out)).mono ?_
       rintro e w7 ⟨rfl,kb⟩
       rw [HIR.out,HIM.out,<-HZV.out]
       have K10:=hid (onS K9.out kb)
       clear kb K9
       refine bkq hK (HS.out _ K10.out) (h:=fun hHeld=>?_)
       clear hK K
       refine tkq 18 (h:=?_)
       clear hHeld
       refine rdq 19 (h:=fun K hK=>?_)
       obtain ⟨u0,zf⟩:=HX1.out _ K10.out
       go_simp
       clear u0 zf
       have hrow2:=(zab HV.out K10.out).set jj (.int .i64 (zv:Nat))
       have kb:=(onS K2.out K10.out).setCell (p:=⟨vb,jj,none⟩) HVB.out (.int .i64 (zv:Nat))
       have a0:=zaa (p:=⟨vb,jj,none⟩) (u:=.int .i64 (zv:Nat)) (HS.out _ K10.out) HVN.out
       obtain ⟨w8,hw⟩:∃ W,W=w7.setCell ⟨vb,jj,none⟩ (.int .i64 (zv:Nat)):=⟨_,rfl⟩
       rw [<-hw] at hrow2 kb a0 ⊢
       have HV2:Hid (w8.rowIs vb 3 k (fun j=>.int .i64 ((if j<jj+1 then rd (t+1) j else rd t j:Nat):Int))):=hid (hrow2.congr fun j _=>by
        by_cases ej:j=jj
        ·rw [if_pos ej,ej,if_pos (Nat.lt_succ_self _),HZ1.out]
        ·have h1:(j<jj)↔(j<jj+1):=by omega
         rw [if_neg ej]
         simp only [h1])
       have K14:=hid kb
       clear hrow2 kb hw
       refine bkq hK a0 (h:=fun hHeld=>?_)
       clear hK K a0
       refine wpAnyH_done (by kernel_rfl) ?_ _
       clear hHeld
       go_wp2
       go_roundg (gk - 1)
       case measure=>omega
       case rel=>exact ⟨jj+1,by go_num,by omega,by omega,HV2,K14.out⟩
     ·have hjk':¬ (jj:Int)<(k:Int):=by omega
      obtain rfl:jj=k:=by omega
      have HV2:Hid (w4.rowIs vb 3 jj (fun j=>.int .i64 (rd (t+1) j:Nat))):=hid (HV.out.congr fun j hj=>by rw [if_pos hj])
      go_wp2
      go_roundg (gO - 1)
      case measure=>omega
      case rel=>exact ⟨t+1,by go_num,by omega,by omega,HV2,K2.out⟩
  ·have htm':¬ (t:Int)<(m:Int):=by omega
   obtain rfl:t=m:=by omega
   have HVI:Hid (IntsR w3 w3.heap.size (some ⟨vb,0,none⟩) k (fun j=>((rd t j:Nat):Int))):=hid (zaH HV.out)
   go_wp2_with fail
   refine (zdz 252 (fun x=>x != 0) (fun _ _=>by kernel_rfl) ybw (some ⟨vb,0,none⟩) k k (fun j=>((rd t j:Nat):Int)) w3 HVI.out (by omega)).mono ?_
   rintro e w4 ⟨rfl,rfl⟩
   obtain ⟨zi,hz⟩:∃ z,z=idxP (fun x=>x != 0) (fun j=>((rd t j:Nat):Int)) k:=⟨_,rfl⟩
   have hs:=ze3 (fun x=>x != 0) (fun j=>((rd t j:Nat):Int)) k
   have hl:=ybm (p:=fun x=>x != 0) (f:=fun j=>((rd t j:Nat):Int)) k
   rw [<-hz] at hs hl ⊢;clear hz
   rcases hs with ⟨hz1,hz2⟩ | ⟨f,hf,hz1,hz2⟩
   ·have hzn:zi<0:=by omega
    have HFALL:Hid (∀ j,j<k->rd t j=0):=hid fun j hj=>by
     have h1:=hz2 j hj
     have h2:((rd t j:Nat):Int)=0:=by simpa using h1
     omega
    clear hl hz2 hz1
    go_wp2
    go_ret
    refine ⟨onS HK0.out K2.out,Nat.lt_of_lt_of_le hbw K2.out.size,.inl ⟨rfl,?_,⟨_,_,zab HROW.out K2.out,HM.out.on K2.out,HO.out.on K2.out,HZ.out.on K2.out,HZA.out⟩⟩⟩
    rw [<-HRD.out]
    exact HFALL.out
   ·subst hz1
    have hzn:¬ ((f:Nat):Int)<0:=by omega
    have hf0:(0:Int)<=((f:Nat):Int):=by omega
    have hfk:((f:Nat):Int)<(k:Int):=by omega
    have HLOW:Hid (∀ j,j<f->rd t j=0):=hid fun j hj=>by
     have h1:=hl f rfl j hj
     have h2:((rd t j:Nat):Int)=0:=by simpa using h1
     omega
    obtain ⟨xv,hxv⟩:∃ x,x=rd t f:=⟨_,rfl⟩
    have hx0:xv≠0:=by
     intro e
     rw [<-hxv,e] at hz2
     exact absurd hz2 (by decide)
    have hxq:xv<P ^ M:=by rw [hxv]; exact HRL.out t f hf
    have HIX:=hid (zak hxq)
    have HX0:=hid hx0
    have v0:=HV.out.cell (i:=f) hf
    rw [<-hxv] at v0
    have HXV:=hid hxv
    have HXQ:=hid hxq
    have HS:Hid (∀ X,Below w3.heap.size w3 X->X.cell? ⟨bb,0,none⟩=some (.pointer (some ⟨gf,0,none⟩))/\X.cell? ⟨vb,f,none⟩=some (.int .i64 (xv:Nat))):=hid fun X hx=>⟨(HB0.out X (onS K2.out hx)).1,cellS hx v0⟩
    have HGX:Hid (∀ X,Below w3.heap.size w3 X->GF X X.heap.size gf P M m'):=hid fun X hx=>by
     have h1:=onS HK0.out (onS K2.out hx)
     exact HG.out.at h1 h1.size
    clear hl hz2 hxv hx0 hxq v0
    go_upto_region 15 with fail
    refine wp_region_held_drew (S:=fun X=>X.cell? ⟨bb,0,none⟩=some (.pointer (some ⟨gf,0,none⟩))/\X.cell? ⟨vb,f,none⟩=some (.int .i64 (xv:Nat))) (by kernel_rfl) (HS.out _ (Below.refl _ _).drew) (fun hHeld=>?_)
    obtain ⟨w5,hw⟩:∃ W,W=World.drew w3:=⟨_,rfl⟩
    have kb:Below w3.heap.size w3 w5:=by rw [hw]; exact (Below.refl _ _).drew
    rw [<-hw] at hHeld ⊢;clear hw
    have K8:=hid kb
    clear kb
    refine tkq 0 (h:=tkq 1 (h:=tkq 2 (h:=tkq 3 (h:=tkq 4 (h:=tkq 5 (h:=tkq 6 (h:=tkq 7 (h:=?_))))))))
    clear hHeld
    refine rdq 8 (h:=fun K hK=>?_)
    go_simp
    go_wp2_with fail
    refine (zcq (xv:Int) (HGX.out _ K8.out)).mono ?_
    rintro e w6 ⟨kb,(⟨h0,_⟩ | ⟨h0,iv,rfl,hiq,hi0,h1⟩)⟩
    ·exact absurd (HIX.out.symm.trans h0) HX0.out
    rw [HIX.out] at h1
    have HMI:=hid h1
    have HIQ:=hid hiq
    have K9:=hid (onS K8.out kb)
    clear kb h0 h1 hi0 hiq
    refine bkq hK (HS.out _ K9.out) (h:=fun hHeld=>?_)
    clear hK K
    refine tkq 9 (h:=tkq 10 (h:=tkq 11 (h:=tkq 12 (h:=tkq 13 (h:=?_)))))
    refine wpAnyH_done (by kernel_rfl) ?_ _
    clear hHeld K8
    have HS1:Hid (∀ X,Below w6.heap.size w6 X->X.cell? ⟨bb,0,none⟩=some (.pointer (some ⟨gf,0,none⟩))/\X.cell? ⟨bb,1,none⟩=some (.slice rA t rc)):=hid fun X hx=>⟨(HB0.out X (onS K2.out (onS K9.out hx))).1,(HB0.out X (onS K2.out (onS K9.out hx))).2.1⟩
    have HVR:Hid (∀ X,Below w6.heap.size w6 X->IntsR X X.heap.size (some ⟨vb,0,none⟩) k (fun j=>((rd t j:Nat):Int))):=hid fun X hx=>zaH (zab HV.out (onS K9.out hx))
    have HW6:Hid (Below wv.heap.size wv w6):=hid (onS K2.out K9.out)
    have HGY:Hid (∀ X,Below w6.heap.size w6 X->GF X X.heap.size gf P M m'):=hid fun X hx=>HGX.out X (onS K9.out hx)
    clear K2 K9
    go_upto_region 16 with fail
    refine wp_region_held_drew (S:=fun X=>X.cell? ⟨bb,0,none⟩=some (.pointer (some ⟨gf,0,none⟩))) (by kernel_rfl) (HS1.out _ (Below.refl _ _).drew).1 (fun hHeld=>?_)
    obtain ⟨w7,hw⟩:∃ W,W=World.drew w6:=⟨_,rfl⟩
    have kb:Below w6.heap.size w6 w7:=by rw [hw]; exact (Below.refl _ _).drew
    rw [<-hw] at hHeld ⊢;clear hw
    have K8:=hid kb
    clear kb
    refine tkq 0 (h:=tkq 1 (h:=tkq 2 (h:=tkq 3 (h:=tkq 5 (h:=tkq 6 (h:=tkq 7 (h:=tkq 8 (h:=tkq 9 (h:=tkq 10 (h:=?_))))))))))
    clear hHeld
    refine rdq2 4 11 (h:=fun K hK=>?_) (h2:=fun K hK=>?_)
    focus
     obtain ⟨_,u0⟩:=HS1.out _ K8.out
     go_simp
     clear u0
     refine bkq hK (HS1.out _ K8.out).1 (h:=fun hHeld=>?_)
     clear hK K hHeld
     refine rdq 11 (h:=fun K hK=>?_)
     go_simp
     go_wp2_with fail
     refine (zb6 iv k (some ⟨vb,0,none⟩) k (rd t) (HGY.out _ K8.out) HIQ.out (HVR.out _ K8.out) (fun j hj=>HRL.out t j hj) (by omega)).mono ?_
     rintro e w8 ⟨sb,rfl,hsb,hsr,kb⟩
     have HSBR:=hid hsr
     have HSBB:=hid (Nat.le_trans K8.out.size hsb)
     have K9:=hid (onS K8.out kb)
     clear kb hsb hsr
     refine bkq hK (HS1.out _ K9.out).1 (h:=fun hHeld=>?_)
     clear hK K hHeld K8
     refine rdq 12 (h:=fun K hK=>?_)
     go_simp
     obtain ⟨w9,hw⟩:∃ W,W=World.alloc w8 (Obj.cells #[.slice (some ⟨sb,0,none⟩) k k] 22):=⟨_,rfl⟩
     have kb:Below w8.heap.size w8 w9:=by rw [hw]; exact (Below.refl _ _).alloc (Nat.le_refl _) _
     have HC9:Hid (w9.cell? ((⟨w8.heap.size,0,none⟩:Addr).add 0)=some (.slice (some ⟨sb,0,none⟩) k k)):=by rw [hw]; exact tbox2
     rw [<-hw];clear hw
     have HSR9:=hid (zab HSBR.out kb)
     have K10:=hid (onS K9.out kb)
     clear kb
     refine bkq hK (HS1.out _ K10.out).1 (h:=fun hHeld=>?_)
     clear hK K hHeld K9 HSBR
    rotate_left
    focus
     go_simp
     go_wp2_with fail
     refine (zb6 iv k (some ⟨vb,0,none⟩) k (rd t) (HGY.out _ K8.out) HIQ.out (HVR.out _ K8.out) (fun j hj=>HRL.out t j hj) (by omega)).mono ?_
     rintro e w8 ⟨sb,rfl,hsb,hsr,kb⟩
     have HSBR:=hid hsr
     have HSBB:=hid (Nat.le_trans K8.out.size hsb)
     have K9:=hid (onS K8.out kb)
     clear kb hsb hsr
     refine bkq hK (HS1.out _ K9.out).1 (h:=fun hHeld=>?_)
     clear hK K hHeld
     refine rdq2 4 12 (h:=fun K hK=>?_) (h2:=fun K hK=>?_)
     focus
      obtain ⟨_,u0⟩:=HS1.out _ K9.out
      go_simp
      clear u0
      refine bkq hK (HS1.out _ K9.out).1 (h:=fun hHeld=>?_)
      clear hK K hHeld K8
      refine rdq 12 (h:=fun K hK=>?_)
      go_simp
      obtain ⟨w9,hw⟩:∃ W,W=World.alloc w8 (Obj.cells #[.slice (some ⟨sb,0,none⟩) k k] 22):=⟨_,rfl⟩
      have kb:Below w8.heap.size w8 w9:=by rw [hw]; exact (Below.refl _ _).alloc (Nat.le_refl _) _
      have HC9:Hid (w9.cell? ((⟨w8.heap.size,0,none⟩:Addr).add 0)=some (.slice (some ⟨sb,0,none⟩) k k)):=by rw [hw]; exact tbox2
      rw [<-hw];clear hw
      have HSR9:=hid (zab HSBR.out kb)
      have K10:=hid (onS K9.out kb)
      clear kb
      refine bkq hK (HS1.out _ K10.out).1 (h:=fun hHeld=>?_)
      clear hK K hHeld K9 HSBR
     rotate_left
     focus
      go_simp
      obtain ⟨w9,hw⟩:∃ W,W=World.alloc w8 (Obj.cells #[.slice (some ⟨sb,0,none⟩) k k] 22):=⟨_,rfl⟩
      have kb:Below w8.heap.size w8 w9:=by rw [hw]; exact (Below.refl _ _).alloc (Nat.le_refl _) _
      have HC9:Hid (w9.cell? ((⟨w8.heap.size,0,none⟩:Addr).add 0)=some (.slice (some ⟨sb,0,none⟩) k k)):=by rw [hw]; exact tbox2
      rw [<-hw];clear hw
      have HSR9:=hid (zab HSBR.out kb)
      have K10:=hid (onS K9.out kb)
      clear kb
      refine bkq hK (HS1.out _ K10.out).1 (h:=fun hHeld=>?_)
      clear hK K hHeld K9 HSBR
      refine rdq 4 (h:=fun K hK=>?_)
      obtain ⟨_,u0⟩:=HS1.out _ K10.out
      go_simp
      clear u0
      refine bkq hK (HS1.out _ K10.out).1 (h:=fun hHeld=>?_)
      clear hK K hHeld
    all_goals
     have HV10:=hid (onS HW6.out K10.out)
     have HM9:=hid (HM.out.on HV10.out)
     have HO9:=hid (HO.out.on HV10.out)
     have HRW9:=hid (zab HROW.out HV10.out)
     have hbs:bb+1<=sb:=Nat.le_trans hbw (Nat.le_trans HW6.out.size HSBB.out)
     have HSO:=hid (yaY (base:=bb+1) HSR9.out hbs (Nat.le_trans hk (by decide)))
     have HZ9:=hid (HZ.out.on HV10.out)
     have HRZ:Hid (∀ b,(Value.slice (some ⟨sb,0,none⟩) k k).ownBlock=some b->some b≠(Value.slice pA t pc).ownBlock/\some b≠z.ownBlock):=hid fun b e=>by
      have e:some sb=some b:=e
      injection e with e
      subst e
      exact ⟨fun e=>absurd (HO.out.lt sb e.symm).2 (Nat.not_lt_of_le (Nat.le_trans HW6.out.size HSBB.out)),fun e=>absurd (HZ.out.lt sb e.symm).2 (Nat.not_lt_of_le (Nat.le_trans HW6.out.size HSBB.out))⟩
     have HBS:Hid (bb+1<=w9.heap.size):=hid HRW9.out.lt
     refine rdq 13 (h:=fun K hK=>?_)
     refine yan rfl (.tmp 83) (.tmp 91) rfl HM9.out rfl (ad:=⟨w8.heap.size,0,none⟩) (c:=1) rfl HC9.out rfl HSO.out HRZ.out HBS.out (by omega) ?_
     intro v10 w10 o1 o0 o2 o3
     obtain ⟨ZA,zc,hv10⟩:=o1.shape
     subst hv10
     have HM10:=hid o1
     have HO10:=hid (o0 _ _ _ HO9.out)
     have HZ10:=hid (o0 _ _ _ HZ9.out)
     have K11:=hid ((onS HK0.out HV10.out).grown o2 (Nat.le_trans hbb (Nat.le_of_lt HBS.out)) (fun q e=>by have:=o3 q e; omega))
     have HRW10:=hid (HRW9.out.of_block (o2.block _ HRW9.out.lt fun e=>by have:=o3 _ e.symm; omega))
     have b10:=HRW10.out.cell (i:=0) (by omega)
     refine bkq hK b10 (h:=fun hHeld=>?_)
     clear hK K o1 o0 o2 o3 b10
     refine tkq 14 (h:=tkq 15 (h:=?_))
     clear hHeld
     refine rdq 16 (h:=fun K hK=>?_)
     have z1:=HRW10.out.cell (i:=1) (by omega)
     have z2:=HRW10.out.frozen 1
     go_simp
     clear z1 z2
     have hrw:=HRW10.out.set 1 (.slice ZA (t+1) zc)
     have HRW11:=hid hrw
     have HM11:=hid (HM10.out.far (i:=1) (x:=.slice ZA (t+1) zc) (Nat.lt_succ_self bb))
     have HO11:=hid (HO10.out.setCell (a:=⟨bb,1,none⟩) (fun e=>absurd (HO10.out.lt _ e).1 (Nat.not_le_of_lt (Nat.lt_succ_self bb))) (.slice ZA (t+1) zc))
     have HZ11:=hid (HZ10.out.setCell (a:=⟨bb,1,none⟩) (fun e=>absurd (HZ10.out.lt _ e).1 (Nat.not_le_of_lt (Nat.lt_succ_self bb))) (.slice ZA (t+1) zc))
     have K12:=hid (K11.out.setCell (p:=⟨bb,1,none⟩) hbb (.slice ZA (t+1) zc))
     clear hrw
     obtain ⟨w11,hw⟩:∃ W,W=w10.setCell ⟨bb,1,none⟩ (.slice ZA (t+1) zc):=⟨_,rfl⟩
     rw [<-hw] at HRW11 HM11 HO11 HZ11 K12 ⊢;clear hw
     have b11:=HRW11.out.cell (i:=0) (by omega)
     refine bkq hK b11 (h:=fun hHeld=>?_)
     clear hK K b11
     refine wpAnyH_done (by kernel_rfl) ?_ _
     clear hHeld HRW10 HM10 HO10 HZ10 HZ9 K11 HRW9 HM9 HO9 HSO HRZ HBS HSR9 HC9 HV10 K10 HSBB HVR
     have q2:=HRW11.out.cell (i:=2) (by omega)
     go_upto_region 17 with fail
     have kb:=(Below.refl w11.heap.size w11).alloc (Nat.le_refl _) (Obj.cells #[Value.int .i64 ((f:Nat):Int)] 3)
     have HM12:=hid (HM11.out.on kb)
     have HO12:=hid (HO11.out.on kb)
     have HZ12':=hid (HZ11.out.on kb)
     have HRW12:=hid (zab HRW11.out kb)
     have K13:=hid (onS K12.out kb)
     have HC12:Hid ((w11.alloc (Obj.cells #[Value.int .i64 ((f:Nat):Int)] 3)).cell? ((⟨w11.heap.size,0,none⟩:Addr).add 0)=some (.int .i64 ((f:Nat):Int))):=hid tbox2
     have HZ12:Hid (bb+1<=(w11.alloc (Obj.cells #[Value.int .i64 ((f:Nat):Int)] 3)).heap.size):=hid HRW12.out.lt
     have HTL:Hid (t<=1048576):=hid (by omega)
     clear kb
     go_wp2_with (first | (at_builtin; (refine zap rfl (.tmp 99) (.tmp 101) rfl HO12.out rfl (ad:=⟨w11.heap.size,0,none⟩) (c:=1) rfl HC12.out HZ12.out HTL.out ?_); intro v9 w9 o1 o2 o3; obtain ⟨YA,yc,hv9⟩:=o1.shape; subst hv9; have HRW13:=hid (HRW12.out.of_block (o2.block _ HRW12.out.lt fun e=>absurd (HO12.out.lt _ e.symm).1 (Nat.not_le_of_lt (Nat.lt_succ_self bb)))); have z1:=HRW13.out.cell (i:=2) (by omega); have z2:=HRW13.out.frozen 2))
     have HA13:Hid (∀ b,b<(w11.alloc (Obj.cells #[Value.int .i64 ((f:Nat):Int)] 3)).heap.size->some b≠(Value.slice pA t pc).ownBlock->some b≠(Value.slice YA (t+1) yc).ownBlock):=hid fun b hb e e2=>by
      rcases o3 with o3 | o3
      ·exact e (e2.trans o3)
      ·rw [o3] at e2; injection e2 with e2; omega
     have HM13:=hid (HM12.out.grown (Q':=fun b=>some b≠(Value.slice YA (t+1) yc).ownBlock/\some b≠z.ownBlock) HO12.out o2 fun b hb hq=>⟨hq.1,HA13.out b hb hq.1,hq.2⟩)
     have HZ13:=hid (HZ12'.out.kept o2 (by
      cases e:z.ownBlock with
      | none=>exact .inl rfl
      | some b=>exact .inr (HZA.out b e)))
     have HZB:Hid (∀ b,z.ownBlock=some b->some b≠(Value.slice YA (t+1) yc).ownBlock):=hid fun b e=>HA13.out b (HZ12'.out.lt b e).2 (HZA.out b e)
     have HO13:=hid o1
     have K14:=hid (K13.out.grown o2 (Nat.le_trans hbb (Nat.le_of_lt HZ12.out)) fun q e=>Nat.le_trans (Nat.le_trans hbb (Nat.le_succ _)) (HO12.out.lt q e).1)
     have hrw:=HRW13.out.set 2 (.slice YA (t+1) yc)
     have HRW14:=hid hrw
     have HM14:=hid (HM13.out.far (i:=2) (x:=.slice YA (t+1) yc) (Nat.lt_succ_self bb))
     have HO14:=hid (HO13.out.setCell (a:=⟨bb,2,none⟩) (fun e=>absurd (HO13.out.lt _ e).1 (Nat.not_le_of_lt (Nat.lt_succ_self bb))) (.slice YA (t+1) yc))
     have HZ14:=hid (HZ13.out.setCell (a:=⟨bb,2,none⟩) (fun e=>absurd (HZ13.out.lt _ e).1 (Nat.not_le_of_lt (Nat.lt_succ_self bb))) (.slice YA (t+1) yc))
     have K15:=hid (K14.out.setCell (p:=⟨bb,2,none⟩) hbb (.slice YA (t+1) yc))
     clear hrw o1 o2 o3 z1 z2 K14 HM13 HO13 HZ13 HZ12' HRW13 K13 HM12 HO12 HRW12
     go_ret
     refine ⟨K15.out,HRW14.out.lt,.inr ⟨rfl,f,iv,hf,?_,HIQ.out,?_,⟨_,_,HRW14.out.congr ?_,HM14.out.congr ?_,HO14.out.congr ?_,HZ14.out,HZB.out⟩⟩⟩
     ·rw [<-HRD.out]; exact HLOW.out
     ·rw [<-HRD.out,<-HXV.out]; exact (HL.out.mulComm _ _ HIQ.out HXQ.out).trans HMI.out
     ·intro i hi
      match i,hi with
      | 0,_=>rfl
      | 1,_=>rfl
      | 2,_=>rfl
     ·intro u hu j hj
      rw [<-HRD.out]
     ·intro i hi j hj
      rfl
theorem Bas.side {w:World} {bb gf k m:Nat} {B:Nat->Nat->Nat} {p:Nat->Nat} {z:Value} {mz:Nat} {fz:Nat->Nat->Value} (h:Bas w bb gf k m B p z mz fz):Own w (bb+1) 3 1 z mz fz:=by
 obtain ⟨_,_,_,_,_,h4,_⟩:=h
 exact h4
theorem Bas.lt {w:World} {bb gf k m:Nat} {B:Nat->Nat->Nat} {p:Nat->Nat} {z:Value} {mz:Nat} {fz:Nat->Nat->Value} (h:Bas w bb gf k m B p z mz fz):bb<w.heap.size:=by
 obtain ⟨_,_,h1,_⟩:=h
 exact h1.lt
def OrthU (add mul:Nat->Nat->Nat) (V:Nat->Nat->Nat) (fc:Nat->Nat) (n r:Nat) (c:Nat->Nat):Prop:=∀ t,t<r->dotN add mul c (fun j=>V j (fc t)) n=0
def GreedyPost (q n a:Nat) (add mul:Nat->Nat->Nat) (V:Nat->Nat->Nat) (fc:Nat->Nat) (w:World) (e:Ending) (w':World):Prop :=
 ∃ mm B p A c,e=.returned (.slice A mm c)/\Tri q n mm B p/\(∀ c,(∀ j,j<n->c j<q)->(OrthU add mul V fc n a c↔KerB add mul n mm B c))/\Below w.heap.size w w'
theorem yaG (P M:Nat) (m:Nat->Nat) (A:Option Addr) (k c N:Nat) (T:Option Addr) (n d:Nat) (V:Nat->Nat->Nat) (gf:Nat) (F:Option Addr) (a fd:Nat) (fc:Nat->Nat) (w:World) (h:CodeR w P M m A k N T n V) (hG:GF w w.heap.size gf P M m)
  (hF:IntsR w w.heap.size F a (fun i=>(fc i:Nat))) (hfN:∀ i,i<a->fc i<N) (ha:a<=1048576) :
  Calls Tryz.prog 188 #[.pointer (some ⟨gf,0,none⟩),.agg #[.int .i64 (P:Nat),.int .i64 (M:Nat),.slice A k c,.int .i64 (N:Nat),.slice T n d],.slice F a fd] w (GreedyPost (P ^ M) n a (addF P M) (mulF P M m) V fc w):=by
 have hL:=fieldLaws hG.ok
 have hneg:∀ x,x<P ^ M->negF P M x<P ^ M/\addF P M x (negF P M x)=0:=fun x _=>⟨zbp (by have:=hG.ok.1.1; omega),za4 (by have:=hG.ok.1.1; omega)⟩
 have HL:=hid hL
 have HNG:=hid hneg
 have HC:=hid h
 have HG:=hid hG
 have HF:=hid hF
 have HFN:=hid hfN
 have hn64:n<=64:=Nat.le_trans h.n_le h.ln2
 have HVL:Hid (∀ i,i<N->∀ j,j<n->V j i<P ^ M):=hid fun i hi j hj=>h.lt j hj i hi
 clear hL hneg h hG hF hfN
 have rf:=zai (w:=w) (a:=.int .i64 (P:Nat)) (b:=.int .i64 (M:Nat)) (c:=.slice A k c) (d:=.int .i64 (N:Nat)) (e:=.slice T n d) (T := 27)
 have hB:Below w.heap.size w (w.alloc (.cells #[.int .i64 (P:Nat),.int .i64 (M:Nat),.slice A k c,.int .i64 (N:Nat),.slice T n d] 27)):=(Below.refl _ _).alloc (Nat.le_refl _) _
 obtain ⟨w1,hw1⟩:∃ W,W=w.alloc (.cells #[.int .i64 (P:Nat),.int .i64 (M:Nat),.slice A k c,.int .i64 (N:Nat),.slice T n d] 27):=⟨_,rfl⟩
 rw [<-hw1] at hB rf
 have rb:=zaf (w:=w1) (a:=.pointer (some ⟨gf,0,none⟩)) (b:=.slice none 0 0) (c:=.slice none 0 0) (T := 247)
 go_enter Tryz.func188, Tryz.ntmps188
 go_upto_region 1 with fail
 rw [<-hw1];clear hw1
 obtain ⟨b0,hb0⟩:∃ b,b=w.heap.size:=⟨_,rfl⟩
 rw [<-hb0] at rf;rw [<-hb0];clear hb0
 go_upto_region 3 with fail
 have kb:Below w1.heap.size w1 (w1.alloc (.cells #[.pointer (some ⟨gf,0,none⟩),.slice none 0 0,.slice none 0 0] 247)):=(Below.refl _ _).alloc (Nat.le_refl _) _
 obtain ⟨w2,hw2⟩:∃ W,W=w1.alloc (.cells #[.pointer (some ⟨gf,0,none⟩),.slice none 0 0,.slice none 0 0] 247):=⟨_,rfl⟩
 rw [<-hw2] at rb kb ⊢
 obtain ⟨bb,hbb⟩:∃ g,g=w1.heap.size:=⟨_,rfl⟩
 have hbb1:w1.heap.size<=bb:=by rw [hbb]; exact Nat.le_refl _
 rw [<-hbb] at rb ⊢
 have HBAS:Hid (Bas w2 bb gf n 0 (fun _ _=>0) (fun _=>0) (.slice none 0 0) 0 (fun j _=>.int .i64 ((0:Nat):Int))):=hid ⟨_,_,rb,⟨fun _=>undef,Own.nil _ _ _ _ _,fun i hi=>absurd hi (by omega)⟩,Own.nil _ _ _ _ _,Own.nil _ _ _ _ _,fun b e=>by cases e⟩
 have HTRI:Hid (Tri (P ^ M) n 0 (fun _ _=>0) (fun _=>0)):=hid Tri.start
 have HKER:Hid (∀ c,(∀ j,j<n->c j<P ^ M)->(OrthU (addF P M) (mulF P M m) V fc n 0 c↔KerB (addF P M) (mulF P M m) n 0 (fun _ _=>0) c)):=hid fun c _=>⟨fun _ t ht=>absurd ht (by omega),fun _ t ht=>absurd ht (by omega)⟩
 have HB:=hid hB
 have RF:=hid rf
 have K2:=hid kb
 clear kb hB rf rb hw2 hbb
 go_upto_region 4 with fail
 go_loopg [8,16] a (fun gg v8 iv wx=>∃ (r mm:Nat) (B:Nat->Nat->Nat) (p:Nat->Nat) (fz:Nat->Nat),iv=.int .i64 (r:Nat)/\r<=a/\a<=r+gg/\Hid (Bas wx bb gf n mm B p v8 mm (fun j _=>.int .i64 (fz j:Nat)))/\Hid (Tri (P ^ M) n mm B p)/\Hid (∀ c,(∀ j,j<n->c j<P ^ M)->(OrthU (addF P M) (mulF P M m) V fc n r c↔KerB (addF P M) (mulF P M m) n mm B c))/\Below w1.heap.size w1 wx)
 case atStart=>exact ⟨0,0,_,_,fun _=>0,rfl,by omega,by omega,HBAS,HTRI,HKER,K2.out⟩
 case round =>
  clear HBAS HTRI HKER K2
  obtain ⟨r,mm,B,p,fz,rfl,hr,hrg,HBAS,HTRI,HKER,hBx⟩:=hrel
  have hr0:(0:Int)<=(r:Int):=by omega
  have K2:=hid hBx
  obtain ⟨w3,hw3⟩:∃ X,X=wr:=⟨_,rfl⟩
  subst hw3
  clear hBx
  obtain ⟨ZA,zc,hv8⟩:=HBAS.out.side.shape
  subst hv8
  by_cases hra:r<a
  ·have hra':(r:Int)<(a:Int):=by omega
   obtain ⟨fb,fo,hFe,_,f0⟩:=(HF.out.on (onS HB.out K2.out)).at hra
   subst hFe
   obtain ⟨fv,hfv⟩:∃ x,x=fc r:=⟨_,rfl⟩
   have hfvN:fv<N:=by rw [hfv]; exact HFN.out r hra
   rw [<-hfv] at f0
   have HFV:=hid hfv
   have HFVN:=hid hfvN
   clear hfv hfvN
   have RF3:=zab RF.out K2.out
   have q0:=RF3.cell (i:=0) (by omega)
   have q1:=RF3.cell (i:=1) (by omega)
   have q2:=RF3.cell (i:=2) (by omega)
   have q3:=RF3.cell (i:=3) (by omega)
   have q4:=RF3.cell (i:=4) (by omega)
   clear RF3
   go_wp2_with fail
   clear f0 q0 q1 q2 q3 q4
   refine (ybl P M m A k c N T n d V fv w3 (HC.out.on (onS HB.out K2.out)) HFVN.out).mono ?_
   rintro e w4 ⟨vb,rfl,hvb,hvr,kb⟩
   have HVB:=hid hvb
   have HVR:=hid hvr
   have K4:=hid kb
   clear kb hvb hvr
   go_wp2_with fail
   refine (ybU P M gf bb vb n mm m B p (fun j=>V j fv) (.slice ZA mm zc) mm (fun j _=>.int .i64 (fz j:Nat)) w1 w3 w4 (HG.out.on HB.out) hbb1 K2.out HBAS.out HVB.out K4.out HVR.out HTRI.out (HVL.out fv HFVN.out) hn64).mono ?_
   rintro e w5 ⟨kb,hbl,(⟨rfl,hz,hbas⟩ | ⟨rfl,f,i,hf,hlow,hi,h1,hbas⟩)⟩
   ·have HBAS5:=hid hbas
    have K5:=hid kb
    have HKER5:Hid (∀ c,(∀ j,j<n->c j<P ^ M)->(OrthU (addF P M) (mulF P M m) V fc n (r+1) c↔KerB (addF P M) (mulF P M m) n mm B c)):=hid fun c hc=>by
     have e1:=Tri.same HL.out HNG.out HTRI.out (HVL.out fv HFVN.out) hc hz
     have e2:=HKER.out c hc
     rw [HFV.out] at e1
     refine ⟨fun ho=>e2.1 fun t ht=>ho t (by omega),fun hk t ht=>?_⟩
     by_cases e:t=r
     ·subst e; exact (e1.2 hk).2
     ·exact e2.2 hk t (by omega)
    clear hz hbas kb
    go_wp2
    go_roundg (gk - 1)
    case measure=>omega
    case rel=>exact ⟨r+1,mm,B,p,fz,by go_num,by omega,by omega,HBAS5,HTRI,HKER5,K5.out⟩
   ·have HBAS5:=hid hbas
    have K5:=hid kb
    have hnx:=Tri.next HL.out HNG.out HTRI.out (HVL.out fv HFVN.out) hf hlow hi h1 (b:=fun j=>mulF P M m i (redN (addF P M) (mulF P M m) (negF P M) B p (fun j=>V j fv) mm j)) (fun j _=>rfl)
    obtain ⟨B2,hB2⟩:∃ X,X=(fun t=>if t=mm then fun j=>mulF P M m i (redN (addF P M) (mulF P M m) (negF P M) B p (fun j=>V j fv) mm j) else B t):=⟨_,rfl⟩
    obtain ⟨p2,hp2⟩:∃ X,X=(fun t=>if t=mm then f else p t):=⟨_,rfl⟩
    rw [<-hB2,<-hp2] at hnx HBAS5
    have HTRI5:=hid hnx.1
    have HKER5:Hid (∀ c,(∀ j,j<n->c j<P ^ M)->(OrthU (addF P M) (mulF P M m) V fc n (r+1) c↔KerB (addF P M) (mulF P M m) n (mm+1) B2 c)):=hid fun c hc=>by
     have e1:=hnx.2 c hc
     have e2:=HKER.out c hc
     rw [HFV.out] at e1
     refine ⟨fun ho=>e1.1 ⟨e2.1 fun t ht=>ho t (by omega),ho r (by omega)⟩,fun hk t ht=>?_⟩
     by_cases e:t=r
     ·subst e; exact (e1.2 hk).2
     ·exact e2.2 (e1.2 hk).1 t (by omega)
    have HTL:Hid (mm<=1048576):=hid (Nat.le_trans HTRI.out.le (Nat.le_trans hn64 (by decide)))
    clear hnx hB2 hp2 hbas kb hlow hi h1 hf
    go_upto_region 7 with fail
    have kb:=(Below.refl w5.heap.size w5).alloc (Nat.le_refl _) (Obj.cells #[Value.int .i64 (fv:Nat)] 3)
    have HB6:=hid (HBAS5.out.on kb)
    have K6:=hid (onS K5.out kb)
    have HO6:=hid HB6.out.side
    have HC6:Hid ((w5.alloc (Obj.cells #[Value.int .i64 (fv:Nat)] 3)).cell? ((⟨w5.heap.size,0,none⟩:Addr).add 0)=some (.int .i64 (fv:Nat))):=hid tbox2
    have HZ6:Hid (bb+1<=(w5.alloc (Obj.cells #[Value.int .i64 (fv:Nat)] 3)).heap.size):=hid HB6.out.lt
    clear kb
    go_wp2_with (first | (at_builtin; (refine zap rfl (.tmp 25) (.tmp 27) rfl HO6.out rfl (ad:=⟨w5.heap.size,0,none⟩) (c:=1) rfl HC6.out HZ6.out HTL.out ?_); intro v9 w9 o1 o2 o3))
    have HB9:=hid (HB6.out.push o2 o3 o1)
    have K9:=hid (K6.out.grown o2 (Nat.le_trans hbb1 (Nat.le_of_lt HZ6.out)) fun q e=>Nat.le_trans (Nat.le_trans hbb1 (Nat.le_succ _)) (HO6.out.lt q e).1)
    clear o1 o2 o3 HO6 HB6
    go_wp2
    go_roundg (gk - 1)
    case measure=>omega
    case rel=>exact ⟨r+1,mm+1,B2,p2,fun j=>if j=mm then fv else fz j,by go_num,by omega,by omega,HB9,HTRI5,HKER5,K9.out⟩
  ·have hra':¬ (r:Int)<(a:Int):=by omega
   obtain rfl:r=a:=by omega
   go_wp2
   go_ret
   exact ⟨mm,B,p,ZA,zc,rfl,HTRI.out,HKER.out,onS HB.out K2.out⟩
def OpenPost (P M:Nat) (m:Nat->Nat) (w:World) (e:Ending) (w':World):Prop:=Below w.heap.size w w'/\∃ g,e=.returned (.tuple #[.pointer (some ⟨g,0,none⟩),.int .i64 0])/\GF w' w'.heap.size g P M m
theorem yaZ (P M:Nat) (m:Nat->Nat) (A:Option Addr) (k c N:Nat) (T:Option Addr) (n d:Nat) (V:Nat->Nat->Nat) (w:World) (h:CodeR w P M m A k N T n V) :
  Calls Tryz.prog 186 #[.agg #[.int .i64 (P:Nat),.int .i64 (M:Nat),.slice A k c,.int .i64 (N:Nat),.slice T n d]] w (OpenPost P M m w):=by
 have HC:=hid h
 clear h
 have rf:=zai (w:=w) (a:=.int .i64 (P:Nat)) (b:=.int .i64 (M:Nat)) (c:=.slice A k c) (d:=.int .i64 (N:Nat)) (e:=.slice T n d) (T := 27)
 have hB:Below w.heap.size w (w.alloc (.cells #[.int .i64 (P:Nat),.int .i64 (M:Nat),.slice A k c,.int .i64 (N:Nat),.slice T n d] 27)):=(Below.refl _ _).alloc (Nat.le_refl _) _
 obtain ⟨w1,hw1⟩:∃ W,W=w.alloc (.cells #[.int .i64 (P:Nat),.int .i64 (M:Nat),.slice A k c,.int .i64 (N:Nat),.slice T n d] 27):=⟨_,rfl⟩
 rw [<-hw1] at hB rf
 go_enter Tryz.func186, Tryz.ntmps186
 go_upto_region 1 with fail
 rw [<-hw1];clear hw1
 obtain ⟨b0,hb0⟩:∃ b,b=w.heap.size:=⟨_,rfl⟩
 rw [<-hb0] at rf;rw [<-hb0];clear hb0
 have HBOX:Hid (∀ X,Below w1.heap.size w1 X->(X.cell? ⟨b0,0,none⟩=some (.int .i64 (P:Nat))/\X.cell? ⟨b0,1,none⟩=some (.int .i64 (M:Nat))/\X.cell? ⟨b0,2,none⟩=some (.slice A k c)/\X.cell? ⟨b0,3,none⟩=some (.int .i64 (N:Nat))/\X.cell? ⟨b0,4,none⟩=some (.slice T n d))):=hid fun X hx =>
  ⟨(zab rf hx).cell (i:=0) (by omega),(zab rf hx).cell (i:=1) (by omega),(zab rf hx).cell (i:=2) (by omega),(zab rf hx).cell (i:=3) (by omega),(zab rf hx).cell (i:=4) (by omega)⟩
 have HB:=hid hB
 clear hB rf
 obtain ⟨q0,q1,q2,q3,q4⟩:=HBOX.out _ (Below.refl _ _)
 go_wp2_with fail
 refine (zcI (P:Int) (M:Int) A k c (fun i=>(m i:Int)) (N:Int) T n d (fun _=>N) (fun i j=>(V i j:Int)) w1 (HC.out.on HB.out).ints (HC.out.on HB.out).rows).mono ?_
 rintro e w2 ⟨u,rfl,hu,kb⟩
 obtain rfl:u=0:=FirstErr.unique hu HC.out.errs
 have KB:=hid kb
 clear kb hu q0 q1 q2 q3 q4
 obtain ⟨q0,q1,q2,q3,q4⟩:=HBOX.out _ KB.out
 go_wp2_with fail
 refine (zbP (P:Int) (M:Int) A k c (fun i=>(m i:Int)) w2 (HC.out.on (onS HB.out KB.out)).ints).mono ?_
 rintro e w3 ⟨kb,hcase⟩
 rcases hcase with ⟨hbad,_⟩ | ⟨_,gf,P2,M2,hP2,hM2,rfl,_,hG⟩
 ·refine absurd ?_ hbad
  rcases HC.out.errs with ⟨_,h9⟩ | ⟨h1,_⟩
  ·cases h9
  ·exact h1
 obtain rfl:P=P2:=by omega
 obtain rfl:M=M2:=by omega
 have HG:=hid hG.gf
 have K3:=hid (onS HB.out (onS KB.out kb))
 clear kb q0 q1 q2 q3 q4 hP2 hM2 hG
 go_wp2
 go_ret2
 refine ⟨K3.out,gf,rfl,?_⟩
 have h9:=HG.out
 simp only [Int.toNat_natCast] at h9
 exact h9
theorem ya0 (P M:Nat) (m:Nat->Nat) (A:Option Addr) (k c N:Nat) (T:Option Addr) (n d:Nat) (V:Nat->Nat->Nat) (tb:Nat) (F:Option Addr) (a fd:Nat) (fc:Nat->Nat) (w:World) (h:CodeR w P M m A k N T n V)
  (ht:w.cell? ((⟨tb,0,none⟩:Addr).add 0)=some (.slice F a fd)) (hF:IntsR w w.heap.size F a (fun i=>(fc i:Nat))) (hfN:∀ i,i<a->fc i<N) (hinc:∀ i,i+1<a->fc i<fc (i+1)) (ha:a<=1048576) :
  Calls Tryz.prog 187 #[.agg #[.int .i64 (P:Nat),.int .i64 (M:Nat),.slice A k c,.int .i64 (N:Nat),.slice T n d],.slice (some ⟨tb,0,none⟩) 1 1] w fun e w'=>e=.returned (.int .i64 0)/\Below w.heap.size w w':=by
 have hN64:=h.ln2
 have HF:=hid hF
 have HFN:=hid hfN
 have HIN:=hid hinc
 clear h hF hfN hinc
 have rf:=zai (w:=w) (a:=.int .i64 (P:Nat)) (b:=.int .i64 (M:Nat)) (c:=.slice A k c) (d:=.int .i64 (N:Nat)) (e:=.slice T n d) (T := 27)
 have hB:Below w.heap.size w (w.alloc (.cells #[.int .i64 (P:Nat),.int .i64 (M:Nat),.slice A k c,.int .i64 (N:Nat),.slice T n d] 27)):=(Below.refl _ _).alloc (Nat.le_refl _) _
 obtain ⟨w1,hw1⟩:∃ W,W=w.alloc (.cells #[.int .i64 (P:Nat),.int .i64 (M:Nat),.slice A k c,.int .i64 (N:Nat),.slice T n d] 27):=⟨_,rfl⟩
 rw [<-hw1] at hB rf
 go_enter Tryz.func187, Tryz.ntmps187
 go_upto_region 1 with fail
 rw [<-hw1];clear hw1
 obtain ⟨b0,hb0⟩:∃ b,b=w.heap.size:=⟨_,rfl⟩
 rw [<-hb0] at rf;rw [<-hb0];clear hb0
 have q3:w1.cell? ⟨b0,3,none⟩=some (.int .i64 (N:Nat)):=rf.cell (i:=3) (by omega)
 have t0:w1.cell? ⟨tb,0,none⟩=some (.slice F a fd):=cellS hB ht
 have HF1:=hid (HF.out.on hB)
 have HB:=hid hB
 clear hB rf ht HF
 go_upto_region 2 with fail
 go_loopg [11] 1 (fun gg iv wx=>wx=w1/\∃ r:Nat,iv=.int .i64 (r:Nat)/\r<=1/\1<=r+gg)
 case atStart=>exact ⟨rfl,0,rfl,by omega,by omega⟩
 case round =>
  obtain ⟨rfl,r,rfl,hr,hrg⟩:=hrel
  by_cases hr1:r<1
  ·obtain rfl:r=0:=by omega
   obtain ⟨gO,hgO⟩:∃ x,x=gk:=⟨_,rfl⟩
   subst hgO
   go_upto_region 5 with fail
   go_loopg [17] a (fun gg iv wx=>wx=wr/\∃ i:Nat,iv=.int .i64 (i:Nat)/\i<=a/\a<=i+gg)
   case atStart=>exact ⟨rfl,0,rfl,by omega,by omega⟩
   case round =>
    obtain ⟨rfl,i,rfl,hi,hig⟩:=hrel
    have hi0:(0:Int)<=(i:Int):=by omega
    by_cases hia:i<a
    ·have hia':(i:Int)<(a:Int):=by omega
     obtain ⟨fb,fo,hFe,_,f0⟩:=HF1.out.at hia
     obtain ⟨x,hx⟩:∃ x,x=fc i:=⟨_,rfl⟩
     have hxN:x<N:=by rw [hx]; exact HFN.out i hia
     rw [<-hx] at f0
     have hx0:¬ ((x:Int)<0):=by omega
     have hxN':¬ ((N:Int)<=(x:Int)):=by omega
     by_cases hz:i=0
     ·subst hz
      subst hFe
      rw [Nat.add_zero] at f0
      go_wp2
      go_roundg (gk - 1)
      case measure=>omega
      case rel=>exact ⟨rfl,0+1,by go_num,by omega,by omega⟩
     ·obtain ⟨j,rfl⟩:∃ j,i=j+1:=⟨i - 1,by omega⟩
      obtain ⟨fb2,fo2,hFe2,_,f1⟩:=HF1.out.at (show j<a by omega)
      rw [hFe] at hFe2
      injection hFe2 with hFe2
      injection hFe2 with e1 e2
      subst e1 e2 hFe
      obtain ⟨y,hy⟩:∃ y,y=fc j:=⟨_,rfl⟩
      rw [<-hy] at f1
      have hxy:¬ ((x:Int)<=(y:Int)):=by have:=HIN.out j hia; omega
      have hj0:(0:Int)<((j+1:Nat):Int):=by omega
      have hm:((j+1:Nat):Int) - 1=(j:Int):=by omega
      have hjj:(0:Int)<=(j:Int):=by omega
      have hja:(j:Int)<(a:Int):=by omega
      go_wp2
      go_roundg (gk - 1)
      case measure=>omega
      case rel=>exact ⟨rfl,j+1+1,by go_num,by omega,by omega⟩
    ·have hia':¬ (i:Int)<(a:Int):=by omega
     obtain rfl:i=a:=by omega
     go_wp2
     go_roundg (gO - 1)
     case measure=>omega
     case rel=>exact ⟨rfl,0+1,by go_num,by omega,by omega⟩
  ·obtain rfl:r=1:=by omega
   go_wp2
   go_ret
   exact ⟨rfl,HB.out⟩
def RankPost (q n a:Nat) (add mul:Nat->Nat->Nat) (V:Nat->Nat->Nat) (fc:Nat->Nat) (w:World) (e:Ending) (w':World):Prop :=
 Below w.heap.size w w'/\∃ mm B p,e=.returned (.tuple #[.int .i64 (mm:Nat),.int .i64 0])/\Tri q n mm B p/\∀ c,(∀ j,j<n->c j<q)->(OrthU add mul V fc n a c↔KerB add mul n mm B c)
theorem yau (P M:Nat) (m:Nat->Nat) (A:Option Addr) (k c N:Nat) (T:Option Addr) (n d:Nat) (V:Nat->Nat->Nat) (F:Option Addr) (a fd:Nat) (fc:Nat->Nat) (w:World) (h:CodeR w P M m A k N T n V)
  (hF:IntsR w w.heap.size F a (fun i=>(fc i:Nat))) (hfN:∀ i,i<a->fc i<N) (hinc:∀ i,i+1<a->fc i<fc (i+1)) (ha:a<=1048576) :
  Calls Tryz.prog 131 #[.agg #[.int .i64 (P:Nat),.int .i64 (M:Nat),.slice A k c,.int .i64 (N:Nat),.slice T n d],.slice F a fd] w (RankPost (P ^ M) n a (addF P M) (mulF P M m) V fc w):=by
 have HC:=hid h
 have HF:=hid hF
 have HFN:=hid hfN
 have HIN:=hid hinc
 clear h hF hfN hinc
 have rf:=zai (w:=w) (a:=.int .i64 (P:Nat)) (b:=.int .i64 (M:Nat)) (c:=.slice A k c) (d:=.int .i64 (N:Nat)) (e:=.slice T n d) (T := 27)
 have hB:Below w.heap.size w (w.alloc (.cells #[.int .i64 (P:Nat),.int .i64 (M:Nat),.slice A k c,.int .i64 (N:Nat),.slice T n d] 27)):=(Below.refl _ _).alloc (Nat.le_refl _) _
 obtain ⟨w1,hw1⟩:∃ W,W=w.alloc (.cells #[.int .i64 (P:Nat),.int .i64 (M:Nat),.slice A k c,.int .i64 (N:Nat),.slice T n d] 27):=⟨_,rfl⟩
 rw [<-hw1] at hB rf
 go_enter Tryz.func131, Tryz.ntmps131
 go_upto_region 1 with fail
 rw [<-hw1];clear hw1
 obtain ⟨b0,hb0⟩:∃ b,b=w.heap.size:=⟨_,rfl⟩
 rw [<-hb0] at rf;rw [<-hb0];clear hb0
 have HBOX:Hid (∀ X,Below w1.heap.size w1 X->(X.cell? ⟨b0,0,none⟩=some (.int .i64 (P:Nat))/\X.cell? ⟨b0,1,none⟩=some (.int .i64 (M:Nat))/\X.cell? ⟨b0,2,none⟩=some (.slice A k c)/\X.cell? ⟨b0,3,none⟩=some (.int .i64 (N:Nat))/\X.cell? ⟨b0,4,none⟩=some (.slice T n d))):=hid fun X hx =>
  ⟨(zab rf hx).cell (i:=0) (by omega),(zab rf hx).cell (i:=1) (by omega),(zab rf hx).cell (i:=2) (by omega),(zab rf hx).cell (i:=3) (by omega),(zab rf hx).cell (i:=4) (by omega)⟩
 have HB:=hid hB
 clear hB rf
 obtain ⟨q0,q1,q2,q3,q4⟩:=HBOX.out _ (Below.refl _ _)
 go_wp2_with fail
 refine (yaZ P M m A k c N T n d V w1 (HC.out.on HB.out)).mono ?_
 rintro e w2 ⟨kb,gf,rfl,hG⟩
 have HG:=hid hG
 have K2:=hid kb
 clear kb hG q0 q1 q2 q3 q4
 obtain ⟨q0,q1,q2,q3,q4⟩:=HBOX.out _ K2.out
 go_upto_region 3 with fail
 clear q0 q1 q2 q3 q4
 have kb:Below w2.heap.size w2 (w2.alloc (.cells #[.slice F a fd] 22)):=(Below.refl _ _).alloc (Nat.le_refl _) _
 have HT3:Hid ((w2.alloc (.cells #[.slice F a fd] 22)).cell? ((⟨w2.heap.size,0,none⟩:Addr).add 0)=some (.slice F a fd)):=hid tbox2
 obtain ⟨q0,q1,q2,q3,q4⟩:=HBOX.out _ K2.out
 have K3:=hid (onS K2.out kb)
 have HG3:=hid (HG.out.on kb)
 clear kb
 go_wp2_with fail
 refine (ya0 P M m A k c N T n d V w2.heap.size F a fd fc _ (HC.out.on (onS HB.out K3.out)) HT3.out (HF.out.on (onS HB.out K3.out)) HFN.out HIN.out ha).mono ?_
 rintro e w4 ⟨rfl,kb⟩
 have K4:=hid (onS K3.out kb)
 have HG4:=hid (HG3.out.on kb)
 clear kb q0 q1 q2 q3 q4 HT3 HG3 HG K3
 obtain ⟨q0,q1,q2,q3,q4⟩:=HBOX.out _ K4.out
 go_wp2_with fail
 refine (yaG P M m A k c N T n d V gf F a fd fc w4 (HC.out.on (onS HB.out K4.out)) HG4.out (HF.out.on (onS HB.out K4.out)) HFN.out ha).mono ?_
 rintro e w5 ⟨mm,B,p,ZA,zc,rfl,htri,hker,kb⟩
 have K5:=hid (onS HB.out (onS K4.out kb))
 have HTR:=hid htri
 have HKE:=hid hker
 clear kb q0 q1 q2 q3 q4 htri hker
 go_wp2
 go_ret2
 exact ⟨K5.out,mm,B,p,rfl,HTR.out,HKE.out⟩
theorem yaQ (lo hi:Nat) (w:World) (hl:lo<=hi) (hh:hi<=64) :
  Calls Tryz.prog 132 #[.int .i64 (lo:Nat),.int .i64 (hi:Nat)] w fun e w'=>∃ A c,e=.returned (.slice A (hi - lo) c)/\Own w' w.heap.size 3 1 (.slice A (hi - lo) c) (hi - lo) (fun j _=>.int .i64 ((lo+j:Nat):Int))/\Below w.heap.size w w':=by
 go_enter Tryz.func132, Tryz.ntmps132
 go_upto_region 3 with fail
 go_loopg [5,6] (hi - lo) (fun gg v5 iv wx=>∃ r:Nat,iv=.int .i64 (r:Nat)/\lo<=r/\r<=hi/\hi<=r+gg/\Hid (Own wx w.heap.size 3 1 v5 (r - lo) (fun j _=>.int .i64 ((lo+j:Nat):Int)))/\Below w.heap.size w wx)
 case atStart=>exact ⟨lo,rfl,by omega,by omega,by omega,by rw [Nat.sub_self]; exact hid (Own.nil _ _ _ _ _),Below.refl _ _⟩
 case round =>
  obtain ⟨r,rfl,hr1,hr2,hrg,HO,hB⟩:=hrel
  have HB:=hid hB
  clear hB
  obtain ⟨ZA,zc,hv⟩:=HO.out.shape
  subst hv
  by_cases hrh:r<hi
  ·have hrh':(r:Int)<(hi:Int):=by omega
   go_upto_region 5 with fail
   have kb:=(Below.refl wr.heap.size wr).alloc (Nat.le_refl _) (Obj.cells #[Value.int .i64 (r:Nat)] 3)
   have HO8:=hid (HO.out.on kb)
   have HB8:=hid (onS HB.out kb)
   have HC8:Hid ((wr.alloc (Obj.cells #[Value.int .i64 (r:Nat)] 3)).cell? ((⟨wr.heap.size,0,none⟩:Addr).add 0)=some (.int .i64 (r:Nat))):=tbox2
   have HZ8:Hid (w.heap.size<=(wr.alloc (Obj.cells #[Value.int .i64 (r:Nat)] 3)).heap.size):=HB8.out.size
   have HLL:Hid (r - lo<=1048576):=by show _<=_; omega
   clear kb
   go_wp2_with (first | (at_builtin; (refine zap rfl (.tmp 13) (.tmp 15) rfl HO8.out rfl (ad:=⟨wr.heap.size,0,none⟩) (c:=1) rfl HC8.out HZ8.out HLL.out ?_); intro v9 w9 o1 o2 o3))
   have hs:r - lo+1=r+1 - lo:=by omega
   rw [hs] at o1
   have HO9:=hid (o1.congr (f':=fun j _=>.int .i64 ((lo+j:Nat):Int)) fun t _ _ _=>by
    by_cases e:t=r - lo
    ·rw [if_pos e,show r=lo+t by omega]
    ·rw [if_neg e])
   have HB9:=hid (HB8.out.grown o2 HZ8.out fun q e=>(HO8.out.lt _ e).1)
   clear o1 o2 o3 HO8 HB8 HC8 HZ8 HO HB
   go_wp2
   go_roundg (gk - 1)
   case measure=>omega
   case rel=>exact ⟨r+1,by go_num,by omega,by omega,by omega,HO9,HB9.out⟩
  ·have hrh':¬ (r:Int)<(hi:Int):=by omega
   obtain rfl:r=hi:=by omega
   go_wp2
   go_ret
   exact ⟨ZA,zc,rfl,HO.out,HB.out⟩
def RankOf (q n a:Nat) (add mul:Nat->Nat->Nat) (V:Nat->Nat->Nat) (fc:Nat->Nat) (r:Nat):Prop:=∃ B p,Tri q n r B p/\∀ c,(∀ j,j<n->c j<q)->(OrthU add mul V fc n a c↔KerB add mul n r B c)
theorem ybn (P M:Nat) (m:Nat->Nat) (A:Option Addr) (k c N:Nat) (T:Option Addr) (n d:Nat) (V:Nat->Nat->Nat) (t:Nat) (w:World) (h:CodeR w P M m A k N T n V) (ht:t<=N) :
  Calls Tryz.prog 68 #[.agg #[.int .i64 (P:Nat),.int .i64 (M:Nat),.slice A k c,.int .i64 (N:Nat),.slice T n d],.int .i64 (t:Nat)] w fun e w'=>Below w.heap.size w w'/\∃ r1 r2,e=.returned (.tuple #[.int .i64 (r1:Nat),.int .i64 (r2:Nat)])/\RankOf (P ^ M) n t (addF P M) (mulF P M m) V (fun i=>i) r1/\RankOf (P ^ M) n (N - t) (addF P M) (mulF P M m) V (fun i=>t+i) r2:=by
 have hN64:=h.ln2
 have HC:=hid h
 clear h
 have rf:=zai (w:=w) (a:=.int .i64 (P:Nat)) (b:=.int .i64 (M:Nat)) (c:=.slice A k c) (d:=.int .i64 (N:Nat)) (e:=.slice T n d) (T := 27)
 have hB:Below w.heap.size w (w.alloc (.cells #[.int .i64 (P:Nat),.int .i64 (M:Nat),.slice A k c,.int .i64 (N:Nat),.slice T n d] 27)):=(Below.refl _ _).alloc (Nat.le_refl _) _
 obtain ⟨w1,hw1⟩:∃ W,W=w.alloc (.cells #[.int .i64 (P:Nat),.int .i64 (M:Nat),.slice A k c,.int .i64 (N:Nat),.slice T n d] 27):=⟨_,rfl⟩
 rw [<-hw1] at hB rf
 go_enter Tryz.func68, Tryz.ntmps68
 go_upto_region 1 with fail
 rw [<-hw1];clear hw1
 obtain ⟨b0,hb0⟩:∃ b,b=w.heap.size:=⟨_,rfl⟩
 rw [<-hb0] at rf;rw [<-hb0];clear hb0
 have HBOX:Hid (∀ X,Below w1.heap.size w1 X->(X.cell? ⟨b0,0,none⟩=some (.int .i64 (P:Nat))/\X.cell? ⟨b0,1,none⟩=some (.int .i64 (M:Nat))/\X.cell? ⟨b0,2,none⟩=some (.slice A k c)/\X.cell? ⟨b0,3,none⟩=some (.int .i64 (N:Nat))/\X.cell? ⟨b0,4,none⟩=some (.slice T n d))):=hid fun X hx =>
  ⟨(zab rf hx).cell (i:=0) (by omega),(zab rf hx).cell (i:=1) (by omega),(zab rf hx).cell (i:=2) (by omega),(zab rf hx).cell (i:=3) (by omega),(zab rf hx).cell (i:=4) (by omega)⟩
 have HB:=hid hB
 clear hB rf
 refine wp_region_held_drew (S:=fun X=>(X.cell? ⟨b0,0,none⟩=some (.int .i64 (P:Nat))/\X.cell? ⟨b0,1,none⟩=some (.int .i64 (M:Nat))/\X.cell? ⟨b0,2,none⟩=some (.slice A k c)/\X.cell? ⟨b0,3,none⟩=some (.int .i64 (N:Nat))/\X.cell? ⟨b0,4,none⟩=some (.slice T n d))) (by kernel_rfl) (HBOX.out _ (Below.refl _ _).drew) (fun hHeld=>?_)
 obtain ⟨w2,hw⟩:∃ W,W=World.drew w1:=⟨_,rfl⟩
 have kb:Below w1.heap.size w1 w2:=by rw [hw]; exact (Below.refl _ _).drew
 rw [<-hw] at hHeld ⊢;clear hw
 have K2:=hid kb
 clear kb
 refine tkq 0 (h:=tkq 1 (h:=?_))
 clear hHeld
 refine rdq 2 (h:=fun K hK=>?_)
 go_simp
 go_wp2_with fail
 refine (yaQ 0 t w2 (by omega) (by omega)).mono ?_
 rintro e w3 ⟨SA,sc,rfl,hO,kb⟩
 rw [Nat.sub_zero] at hO ⊢
 have h0:IntsR w3 w3.heap.size SA t (fun i=>((0+i:Nat):Int)):=hO.rd rfl
 have HF3:Hid (IntsR w3 w3.heap.size SA t (fun i=>((i:Nat):Int))):=by
  simp only [Nat.zero_add] at h0
  exact hid h0
 clear h0
 have K3:=hid (onS K2.out kb)
 clear kb hO
 refine bkq hK (HBOX.out _ K3.out) (h:=fun hHeld=>?_)
 clear hK K hHeld K2
 refine rdq 3 (h:=fun K hK=>?_)
 go_simp
 go_wp2_with fail
 refine (yau P M m A k c N T n d V SA t sc (fun i=>i) w3 (HC.out.on (onS HB.out K3.out)) HF3.out (fun i hi=>by omega) (fun i _=>by omega) (by omega)).mono ?_
 rintro e w4 ⟨kb,r1,B1,p1,rfl,h1,h2⟩
 have HR1:Hid (RankOf (P ^ M) n t (addF P M) (mulF P M m) V (fun i=>i) r1):=hid ⟨B1,p1,h1,h2⟩
 have K4:=hid (onS K3.out kb)
 clear kb h1 h2
 refine bkq hK (HBOX.out _ K4.out) (h:=fun hHeld=>?_)
 clear hK K K3 HF3
 refine tkq 4 (h:=tkq 5 (h:=tkq 6 (h:=tkq 7 (h:=tkq 8 (h:=?_)))))
 refine wpAnyH_done (by kernel_rfl) ?_ _
 clear hHeld
 go_upto_region 2 with fail
 refine wp_region_held_drew (S:=fun X=>(X.cell? ⟨b0,0,none⟩=some (.int .i64 (P:Nat))/\X.cell? ⟨b0,1,none⟩=some (.int .i64 (M:Nat))/\X.cell? ⟨b0,2,none⟩=some (.slice A k c)/\X.cell? ⟨b0,3,none⟩=some (.int .i64 (N:Nat))/\X.cell? ⟨b0,4,none⟩=some (.slice T n d))) (by kernel_rfl) (HBOX.out _ (onS K4.out (Below.refl _ _).drew)) (fun hHeld=>?_)
 obtain ⟨w5,hw⟩:∃ W,W=World.drew w4:=⟨_,rfl⟩
 have kb:Below w4.heap.size w4 w5:=by rw [hw]; exact (Below.refl _ _).drew
 rw [<-hw] at hHeld ⊢;clear hw
 have K5:=hid (onS K4.out kb)
 clear kb
 refine tkq 0 (h:=tkq 1 (h:=tkq 2 (h:=tkq 3 (h:=?_))))
 clear hHeld
 refine rdq 4 (h:=fun K hK=>?_)
 go_simp
 go_wp2_with fail
 refine (yaQ t N w5 ht hN64).mono ?_
 rintro e w6 ⟨SA,sc,rfl,hO,kb⟩
 have HF6:Hid (IntsR w6 w6.heap.size SA (N - t) (fun i=>((t+i:Nat):Int))):=hid (hO.rd rfl)
 have K6:=hid (onS K5.out kb)
 clear kb hO
 refine bkq hK (HBOX.out _ K6.out) (h:=fun hHeld=>?_)
 clear hK K hHeld K5
 refine rdq 5 (h:=fun K hK=>?_)
 go_simp
 go_wp2_with fail
 refine (yau P M m A k c N T n d V SA (N - t) sc (fun i=>t+i) w6 (HC.out.on (onS HB.out K6.out)) HF6.out (fun i hi=>by omega) (fun i _=>by omega) (by omega)).mono ?_
 rintro e w7 ⟨kb,r2,B2,p2,rfl,h1,h2⟩
 have HR2:Hid (RankOf (P ^ M) n (N - t) (addF P M) (mulF P M m) V (fun i=>t+i) r2):=hid ⟨B2,p2,h1,h2⟩
 have K7:=hid (onS K6.out kb)
 clear kb h1 h2
 refine bkq hK (HBOX.out _ K7.out) (h:=fun hHeld=>?_)
 clear hK K K6 HF6
 refine tkq 6 (h:=tkq 7 (h:=tkq 8 (h:=tkq 9 (h:=tkq 10 (h:=?_)))))
 refine wpAnyH_done (by kernel_rfl) ?_ _
 clear hHeld
 go_wp2
 go_ret2
 exact ⟨onS HB.out K7.out,r1,r2,rfl,HR1.out,HR2.out⟩
def TrProfPost (P M : Int) (k : Nat) (f : Nat → Int) (N : Int) (n : Nat) (ln : Nat → Nat) (V : Nat → Nat → Int) (w : World) (e : Ending) (w' : World) : Prop :=
  Below w.heap.size w w'/\∃ u,FirstErr (CodeErrs P M k f N n ln V) u /\
    ((u≠0/\e=.returned (.tuple #[.slice none 0 0,.int .i64 u])) ∨
     (u=0/\∃ P' M' N':Nat,P=P'/\M=M'/\N=N'/\∃ (g:Nat) (R:Nat->Int),e=.returned (.tuple #[.slice (some ⟨g,0,none⟩) (N'+1) (N'+1),.int .i64 0])/\w.heap.size<=g/\w'.rowIs g 3 (N'+1) (fun t=>.int .i64 (R t)) /\
       ∀ t,t<=N'->∃ r1 r2:Nat,R t=(r1:Int)+(r2:Int) - (n:Int)/\RankOf (P' ^ M') n t (addF P' M') (mulF P' M' fun i=>(f i).toNat) (natT V) (fun i=>i) r1/\RankOf (P' ^ M') n (N' - t) (addF P' M') (mulF P' M' fun i=>(f i).toNat) (natT V) (fun i=>t+i) r2))
theorem RankOf.le {q n a r:Nat} {add mul:Nat->Nat->Nat} {V:Nat->Nat->Nat} {fc:Nat->Nat} (h:RankOf q n a add mul V fc r):r<=n:=by
 obtain ⟨B,p,h,_⟩:=h
 exact h.le
theorem ya1 (P M:Int) (A:Option Addr) (k c:Nat) (f:Nat->Int) (N:Int) (TC:Option Addr) (n d:Nat) (ln:Nat->Nat) (V:Nat->Nat->Int) (w:World) (hr:IntsR w w.heap.size A k f) (h:IntRows w TC n ln V) :
  Calls Tryz.prog 25 #[.agg #[.int .i64 P,.int .i64 M,.slice A k c,.int .i64 N,.slice TC n d]] w (TrProfPost P M k f N n ln V w):=by
 have HI:=hid hr
 have HT:=hid h
 clear hr h
 have rf:=zai (w:=w) (a:=.int .i64 P) (b:=.int .i64 M) (c:=.slice A k c) (d:=.int .i64 N) (e:=.slice TC n d) (T := 27)
 have hB:Below w.heap.size w (w.alloc (.cells #[.int .i64 P,.int .i64 M,.slice A k c,.int .i64 N,.slice TC n d] 27)):=(Below.refl _ _).alloc (Nat.le_refl _) _
 obtain ⟨w1,hw1⟩:∃ W,W=w.alloc (.cells #[.int .i64 P,.int .i64 M,.slice A k c,.int .i64 N,.slice TC n d] 27):=⟨_,rfl⟩
 rw [<-hw1] at hB rf
 go_enter Tryz.func25, Tryz.ntmps25
 go_upto_region 1 with fail
 rw [<-hw1];clear hw1
 obtain ⟨b0,hb0⟩:∃ b,b=w.heap.size:=⟨_,rfl⟩
 rw [<-hb0] at rf;rw [<-hb0];clear hb0
 have HBOX:Hid (∀ X,Below w1.heap.size w1 X->(X.cell? ⟨b0,0,none⟩=some (.int .i64 P)/\X.cell? ⟨b0,1,none⟩=some (.int .i64 M)/\X.cell? ⟨b0,2,none⟩=some (.slice A k c)/\X.cell? ⟨b0,3,none⟩=some (.int .i64 N)/\X.cell? ⟨b0,4,none⟩=some (.slice TC n d))):=hid fun X hx =>
  ⟨(zab rf hx).cell (i:=0) (by omega),(zab rf hx).cell (i:=1) (by omega),(zab rf hx).cell (i:=2) (by omega),(zab rf hx).cell (i:=3) (by omega),(zab rf hx).cell (i:=4) (by omega)⟩
 have HB:=hid hB
 clear hB rf
 obtain ⟨q0,q1,q2,q3,q4⟩:=HBOX.out _ (Below.refl _ _)
 go_wp2_with fail
 refine (zcI P M A k c f N TC n d ln V w1 (HI.out.on HB.out) (HT.out.on HB.out)).mono ?_
 rintro e w2 ⟨u,rfl,hu,kb⟩
 have HU:=hid hu
 have KB:=hid kb
 clear kb hu q0 q1 q2 q3 q4
 by_cases hu0:u=0
 rotate_left
 ·have hub:(u != 0)=true:=by simpa using hu0
  have HU0:=hid hu0
  clear hu0
  go_wp2
  go_ret2
  exact ⟨onS HB.out KB.out,u,HU.out,.inl ⟨HU0.out,rfl⟩⟩
 subst hu0
 have hub:((0:Int) != 0)=false:=by simp
 obtain ⟨P',M',N',rfl,rfl,rfl,hC⟩:=zb5 HI.out HT.out HU.out
 have HC:=hid hC
 have hN64:=hC.ln2
 have hnN:=hC.n_le
 clear hC
 have hmk:=fun W=>zah (P:=Tryz.prog) 22 3 _ 8 Tryz.underlying22 Tryz.infoInt rfl (((N'+1:Nat)):Int) (by omega) (by omega) (by omega) W
 simp only [Int.natCast_add,Int.cast_ofNat_Int] at hmk
 obtain ⟨q0,q1,q2,q3,q4⟩:=HBOX.out _ KB.out
 go_upto_region 5 with fail
 have rz:World.rowIs (World.alloc w2 (Obj.cells (madeCells #[Value.int .i64 0] (N'+1)) 3)) w2.heap.size 3 (N'+1) (fun _=>.int .i64 0):=World.rowIs_made _ (.int .i64 0) (N'+1) 3
 have kb:Below w2.heap.size w2 (World.alloc w2 (Obj.cells (madeCells #[Value.int .i64 0] (N'+1)) 3)):=(Below.refl _ _).alloc (Nat.le_refl _) _
 obtain ⟨w3,hw3⟩:∃ W,W=World.alloc w2 (Obj.cells (madeCells #[Value.int .i64 0] (N'+1)) 3):=⟨_,rfl⟩
 rw [<-hw3] at rz kb ⊢
 obtain ⟨g,hg⟩:∃ x,x=w2.heap.size:=⟨_,rfl⟩
 have hg1:w1.heap.size<=g:=by rw [hg]; exact KB.out.size
 rw [<-hg] at rz ⊢
 have HRZ:=hid rz
 have K3:=hid (onS KB.out kb)
 clear rz kb hw3 hg hmk q0 q1 q2 q3 q4
 go_upto_region 6 with fail
 go_loopg [20] (N'+1) (fun gg iv wx=>∃ (t:Nat) (R:Nat->Int),iv=.int .i64 (t:Nat)/\t<=N'+1/\N'+1<=t+gg/\Hid (wx.rowIs g 3 (N'+1) (fun i=>.int .i64 (R i)))/\Hid (∀ i,i<t->∃ r1 r2:Nat,R i=(r1:Int)+(r2:Int) - (n:Int)/\RankOf (P' ^ M') n i (addF P' M') (mulF P' M' fun i=>(f i).toNat) (natT V) (fun i=>i) r1/\RankOf (P' ^ M') n (N' - i) (addF P' M') (mulF P' M' fun i=>(f i).toNat) (natT V) (fun j=>i+j) r2)/\Below w1.heap.size w1 wx)
 case atStart=>exact ⟨0,fun _=>0,rfl,by omega,by omega,HRZ,hid fun i hi=>absurd hi (by omega),K3.out⟩
 case round =>
  clear HRZ K3
  obtain ⟨t,R,rfl,ht,htg,HR,HX,hBx⟩:=hrel
  have ht0:(0:Int)<=(t:Int):=by omega
  have K4:=hid hBx
  clear hBx
  by_cases htn:t<N'+1
  ·have htn':(t:Int)<((N':Nat):Int)+1:=by omega
   have htN:t<=N':=by omega
   obtain ⟨q0,q1,q2,q3,q4⟩:=HBOX.out _ K4.out
   go_wp2_with fail
   refine (ybn P' M' (fun i=>(f i).toNat) A k c N' TC n d (natT V) t wr (HC.out.on (onS HB.out K4.out)) htN).mono ?_
   rintro e w5 ⟨kb,r1,r2,rfl,h1,h2⟩
   clear q0 q1 q2 q3 q4
   have H1:=hid h1
   have H2:=hid h2
   have hl1:=h1.le
   have hl2:=h2.le
   have hrr:=zab HR.out kb
   have K5:=hid (onS K4.out kb)
   clear kb h1 h2
   obtain ⟨q0,q1,q2,q3,q4⟩:=HBOX.out _ K5.out
   have z1:=hrr.cell (i:=t) htn
   have z2:=hrr.frozen t
   have hrow2:=hrr.set t (.int .i64 ((r1:Int)+(r2:Int) - (n:Int)))
   have kb:=K5.out.setCell (p:=⟨g,t,none⟩) hg1 (.int .i64 ((r1:Int)+(r2:Int) - (n:Int)))
   obtain ⟨w6,hw6⟩:∃ W,W=w5.setCell ⟨g,t,none⟩ (.int .i64 ((r1:Int)+(r2:Int) - (n:Int))):=⟨_,rfl⟩
   rw [<-hw6] at hrow2 kb
   have HR2:Hid (w6.rowIs g 3 (N'+1) (fun i=>.int .i64 (if i=t then (r1:Int)+(r2:Int) - (n:Int) else R i))):=hid (hrow2.congr fun i _=>by
    by_cases e:i=t
    ·rw [if_pos e,if_pos e]
    ·rw [if_neg e,if_neg e])
   have HX2:Hid (∀ i,i<t+1->∃ r1' r2':Nat,(if i=t then (r1:Int)+(r2:Int) - (n:Int) else R i)=(r1':Int)+(r2':Int) - (n:Int)/\RankOf (P' ^ M') n i (addF P' M') (mulF P' M' fun i=>(f i).toNat) (natT V) (fun i=>i) r1'/\RankOf (P' ^ M') n (N' - i) (addF P' M') (mulF P' M' fun i=>(f i).toNat) (natT V) (fun j=>i+j) r2'):=hid fun i hi=>by
    by_cases e:i=t
    ·subst e
     exact ⟨r1,r2,by rw [if_pos rfl],H1.out,H2.out⟩
    ·rw [if_neg e]
     exact HX.out i (by omega)
   have K6:=hid kb
   have HW6:=hid hw6
   clear hrow2 kb hw6 hrr
   go_wp2
   rw [<-HW6.out]
   go_roundg (gk - 1)
   case measure=>omega
   case rel=>exact ⟨t+1,_,by go_num,by omega,by omega,HR2,HX2,K6.out⟩
  ·have htn':¬ (t:Int)<((N':Nat):Int)+1:=by omega
   obtain rfl:t=N'+1:=by omega
   go_wp2
   go_ret2
   exact ⟨onS HB.out K4.out,0,HU.out,.inr ⟨rfl,P',M',N',rfl,rfl,rfl,g,R,rfl,Nat.le_trans HB.out.size hg1,HR.out,fun t ht=>HX.out t (by omega)⟩⟩
section
variable {q k m:Nat} {add mul:Nat->Nat->Nat} {neg:Nat->Nat} {B:Nat->Nat->Nat} {p:Nat->Nat}
theorem Tri.solve (hL:FieldLaws q add mul) (hneg:∀ x,x<q->neg x<q/\add x (neg x)=0) (h:Tri q k m B p) {c0 y:Nat->Nat} (hc0:∀ j,c0 j<q) (hy:∀ s,s<m->y s<q) :
  ∃ c:Nat->Nat,(∀ j,c j<q)/\(∀ j,(∀ t,t<m->p t≠j)->c j=c0 j)/\∀ s,s<m->dotN add mul c (B s) k=y s:=by
 classical
 have hq:=hL.two
 have key:∀ d,d<=m->∃ c:Nat->Nat,(∀ j,c j<q)/\(∀ j,(∀ t,t<m->p t≠j)->c j=c0 j)/\(∀ t,t<m - d->c (p t)=0)/\∀ s,m - d<=s->s<m->dotN add mul c (B s) k=y s:=by
  intro d
  induction d with
  | zero =>
   intro _
   refine ⟨fun j=>if ∃ t,t<m/\p t=j then 0 else c0 j,fun j=>?_,fun j hj=>?_,fun t ht=>?_,fun s h1 h2=>absurd h2 (by omega)⟩
   ·show (if ∃ t,t<m/\p t=j then 0 else c0 j)<q
    split
    ·omega
    ·exact hc0 j
   ·exact if_neg fun ⟨t,ht,e⟩=>hj t ht e
   ·exact if_pos ⟨t,by omega,rfl⟩
  | succ d ih =>
   intro hd
   obtain ⟨c,g1,g2,g3,g4⟩:=ih (by omega)
   obtain ⟨s0,hs0⟩:∃ s0,s0=m - (d+1):=⟨_,rfl⟩
   have hs0m:s0<m:=by omega
   have hb:∀ s,s<m->∀ i,i<k->c i<q/\B s i<q:=fun s hs i hi=>⟨g1 i,h.lt s hs i hi⟩
   have hD:=zbc hL c (B s0) k
   obtain ⟨hn1,hn2⟩:=hneg _ hD
   obtain ⟨v,hv⟩:∃ v,v=add (y s0) (neg (dotN add mul c (B s0) k)):=⟨_,rfl⟩
   have hvq:v<q:=by rw [hv]; exact hL.addLt _ _
   have hc0':c (p s0)=0:=g3 s0 (by omega)
   have hup:=fun s hs=>zgn hL (c:=c) (b:=B s) (j:=p s0) (v:=v) hc0' hvq k (hb s hs)
   refine ⟨fun i=>if i=p s0 then v else c i,fun j=>?_,fun j hj=>?_,fun t ht=>?_,fun s h1 h2=>?_⟩
   ·show (if j=p s0 then v else c j)<q
    split
    ·exact hvq
    ·exact g1 j
   ·show (if j=p s0 then v else c j)=c0 j
    rw [if_neg fun e=>hj s0 hs0m e.symm]
    exact g2 j hj
   ·show (if p t=p s0 then v else c (p t))=0
    rw [if_neg (h.ne (by omega) hs0m)]
    exact g3 t (by omega)
   ·rw [hup s h2,if_pos (h.plt s0 hs0m)]
    by_cases e:s=s0
    ·subst e
     rw [h.one s hs0m,hL.mulComm _ _ hvq (by omega),hL.oneMul v hvq,hv,hL.addComm (y s),<-hL.addAssoc _ _ _ hD hn1 (hy s hs0m),hn2,hL.zeroAdd _ (hy s hs0m)]
    ·rw [h.zero s0 s (by omega) h2,hL.mulZero hvq,hL.addZero (zbc hL _ _ _)]
     exact g4 s (by omega) h2
 obtain ⟨c,g1,g2,_,g4⟩:=key m (Nat.le_refl _)
 exact ⟨c,g1,g2,fun s hs=>g4 s (by omega) hs⟩
end
section
variable {q k m n a:Nat} {add mul:Nat->Nat->Nat} {neg:Nat->Nat} {B:Nat->Nat->Nat} {p:Nat->Nat}
theorem yaB (hL:FieldLaws q add mul) (hneg:∀ x,x<q->neg x<q/\add x (neg x)=0) {c c' b:Nat->Nat} (hc:∀ j,j<k->c j<q) (hc':∀ j,j<k->c' j<q) (hb:∀ j,j<k->b j<q) :
  dotN add mul (fun j=>add (c j) (neg (c' j))) b k=0↔dotN add mul c b k=dotN add mul c' b k:=by
 have hq:=hL.two
 have e1:dotN add mul c b k=dotN add mul (fun j=>add (add (c j) (neg (c' j))) (c' j)) b k:=zbr k fun j hj=>⟨by
  obtain ⟨h1,h2⟩:=hneg _ (hc' j hj)
  rw [hL.addAssoc _ _ _ (hc j hj) h1 (hc' j hj),hL.addComm (neg (c' j)),h2,hL.addZero (hc j hj)],rfl⟩
 rw [zdu hL k fun j hj=>⟨hL.addLt _ _,hc' j hj,hb j hj⟩] at e1
 have hd:=zbc hL (fun j=>add (c j) (neg (c' j))) b k
 have hd':=zbc hL c' b k
 rw [e1]
 constructor
 ·intro h
  rw [h,hL.zeroAdd _ hd']
 ·intro h
  rw [hL.addComm] at h
  exact zem hL (x:=dotN add mul c' b k) hd' hd (by omega) (h.trans (hL.addZero hd').symm)
theorem ybx (hL:FieldLaws q add mul) (hneg:∀ x,x<q->neg x<q/\add x (neg x)=0) {V:Nat->Nat->Nat} {fc:Nat->Nat} (ht:Tri q n m B p) (hV:∀ t,t<a->∀ i,i<n->V i (fc t)<q)
  (hk:∀ c,(∀ j,j<n->c j<q)->(OrthU add mul V fc n a c↔KerB add mul n m B c)) {c c':Nat->Nat} (hc:∀ j,j<n->c j<q) (hc':∀ j,j<n->c' j<q) :
  (∀ t,t<a->dotN add mul c (fun j=>V j (fc t)) n=dotN add mul c' (fun j=>V j (fc t)) n)↔∀ s,s<m->dotN add mul c (B s) n=dotN add mul c' (B s) n:=by
 have h:=hk (fun j=>add (c j) (neg (c' j))) fun j _=>hL.addLt _ _
 constructor
 ·intro h1 s hs
  exact (yaB hL hneg hc hc' (ht.lt s hs)).1 (h.1 (fun t ht2=>(yaB hL hneg hc hc' (hV t ht2)).2 (h1 t ht2)) s hs)
 ·intro h1 t ht2
  exact (yaB hL hneg hc hc' (hV t ht2)).1 (h.2 (fun s hs=>(yaB hL hneg hc hc' (ht.lt s hs)).2 (h1 s hs)) t ht2)
theorem ybV (hq:0<q) [iA:Add (El q)] [iM:Mul (El q)] [iN:Neg (El q)] [i0:Zero (El q)] [i1:One (El q)] (O:OnEl q add mul) {L:List (El q)} (hn:L.Nodup) (hcL:∀ a,a ∈ L) (hL:FieldLaws q add mul) (hneg:∀ x,x<q->neg x<q/\add x (neg x)=0) {V:Nat->Nat->Nat} {fc:Nat->Nat} {T r:Nat}
  (hV:∀ i,i<n->∀ t,t<T->V i (fc t)<q) (h:RankOf q n T add mul V fc r) :
  cntW L T (Gen T n fun u=>wordK q hq T (fun j=>V u (fc j)))=((q ^ r:Nat):Rat):=by
 obtain ⟨B,p,ht,hk⟩:=h
 have hs:=fun i=>Tri.solve (neg:=neg) hL hneg ht (c0:=fun _=>0) (y:=msgD q r i) (fun _=>hq) (fun s _=>zdU hq)
 obtain ⟨sol,hsol⟩:∃ sol:Nat->Nat->Nat,∀ i,(∀ j,sol i j<q)/\∀ s,s<r->dotN add mul (sol i) (B s) n=msgD q r i s:=⟨fun i=>(hs i).choose,fun i=>⟨(hs i).choose_spec.1,(hs i).choose_spec.2.2⟩⟩
 have hcol:∀ (c:Nat->Nat) t,spE add mul (fun u j=>V u (fc j)) c n t=dotN add mul c (fun j=>V j (fc t)) n:=fun c t=>(zgo (V:=fun u j=>V u (fc j)) n).symm
 have hos:=fun (c c':Nat->Nat) (hc:∀ j,j<n->c j<q) (hc':∀ j,j<n->c' j<q)=>ybx (neg:=neg) hL hneg ht (fun t ht2 i hi=>hV i hi t ht2) hk hc hc'
 have d1:∀ i,i<q ^ r->(wordK q hq T (spE add mul (fun u j=>V u (fc j)) (sol i) n)).length=T:=fun i _=>zbx hq T _
 have d2:∀ i,i<q ^ r->Gen T n (fun u=>wordK q hq T (fun j=>V u (fc j))) (wordK q hq T (spE add mul (fun u j=>V u (fc j)) (sol i) n)):=fun i _ =>
  (zaG hq O.fie hL O.ha O.hm O.h0 (V:=fun u j=>V u (fc j)) hV fun j _=>zbb hL _ _ _).1 ⟨_,fun j _=>(hsol i).1 j,fun j _=>rfl⟩
 have d3:∀ i j,i<q ^ r->j<q ^ r->wordK q hq T (spE add mul (fun u j=>V u (fc j)) (sol i) n)=wordK q hq T (spE add mul (fun u j=>V u (fc j)) (sol j) n)->i=j:=fun i j hi hj e=>by
  have e2:=zeT hq (fun j _=>zbb hL _ _ _) (fun j _=>zbb hL _ _ _) e
  have e3:=(hos (sol i) (sol j) (fun t _=>(hsol i).1 t) (fun t _=>(hsol j).1 t)).1 fun t ht2=>by
   rw [<-hcol,<-hcol]
   exact e2 t ht2
  refine zgb hq hi hj fun t ht2=>?_
  have h1:=e3 (r - 1 - t) (by omega)
  rw [(hsol i).2 _ (by omega),(hsol j).2 _ (by omega)] at h1
  unfold msgD at h1
  rwa [show r - 1 - (r - 1 - t)=t by omega] at h1
 have d4:∀ x,x.length=T->Gen T n (fun u=>wordK q hq T (fun j=>V u (fc j))) x->∃ i,i<q ^ r/\wordK q hq T (spE add mul (fun u j=>V u (fc j)) (sol i) n)=x:=fun x _ hx=>by
  have ex:=zcs (U:=fun u j=>V u (fc j)) hq O hx
  rw [ex] at hx
  obtain ⟨c,h1,h2⟩:=(zaG hq O.fie hL O.ha O.hm O.h0 (V:=fun u j=>V u (fc j)) hV fun j _=>(ent x j).lt).2 hx
  obtain ⟨i,hi,h3⟩:=zi7 (n:=r) (c:=fun s=>dotN add mul c (B s) n) fun s _=>zbc hL _ _ _
  refine ⟨i,hi,?_⟩
  rw [ex]
  refine zb0 hq fun j hj=>?_
  rw [hcol]
  have e3:=(hos (sol i) c (fun t _=>(hsol i).1 t) h1).2 (fun s hs2=>by
   rw [(hsol i).2 s hs2]
   exact h3 s hs2) j hj
  rw [e3,<-hcol]
  exact (h2 j hj).symm
 unfold cntW
 rw [zga hn hcL d1 d2 d3 d4 (fun _=>(1:Rat)),zdK]
 simp
end
section
variable {q N n a:Nat} {add mul:Nat->Nat->Nat} {neg:Nat->Nat}
theorem ybG (hL:FieldLaws q add mul) (hneg:∀ x,x<q->neg x<q/\add x (neg x)=0) {V:Nat->Nat->Nat} {lo len r:Nat} (hV:∀ i,i<n->∀ j,j<N->V i j<q) (hlN:lo+len<=N)
  (h1:RankOf q n len add mul V (fun i=>lo+i) r) (h2:RankIs q add mul n V lo len a):r=a:=by
 classical
 have hq2:=hL.two
 have hq:0<q:=by omega
 obtain ⟨iA,iM,iN,i0,i1,F,hva,hvm,h0,h1'⟩:=zha hL
 have O:OnEl q add mul:=⟨F,hva,hvm,h0,h1'⟩
 obtain ⟨L,hLd⟩:∃ L:List (El q),L=(List.range q).map (toEl q hq):=⟨_,rfl⟩
 have hn:L.Nodup:=by
  rw [hLd]
  exact za6 List.nodup_range fun a ha b hb e=>zcC hq (List.mem_range.1 ha) (List.mem_range.1 hb) e
 have hc:∀ a,a ∈ L:=fun a=>by
  rw [hLd]
  exact List.mem_map.2 ⟨a.val,List.mem_range.2 a.lt,El.ext' (zat hq a.lt)⟩
 obtain ⟨p,W,hE,hR⟩:=h2
 have hVl:∀ i,i<n->∀ j,j<len->V i (lo+j)<q:=fun i hi j hj=>hV i hi _ (by omega)
 have e1:=ybV (V:=V) (fc:=fun i=>lo+i) (T:=len) hq O hn hc hL hneg hVl h1
 obtain ⟨hs,_⟩:=hR.sp hL hVl
 have hs2:=hE.sp_top hL
 have hsp:SameSp q add mul len n a (fun i j=>V i (lo+j)) W:=fun x=>(hs x).trans (hs2 x)
 obtain ⟨d1,d2,d3,d4⟩:=zgc (N:=len) (n:=a) (V:=W) hq O hL ⟨p,hE.top⟩
 have hg:=ziq (N:=len) hq O hL hVl hE.top.lt hsp
 have e:cntW L len (Gen len n fun u=>wordK q hq len (fun j=>V u (lo+j)))=sumM (fun x=>if Gen len a (fun u=>wordK q hq len (W u)) x then (fun _=>(1:Rat)) x else 0) (allW L len):=zfU fun x _=>by
  by_cases hx:Gen len a (fun u=>wordK q hq len (W u)) x
  ·rw [if_pos hx,if_pos ((hg x).2 hx)]
  ·rw [if_neg hx,if_neg (fun h=>hx ((hg x).1 h))]
 rw [e,zga hn hc d1 d2 d3 d4 (fun _=>(1:Rat)),zdK] at e1
 have e2:((q ^ a:Nat):Rat)=((q ^ r:Nat):Rat):=by
  rw [<-e1]
  simp
 have e3:q ^ a=q ^ r:=by exact_mod_cast e2
 have h5:=(Nat.pow_le_pow_iff_right (show 1<q by omega)).1 (Nat.le_of_eq e3)
 have h6:=(Nat.pow_le_pow_iff_right (show 1<q by omega)).1 (Nat.le_of_eq e3.symm)
 omega
end
section
variable {q n N a:Nat} {add mul:Nat->Nat->Nat} {neg:Nat->Nat} {pv:Nat->Nat} {R V H:Nat->Nat->Nat}
theorem ybo (hL:FieldLaws q add mul) (h:SpanF q n N pv R) {c d:Nat->Nat} (hc:∀ s,s<n->c s<q) (hd:∀ s,s<n->d s<q) {i:Nat} (he:∀ j,j<i->j<N->spE add mul R c n j=spE add mul R d n j) :
  ∀ m s,s<m->s<n->pv s<i->c s=d s:=by
 intro m
 induction m with
 | zero=>intro s hs; omega
 | succ m ih =>
  intro s hs hsn hp
  by_cases e:s<m
  ·exact ih s e hsn hp
  ·have e1:=he (pv s) hp (h.pvlt s hsn)
   have key:=zgu hL (R:=R) (c:=c) (c':=d) (j:=pv s) (s:=s) n hsn (fun t ht hne=>?_) e1
   ·rw [h.one s hsn,hL.mulOne (hc s hsn),hL.mulOne (hd s hsn)] at key
    exact key
   ·by_cases g:t<s
    ·rw [ih t (by omega) ht (by have:=h.inc t s g hsn; omega)]
    ·have:R t (pv s)=0:=h.low t ht _ (h.inc s t (by omega) ht)
     rw [this,hL.mulZero (hc t ht),hL.mulZero (hd t ht)]
theorem yby (hL:FieldLaws q add mul) (h:SpanF q n N pv R) (hdis:∀ i j,i<j->j<n->lE (R i) N≠lE (R j) N) {c d:Nat->Nat} (hc:∀ s,s<n->c s<q) (hd:∀ s,s<n->d s<q) {i:Nat} (he:∀ j,i<=j->j<N->spE add mul R c n j=spE add mul R d n j) :
  ∀ m s,N<=(lE (R s) N).toNat+m->s<n->(i:Int)<=lE (R s) N->c s=d s:=by
 intro m
 induction m with
 | zero =>
  intro s hs hsn _
  have:=ziJ (u:=R s) N
  have:=h.pos hsn
  omega
 | succ m ih =>
  intro s hs hsn hp
  have h1:=ziJ (u:=R s) N
  have h2:=zjm (u:=R s) N (lE (R s) N).toNat (by omega)
  have e1:=he (lE (R s) N).toNat (by omega) h2.1
  have key:=zgu hL (R:=R) (c:=c) (c':=d) (j:=(lE (R s) N).toNat) (s:=s) n hsn (fun t ht hne=>?_) e1
  ·exact zht hL (hc s hsn) (hd s hsn) (h.lt s hsn _ h2.1) h2.2 key
  ·have hdd:lE (R t) N≠lE (R s) N:=by
    rcases Nat.lt_or_ge t s with g | g
    ·exact hdis t s g hsn
    ·exact (hdis s t (by omega) ht).symm
   by_cases g:lE (R s) N<lE (R t) N
   ·rw [ih t (by omega) ht (by omega)]
   ·have:R t (lE (R s) N).toNat=0:=zb7 (n:=N) h2.1 (by omega)
    rw [this,hL.mulZero (hc t ht),hL.mulZero (hd t ht)]
def mixW (u u':Nat->Nat) (i j:Nat):Nat:=if j<i then u j else u' j
theorem ybW (hL:FieldLaws q add mul) (hneg:∀ x,x<q->neg x<q/\add x (neg x)=0) (hV:RrefN q n N V) (hp:NullRel q add mul neg n N V a H) {u u':Nat->Nat} (hu:InSp q add mul n N V u) (hu':InSp q add mul n N V u') {i:Nat} (hi:i<=N)
  (he:∀ k,k<a->dotN add mul u (H k) i=dotN add mul u' (H k) i):InSp q add mul n N V (mixW u u' i):=by
 have hlt:∀ j,j<N->mixW u u' i j<q:=fun j hj=>by
  unfold mixW
  split
  ·exact hu.lt hL hj
  ·exact hu'.lt hL hj
 refine (yay hL hneg hV hp hlt).2 fun k hk=>?_
 have h1:=(yay hL hneg hV hp (fun j hj=>hu'.lt hL hj)).1 hu' k hk
 have key:∀ m,dotN add mul (mixW u u' i) (H k) (i+m)=dotN add mul u' (H k) (i+m):=by
  intro m
  induction m with
  | zero =>
   rw [Nat.add_zero,<-he k hk]
   exact yal i fun j hj=>by unfold mixW; rw [if_pos hj]
  | succ m ih =>
   show add (dotN add mul (mixW u u' i) (H k) (i+m)) (mul (mixW u u' i (i+m)) (H k (i+m)))=add (dotN add mul u' (H k) (i+m)) (mul (u' (i+m)) (H k (i+m)))
   rw [ih]
   unfold mixW
   rw [if_neg (by omega)]
 have:=key (N - i)
 rw [show i+(N - i)=N by omega] at this
 rw [this,h1]
theorem Trel.path_syn {T:Trel} (hok:T.SynOk add mul H q a) {e:Nat->Nat} {nd:Nat->Int} {u:Nat->Nat} (h0:nd 0=0) (hp:∀ t,t<T.n->e t<T.el t/\T.fr t (e t)=nd t/\T.to t (e t)=nd (t+1)/\T.lb t (e t)=(u t:Int)) :
  ∀ i,i<=T.n->∀ k,k<a->T.syn add mul H i (nd i).toNat k=dotN add mul u (H k) i
 | 0,_,_,_=>rfl
 | i+1,hi,k,hk=>by
  obtain ⟨h1,h2,h3,h4⟩:=hp i (by omega)
  have ih:=Trel.path_syn hok h0 hp i (by omega) k hk
  show T.synL add mul H (T.syn add mul H i) i (T.el i) (nd (i+1)).toNat k=add (dotN add mul u (H k) i) (mul (u i) (H k i))
  rw [<-h3,Trel.syn_edge (T.el i) (fun e he=>hok i (by omega) e he) (e i) h1 k hk,<-ih]
  unfold Trel.synv
  rw [h2,h4,Int.toNat_natCast]
theorem yaR (hL:FieldLaws q add mul) (hneg:∀ x,x<q->neg x<q/\add x (neg x)=0) (hV:RrefN q n N V) (hp:NullRel q add mul neg n N V a H) (hsp:SameSp q add mul N n n V R) (h:SpanF q n N pv R) (hdis:∀ i j,i<j->j<n->lE (R i) N≠lE (R j) N)
  {c c':Nat->Nat} (hc:∀ s,s<n->c s<q) (hc':∀ s,s<n->c' s<q) {i k:Nat} (hi:i<=N) (he:∀ t,t<a->dotN add mul (spE add mul R c n) (H t) i=dotN add mul (spE add mul R c' n) (H t) i) (hj:∀ j,i<=j->j<k->j<N->spE add mul R c n j=spE add mul R c' n j) :
  ∀ s,s<n->pv s<k->(i:Int)<=lE (R s) N->c s=c' s:=by
 have hu:InSp q add mul n N V (spE add mul R c n):=(hsp _).2 ⟨c,hc,fun _ _=>rfl⟩
 have hu':InSp q add mul n N V (spE add mul R c' n):=(hsp _).2 ⟨c',hc',fun _ _=>rfl⟩
 obtain ⟨d,hd,hdx⟩:=(hsp _).1 (ybW hL hneg hV hp hu hu' hi he)
 intro s hs h1 h2
 have e1:c s=d s:=ybo hL h hc hd (i:=k) (fun j hjk hjN=>by
  rw [<-hdx j hjN]
  unfold mixW
  by_cases g:j<i
  ·rw [if_pos g]
  ·rw [if_neg g]; exact hj j (by omega) hjk hjN) (s+1) s (by omega) hs h1
 have e2:d s=c' s:=yby hL h hdis hd hc' (i:=i) (fun j hjk hjN=>by
  rw [<-hdx j hjN]
  unfold mixW
  rw [if_neg (by omega)]) N s (by omega) hs h2
 rw [e1,e2]
theorem yaH {T:Trel} (hL:FieldLaws q add mul) (hneg:∀ x,x<q->neg x<q/\add x (neg x)=0) (hTn:T.n=N) (hV:RrefN q n N V) (hp:NullRel q add mul neg n N V a H) (hsp:SameSp q add mul N n n V R) (h:SpanF q n N pv R) (hdis:∀ i j,i<j->j<n->lE (R i) N≠lE (R j) N)
  (hP:T.Proper) (hok:T.SynOk add mul H q a) (hz:∀ k,k<a->T.syn add mul H T.n 0 k=0) (hc:T.fwd (fun _ _=>1) T.n 0=q ^ n) :
  (∀ i,i<=N->((q ^ cntB (actA pv R N i) n:Nat):Int)<=T.W i)/\∀ i,i<N->q ^ cntB (actE pv R N i) n<=T.el i:=by
 subst hTn
 have hq:0<q:=by have:=hL.two; omega
 have hw:∀ c:Nat->Nat,∃ x:(Nat->Nat) × (Nat->Int),(∀ s,c s<q)->x.2 0=0/\∀ t,t<T.n->x.1 t<T.el t/\T.fr t (x.1 t)=x.2 t/\T.to t (x.1 t)=x.2 (t+1)/\T.lb t (x.1 t)=(spE add mul R c n t:Int):=fun c=>by
  by_cases g:∀ s,c s<q
  ·obtain ⟨e,nd,h0,_,h2⟩:=Trel.all_words hL hneg hV hp hP hok hz hc (u:=spE add mul R c n) ((hsp _).2 ⟨c,fun s _=>g s,fun _ _=>rfl⟩)
   exact ⟨(e,nd),fun _=>⟨h0,h2⟩⟩
  ·exact ⟨(fun _=>0,fun _=>0),fun k=>absurd k g⟩
 obtain ⟨X,hX⟩:=Classical.axiomOfChoice hw
 constructor
 ·intro i hi
  have hs:∀ y,∃ c:Nat->Nat,y<q ^ cntB (actA pv R T.n i) n->(∀ s,c s<q)/\packB q (actA pv R T.n i) c n=y:=fun y=>by
   by_cases g:y<q ^ cntB (actA pv R T.n i) n
   ·obtain ⟨c,h1,_,h2⟩:=zaN hq n y g
    exact ⟨c,fun _=>⟨h1,h2⟩⟩
   ·exact ⟨fun _=>0,fun k=>absurd k g⟩
  obtain ⟨S,hS⟩:=Classical.axiomOfChoice hs
  have hin:∀ y,y<q ^ cntB (actA pv R T.n i) n->0<=(X (S y)).2 i/\(X (S y)).2 i<T.W i:=fun y hy=>by
   obtain ⟨x0,x1⟩:=hX (S y) (hS y hy).1
   match i,hi with
   | 0,_=>rw [x0,hP.w0]; omega
   | i+1,hi =>
    obtain ⟨k1,_,k3,_⟩:=x1 i (by omega)
    have:=hP.shape.ins i (by omega) _ k1
    unfold Trel.inside at this
    rw [k3] at this
    omega
  have hnd:((List.range (q ^ cntB (actA pv R T.n i) n)).map fun y=>((X (S y)).2 i).toNat).Nodup:=za6 List.nodup_range fun y hy z hz e=>by
   have hy:=List.mem_range.1 hy
   have hz:=List.mem_range.1 hz
   obtain ⟨y0,y1⟩:=hX (S y) (hS y hy).1
   obtain ⟨z0,z1⟩:=hX (S z) (hS z hz).1
   have k1:=hin y hy
   have k2:=hin z hz
   have e:((X (S y)).2 i).toNat=((X (S z)).2 i).toNat:=e
   have e2:=yaR hL hneg hV hp hsp h hdis (c:=S y) (c':=S z) (fun s _=>(hS y hy).1 s) (fun s _=>(hS z hz).1 s) (k:=i) hi (fun t ht=>by
    rw [<-Trel.path_syn hok y0 y1 i hi t ht,<-Trel.path_syn hok z0 z1 i hi t ht,e]) (fun j h1 h2 _=>absurd h1 (by omega))
   have e3:=zbA (q:=q) (D:=actA pv R T.n i) (c:=S y) (c':=S z) n fun s hs hA=>e2 s hs ((zaQ i s).1 hA).1 ((zaQ i s).1 hA).2
   rw [(hS y hy).2,(hS z hz).2] at e3
   exact e3
  have:=zf8 (m:=List.range (T.W i).toNat) hnd fun x hx=>by
   obtain ⟨y,hy,rfl⟩:=List.mem_map.1 hx
   have k:=hin y (List.mem_range.1 hy)
   exact List.mem_range.2 (by omega)
  simp only [List.length_map,List.length_range] at this
  have hw1:=(hP.shape.wid hi).1
  omega
 ·intro i hi
  have hs:∀ y,∃ c:Nat->Nat,y<q ^ cntB (actE pv R T.n i) n->(∀ s,c s<q)/\packB q (actE pv R T.n i) c n=y:=fun y=>by
   by_cases g:y<q ^ cntB (actE pv R T.n i) n
   ·obtain ⟨c,h1,_,h2⟩:=zaN hq n y g
    exact ⟨c,fun _=>⟨h1,h2⟩⟩
   ·exact ⟨fun _=>0,fun k=>absurd k g⟩
  obtain ⟨S,hS⟩:=Classical.axiomOfChoice hs
  have hnd:((List.range (q ^ cntB (actE pv R T.n i) n)).map fun y=>(X (S y)).1 i).Nodup:=za6 List.nodup_range fun y hy z hz e=>by
   have hy:=List.mem_range.1 hy
   have hz:=List.mem_range.1 hz
   obtain ⟨y0,y1⟩:=hX (S y) (hS y hy).1
   obtain ⟨z0,z1⟩:=hX (S z) (hS z hz).1
   have e:(X (S y)).1 i=(X (S z)).1 i:=e
   obtain ⟨_,a2,_,a4⟩:=y1 i hi
   obtain ⟨_,b2,_,b4⟩:=z1 i hi
   rw [e] at a2 a4
   have e2:=yaR hL hneg hV hp hsp h hdis (c:=S y) (c':=S z) (fun s _=>(hS y hy).1 s) (fun s _=>(hS z hz).1 s) (k:=i+1) (Nat.le_of_lt hi) (fun t ht=>by
    rw [<-Trel.path_syn hok y0 y1 i (Nat.le_of_lt hi) t ht,<-Trel.path_syn hok z0 z1 i (Nat.le_of_lt hi) t ht,<-a2,<-b2]) (fun j h1 h2 _=>by
    obtain rfl:j=i:=by omega
    rw [a4] at b4
    omega)
   have e3:=zbA (q:=q) (D:=actE pv R T.n i) (c:=S y) (c':=S z) n fun s hs hA=>e2 s hs (by have:=((zbu i s).1 hA).1; omega) ((zbu i s).1 hA).2
   rw [(hS y hy).2,(hS z hz).2] at e3
   exact e3
  have:=zf8 (m:=List.range (T.el i)) hnd fun x hx=>by
   obtain ⟨y,hy,rfl⟩:=List.mem_map.1 hx
   exact List.mem_range.2 ((hX (S y) (hS y (List.mem_range.1 hy)).1).2 i hi).1
  simpa only [List.length_map,List.length_range] using this
end
section
variable {q n k:Nat} {add mul:Nat->Nat->Nat} {V:Nat->Nat->Nat}
theorem yaS (hL:FieldLaws q add mul) {c a:Nat} {p:Nat->Nat} (hck:c<k):∀ i,i<=n->∀ W,EchP q n k c a 0 p W->RowOps q add mul n k V W->∃ W',EchP q n k c a i p W'/\RowOps q add mul n k V W'
 | 0,_,W,h,hR=>⟨W,h,hR⟩
 | i + 1, hi, W, h, hR => by
  obtain ⟨W',h1,h2⟩:=yaS hL hck i (by omega) W h hR
  by_cases g:i=a∨W' i c=0
  ·exact ⟨W',h1.skip g,h2⟩
  ·have hia:i≠a:=fun e=>g (.inl e)
   obtain ⟨e,he,h0⟩:=hL.neg (W' i c) (h1.ech.lt i (by omega) c hck)
   exact ⟨_,h1.clear hL hck (by omega) hia he h0,h2.add (by omega) h1.lt hia he⟩
theorem yaI (hL:FieldLaws q add mul) (hV:∀ i,i<n->∀ j,j<k->V i j<q):∀ c,c<=k->∃ a p W,EchN q n k c a p W/\RowOps q add mul n k V W
 | 0,_=>⟨0,fun _=>0,V,EchN.start hV,RowOps.refl⟩
 | c + 1, hc => by
  obtain ⟨a,p,W,hE,hR⟩:=yaI hL hV c (by omega)
  by_cases hz:∀ i,a<=i->i<n->W i c=0
  ·exact ⟨a,p,W,hE.none hz,hR⟩
  ·have hex:∃ t,a<=t/\t<n/\W t c≠0:=by
    by_cases g:∃ t,a<=t/\t<n/\W t c≠0
    ·exact g
    ·exact absurd (fun i h1 h2=>by
      by_cases e:W i c=0
      ·exact e
      ·exact absurd ⟨i,h1,h2,e⟩ g) hz
   obtain ⟨t,h1,h2,h3⟩:=hex
   have ha:a<n:=by omega
   have hE1:=hE.swap h1 h2
   have hR1:=hR.swap (a:=a) (t:=t) ha h2
   obtain ⟨W1,hW1⟩:∃ W1,W1=fun u=>if u=a then W t else if u=t then W a else W u:=⟨_,rfl⟩
   rw [<-hW1] at hE1 hR1
   have hpv:W1 a c≠0:=by rw [hW1]; show (if a=a then W t else _) c≠0; rw [if_pos rfl]; exact h3
   have hlt:W1 a c<q:=hE1.lt a ha c (by omega)
   obtain ⟨d,hd,hd1⟩:=hL.inv (W1 a c) hlt hpv
   have hd2:mul d (W1 a c)=1:=by rw [hL.mulComm d _ hd hlt]; exact hd1
   have hd0:d≠0:=fun e=>by
    have h5:=hL.two
    rw [e,hL.mulZero hlt] at hd1
    omega
   obtain ⟨W2,h4,h5⟩:=yaS hL (show c<k by omega) n (Nat.le_refl n) _ (hE1.scale hL ha hd hd2) (hR1.scale ha hd hd0)
   exact ⟨a+1,_,W2,h4.done,h5⟩
theorem yam {N lo m:Nat} (hL:FieldLaws q add mul) (hV:∀ i,i<n->∀ j,j<N->V i j<q) (hm:lo+m<=N):∃ a,RankIs q add mul n V lo m a:=by
 obtain ⟨a,p,W,h1,h2⟩:=yaI (V:=fun i j=>V i (lo+j)) (k:=m) hL (fun i hi j hj=>hV i hi _ (by omega)) m (Nat.le_refl m)
 exact ⟨a,p,W,h1,h2⟩
end
theorem yas (P M:Int) (A:Option Addr) (k c:Nat) (f:Nat->Int) (N:Int) (TC:Option Addr) (n d:Nat) (ln:Nat->Nat) (V:Nat->Nat->Int) (T:Trel) (TA TB:Option Addr) (ca cb:Nat) (w:World) (hr:IntsR w w.heap.size A k f) (h:IntRows w TC n ln V) (hkc:k<=c) (hT:T.Reads w TA TB) :
  Calls Tryz.prog 12 #[.agg #[.int .i64 P,.int .i64 M,.slice A k c,.int .i64 N,.slice TC n d],.agg #[.slice TA T.nw ca,.slice TB T.n cb]] w fun e w'=>e=.returned (.bool true)/\Below w.heap.size w w':=by
 have HI:=hid hr
 have HT:=hid h
 have HR:=hid hT
 clear hr h hT
 have rf:=zai (w:=w) (a:=.int .i64 P) (b:=.int .i64 M) (c:=.slice A k c) (d:=.int .i64 N) (e:=.slice TC n d) (T := 27)
 have hB:Below w.heap.size w (w.alloc (.cells #[.int .i64 P,.int .i64 M,.slice A k c,.int .i64 N,.slice TC n d] 27)):=(Below.refl _ _).alloc (Nat.le_refl _) _
 obtain ⟨w1,hw1⟩:∃ W,W=w.alloc (.cells #[.int .i64 P,.int .i64 M,.slice A k c,.int .i64 N,.slice TC n d] 27):=⟨_,rfl⟩
 rw [<-hw1] at hB rf
 have rt:=zaB (w:=w1) (a:=.slice TA T.nw ca) (b:=.slice TB T.n cb) (T := 53)
 have kb:Below w1.heap.size w1 (w1.alloc (.cells #[.slice TA T.nw ca,.slice TB T.n cb] 53)):=(Below.refl _ _).alloc (Nat.le_refl _) _
 obtain ⟨w2,hw2⟩:∃ W,W=w1.alloc (.cells #[.slice TA T.nw ca,.slice TB T.n cb] 53):=⟨_,rfl⟩
 rw [<-hw2] at kb rt;replace rf:=zab rf kb;replace hB:=onS hB kb
 have hsz1:w1.heap.size=w.heap.size+1:=by rw [hw1]; simp
 rw [hsz1] at rt
 go_enter Tryz.func12, Tryz.ntmps12
 go_upto_region 1 with fail
 rw [<-hw1,<-hw2];clear hw1 hw2 kb hsz1
 obtain ⟨b0,hb0⟩:∃ b,b=w.heap.size:=⟨_,rfl⟩
 obtain ⟨b1,hb1⟩:∃ b,b=w.heap.size+1:=⟨_,rfl⟩
 rw [<-hb0] at rf;rw [<-hb1] at rt;rw [<-hb1,<-hb0];clear hb0 hb1
 have HBOX:Hid (∀ X,Below w2.heap.size w2 X->(X.cell? ⟨b0,0,none⟩=some (.int .i64 P)/\X.cell? ⟨b0,1,none⟩=some (.int .i64 M)/\X.cell? ⟨b0,2,none⟩=some (.slice A k c)/\X.cell? ⟨b0,3,none⟩=some (.int .i64 N)/\X.cell? ⟨b0,4,none⟩=some (.slice TC n d))):=hid fun X hx =>
  ⟨(zab rf hx).cell (i:=0) (by omega),(zab rf hx).cell (i:=1) (by omega),(zab rf hx).cell (i:=2) (by omega),(zab rf hx).cell (i:=3) (by omega),(zab rf hx).cell (i:=4) (by omega)⟩
 have HTX:Hid (∀ X,Below w2.heap.size w2 X->(X.cell? ⟨b1,0,none⟩=some (.slice TA T.nw ca)/\X.cell? ⟨b1,1,none⟩=some (.slice TB T.n cb))):=hid fun X hx=>⟨(zab rt hx).cell (i:=0) (by omega),(zab rt hx).cell (i:=1) (by omega)⟩
 have HB:=hid hB
 clear hB rf rt
 go_wp2_with fail
 refine (zc2 _).mono ?_
 rintro e w3 ⟨rfl,kb⟩
 have KB:=hid kb
 clear kb
 obtain ⟨p0,p1⟩:=HTX.out _ KB.out
 go_wp2_with fail
 refine (ybN T TA TB ca cb 3000 (by omega) w3 (HR.out.on (onS HB.out KB.out))).mono ?_
 rintro e w4 ⟨⟨r,rfl⟩,kb⟩
 replace KB:=hid (onS KB.out kb);clear kb p0 p1
 cases r with
 | false =>
  go_wp2
  go_ret
  exact ⟨rfl,onS HB.out KB.out⟩
 | true =>
  obtain ⟨q0,q1,q2,q3,q4⟩:=HBOX.out _ KB.out
  go_wp2_with fail
  refine (zfx P M A k c f N TC n d ln V w4 (HI.out.on (onS HB.out KB.out)) (HT.out.on (onS HB.out KB.out))).mono ?_
  rintro e w5 ⟨kb,b,rfl,_⟩
  replace KB:=hid (onS KB.out kb);clear kb q0 q1 q2 q3 q4
  cases b with
  | false =>
   go_wp2
   go_ret
   exact ⟨rfl,onS HB.out KB.out⟩
  | true =>
   obtain ⟨q0,q1,q2,q3,q4⟩:=HBOX.out _ KB.out
   obtain ⟨p0,p1⟩:=HTX.out _ KB.out
   go_wp2_with fail
   refine (ybk P M A k c f N TC n d ln V T TA TB ca cb w5 (HI.out.on (onS HB.out KB.out)) (HT.out.on (onS HB.out KB.out)) hkc (HR.out.on (onS HB.out KB.out))).mono ?_
   rintro e w6 ⟨v,rfl,hv,kb⟩
   have HV:=hid hv
   replace KB:=hid (onS KB.out kb);clear kb hv q0 q1 q2 q3 q4 p0 p1
   by_cases hv0:v=0
   rotate_left
   ·have hnz:(v != 0)=true:=by simpa using hv0
    go_wp2
    go_ret
    exact ⟨rfl,onS HB.out KB.out⟩
   subst hv0
   have hzz:((0:Int) != 0)=false:=by simp
   rcases HV.out with ⟨h0,_⟩ | ⟨hU,⟨h0,h1⟩ | ⟨hPE,P',M',N',rfl,rfl,rfl,⟨_,h1⟩ | ⟨hTn,a,H,hrel,_,hiff⟩⟩⟩
   ·exact absurd rfl h0
   ·exact absurd h1.symm h0
   ·omega
   have hTr:=hiff.1 rfl
   have HU:=hid hU
   obtain ⟨P2,M2,N2,e1,e2,e3,hC⟩:=zb5 HI.out HT.out HU.out
   obtain rfl:P'=P2:=by omega
   obtain rfl:M'=M2:=by omega
   obtain rfl:N'=N2:=by omega
   have HC:=hid hC
   have hN64:=hC.ln2
   have HTn:=hid hTn
   have HTP:=hid (Trel.proper_of hPE)
   have hTw:T.nw=N'+1:=by rw [HTP.out.shape.nw,hTn]
   have HTw:=hid hTw
   have HREL:=hid hrel
   have HTR:=hid hTr
   clear hU hC e1 e2 e3 hTn hTw hrel hTr hiff HV hPE
   obtain ⟨q0,q1,q2,q3,q4⟩:=HBOX.out _ KB.out
   go_wp2_with fail
   refine (ya1 (P':Int) (M':Int) A k c f (N':Int) TC n d ln V w6 (HI.out.on (onS HB.out KB.out)) (HT.out.on (onS HB.out KB.out))).mono ?_
   rintro e w7 ⟨kb,u,hu,he⟩
   obtain rfl:u=0:=FirstErr.unique hu HU.out
   rcases he with ⟨h0,_⟩ | ⟨_,P2,M2,N2,e1,e2,e3,g,R,rfl,_,hrow,hrk⟩
   ·exact absurd rfl h0
   obtain rfl:P'=P2:=by omega
   obtain rfl:M'=M2:=by omega
   obtain rfl:N'=N2:=by omega
   have HRK:=hid hrk
   have HRA:Hid (IntsR w7 w7.heap.size (some ⟨g,0,none⟩) (N'+1) R):=hid (zaH hrow)
   replace KB:=hid (onS KB.out kb);clear kb hu hrow hrk e1 e2 e3 q0 q1 q2 q3 q4
   obtain ⟨q0,q1,q2,q3,q4⟩:=HBOX.out _ KB.out
   go_wp2_with fail
   refine (zfw (P':Int) (M':Int) A k c f (N':Int) TC n d ln V w7 (HI.out.on (onS HB.out KB.out)) (HT.out.on (onS HB.out KB.out))).mono ?_
   rintro e w8 ⟨kb,u,hu,he⟩
   obtain rfl:u=0:=FirstErr.unique hu HU.out
   have hmin:∃ (WA WB:Option Addr) (mw wc mn wd:Nat) (ev:Int) (pv:Nat->Nat) (RR:Nat->Nat->Nat),e=.returned (.tuple #[.agg #[.slice WA mw wc,.slice WB mn wd],.int .i64 ev])/\SpanF (P' ^ M') n N' pv RR/\SameSp (P' ^ M') (addF P' M') (mulF P' M' fun i=>(f i).toNat) N' n n (natT V) RR/\(∀ i j,i<j->j<n->lE (RR i) N'≠lE (RR j) N') /\
     (ev=8∨(ev=0/\mn=N'/\∃ U:Trel,U.Reads w8 WA WB/\U.n=N'/\∀ i,i<N'->U.el i=(P' ^ M') ^ cntB (actE pv RR N' i) n)):=by
    rcases he with ⟨hu0,_⟩ | ⟨_,P2,M2,N2,hP2,hM2,hN2,pv,RR,hSF,hSP,hDI,⟨_,h⟩ | ⟨_,S,y,WA,WB,wc,wd,hMT,hPR,hRE,hOUT,h⟩⟩
    ·exact absurd rfl hu0
    ·obtain rfl:P'=P2:=by omega
     obtain rfl:M'=M2:=by omega
     obtain rfl:N'=N2:=by omega
     exact ⟨_,_,_,_,_,_,_,pv,RR,h,hSF,hSP,hDI,.inl rfl⟩
    ·obtain rfl:P'=P2:=by omega
     obtain rfl:M'=M2:=by omega
     obtain rfl:N'=N2:=by omega
     exact ⟨_,_,_,_,_,_,_,pv,RR,h,hSF,hSP,hDI,.inr ⟨rfl,hMT.nN,S.re y,(hOUT.reads hPR hRE).1,hMT.nN,hMT.el⟩⟩
   obtain ⟨WA,WB,mw,wc,mn,wd,ev,pv,RR,rfl,hSF,hSP,hDI,hmin⟩:=hmin
   have hL:=fieldLaws HC.out.fld
   have hneg:∀ x,x<P' ^ M'->negF P' M' x<P' ^ M'/\addF P' M' x (negF P' M' x)=0:=fun x _=>⟨zbp (by have:=HC.out.fld.1.1; omega),za4 (by have:=HC.out.fld.1.1; omega)⟩
   have hVl:=HC.out.lt
   obtain ⟨hWl,hEl⟩:=yaH hL hneg HTn.out HC.out.rref HREL.out hSP hSF hDI HTP.out HTR.out.1 HTR.out.2.1 HTR.out.2.2
   obtain ⟨q,hq⟩:∃ q,q=P' ^ M':=⟨_,rfl⟩
   have hq2:2<=q:=by rw [hq]; exact hL.two
   have hq256:q<=256:=by rw [hq]; exact HC.out.fld.1.2.2.2
   have HQ:=hid hq
   obtain ⟨D,hD⟩:∃ D:Nat->Nat,D=fun i=>cntB (actA pv RR N' i) n:=⟨_,rfl⟩
   have HRD:Hid (∀ t,t<N'+1->R t=(D t:Int)):=hid fun t ht=>by
    obtain ⟨r1,r2,e1,h1,h2⟩:=HRK.out t (by omega)
    obtain ⟨x1,hx1⟩:=yam (lo:=0) (m:=t) hL hVl (by omega)
    obtain ⟨x2,hx2⟩:=yam (lo:=t) (m:=N' - t) hL hVl (by omega)
    have e:(fun i:Nat=>0+i)=fun i=>i:=by funext i; omega
    obtain rfl:=ybG hL hneg hVl (lo:=0) (len:=t) (by omega) (by rw [e]; exact h1) hx1
    obtain rfl:=ybG hL hneg hVl (lo:=t) (len:=N' - t) (by omega) h2 hx2
    have h3:=SpanF.prof hL hSF hVl hSP hDI (i:=t) (by omega) hx1 hx2
    rw [e1,hD]
    show (r1:Int)+(r2:Int) - (n:Int)=((cntB (actA pv RR N' t) n:Nat):Int)
    omega
   have HDN:Hid (∀ t,D t<=64):=hid fun t=>by
    have h1:=zhY (actA pv RR N' t) n
    have h2:=HC.out.n_le
    rw [hD]
    show cntB (actA pv RR N' t) n<=64
    omega
   have HWD:Hid (∀ t,t<N'+1->((q ^ D t:Nat):Int)<=T.W t/\q ^ D t<=65536):=hid fun t ht=>by
    have h1:=hWl t (by omega)
    have h2:=HTP.out.shape.wid (i:=t) (by rw [HTn.out]; omega)
    rw [hq,hD]
    exact ⟨h1,Int.ofNat_le.1 (Int.le_trans h1 h2.2)⟩
   have HMIN:Hid (ev=8∨(ev=0/\mn=N'/\∃ U:Trel,U.Reads w8 WA WB/\U.n=N'/\∀ i,i<N'->U.el i<=T.el i)):=hid (by
    rcases hmin with h1 | ⟨h1,h2,U,h3,h4,h5⟩
    ·exact .inl h1
    ·exact .inr ⟨h1,h2,U,h3,h4,fun i hi=>by rw [h5 i hi]; exact hEl i hi⟩)
   replace HRA:=hid (HRA.out.on kb);replace KB:=hid (onS KB.out kb);clear kb hu he hSF hSP hDI hmin hL hneg hVl hWl hEl hD hq HRK HREL HTR q0 q1 q2 q3 q4
   go_upto_region 7 with fail
   have rd:=World.rowIs_alloc w8 #[Value.slice WA mw wc,Value.slice WB mn wd] 53 (fun j=>if j=0 then .slice WA mw wc else .slice WB mn wd) (fun j hj=>by
    match j,hj with
    | 0,_=>rfl
    | 1,_=>rfl)
   have kb:Below w8.heap.size w8 (w8.alloc (Obj.cells #[Value.slice WA mw wc,Value.slice WB mn wd] 53)):=(Below.refl _ _).alloc (Nat.le_refl _) _
   obtain ⟨w9,hw9⟩:∃ W,W=w8.alloc (Obj.cells #[Value.slice WA mw wc,Value.slice WB mn wd] 53):=⟨_,rfl⟩
   rw [<-hw9] at rd kb ⊢
   obtain ⟨tb,htb⟩:∃ b,b=w8.heap.size:=⟨_,rfl⟩
   rw [<-htb] at rd ⊢
   have HTB:Hid (∀ X,Below w9.heap.size w9 X->X.cell? ⟨tb,1,none⟩=some (.slice WB mn wd)):=hid fun X hx=>by
    have:=(zab rd hx).cell (i:=1) (by simp)
    rwa [if_neg (by omega)] at this
   replace HRA:=hid (HRA.out.on kb);replace KB:=hid (onS KB.out kb)
   have HMIN9:Hid (ev=8∨(ev=0/\mn=N'/\∃ U:Trel,U.Reads w9 WA WB/\U.n=N'/\∀ i,i<N'->U.el i<=T.el i)):=hid (by
    rcases HMIN.out with h1 | ⟨h1,h2,U,h3,h4,h5⟩
    ·exact .inl h1
    ·exact .inr ⟨h1,h2,U,h3.on kb,h4,h5⟩)
   clear kb rd hw9 htb HMIN
   have HORD:Hid (ordV (P':Int) (M':Int)=(q:Int)):=hid (by rw [HQ.out]; exact zbI HC.out.fld.1)
   obtain ⟨q0,q1,q2,q3,q4⟩:=HBOX.out _ KB.out
   obtain ⟨p0,p1⟩:=HTX.out _ KB.out
   rw [HTw.out] at p0;rw [HTn.out] at p1
   have hnn:(((N':Int)+1) != ((N':Int)+1))=false:=by simp
   have hnm:((N':Int) != (N':Int))=false:=by simp
   go_upto_region 10 with fail
   clear q0 q1 q2 q3 q4 p0 p1
   go_loopg [9] (N'+1) (fun gg iv wx=>∃ i:Nat,iv=.int .i64 (i:Nat)/\i<=N'+1/\N'+1<=i+gg/\Below w9.heap.size w9 wx)
   case atStart=>exact ⟨0,rfl,by omega,by omega,Below.refl _ _⟩
   case round =>
    obtain ⟨i,rfl,hi,hig,hBx⟩:=hrel
    have hi0:(0:Int)<=(i:Int):=by omega
    have K2:=hid hBx
    obtain ⟨w11,hw11⟩:∃ X,X=wr:=⟨_,rfl⟩
    subst hw11
    clear hBx
    obtain ⟨q0,q1,q2,q3,q4⟩:=HBOX.out _ (onS KB.out K2.out)
    by_cases hin:i<N'+1
    ·have hin':(i:Int)<=(N':Int):=by omega
     have hin1:(i:Int)<(N':Int)+1:=by omega
     obtain ⟨Di,hDi⟩:∃ Di,Di=D i:=⟨_,rfl⟩
     have HRI:Hid (R i=(Di:Int)):=hid (by rw [hDi]; exact HRD.out i hin)
     have HWI:Hid (((q ^ Di:Nat):Int)<=T.W i/\q ^ Di<=65536):=hid (by rw [hDi]; exact HWD.out i hin)
     have hDl:Di<=64:=by rw [hDi]; exact HDN.out i
     clear hDi
     obtain ⟨gO,hgO⟩:∃ y,y=gk:=⟨_,rfl⟩
     subst hgO
     go_upto_region 14 with fail
     clear q0 q1 q2 q3 q4
     go_loopg [10,11] Di (fun gg nv kv wx=>∃ k m:Nat,kv=.int .i64 (k:Nat)/\nv=.int .i64 (m:Nat)/\k<=Di/\Di<=k+gg/\Hid (m=q ^ k)/\m<=65536/\Below w9.heap.size w9 wx)
     case atStart=>exact ⟨0,1,rfl,rfl,by omega,by omega,hid rfl,by omega,K2.out⟩
     case round =>
      clear K2
      obtain ⟨kk,m,rfl,rfl,hk,hkg,HM,hm,hBx⟩:=hrel
      have K2:=hid hBx
      obtain ⟨w12,hw12⟩:∃ X,X=wr:=⟨_,rfl⟩
      subst hw12
      clear hBx
      obtain ⟨gb,go,hge,_,e0⟩:=(HRA.out.on K2.out).at hin
      injection hge with hge
      injection hge with hg1 hg2
      subst hg1 hg2
      rw [HRI.out,Nat.zero_add] at e0
      by_cases hkD:kk<Di
      ·have hkD':(kk:Int)<(Di:Int):=by omega
       have hkd:decide ((kk:Int)<(Di:Int))=true:=by simp; omega
       have hmd:decide ((m:Int)<=65536)=true:=by simp; omega
       have hm':(m:Int)<=65536:=by omega
       have HM2:Hid (m*q=q ^ (kk+1)):=hid (by rw [HM.out,Nat.pow_succ])
       have hml:m*q<=65536:=by
        rw [HM2.out]
        exact Nat.le_trans (Nat.pow_le_pow_right (by omega) hkD) HWI.out.2
       have hmi:(m:Int)*(q:Int)=((m*q:Nat):Int):=by push_cast; rfl
       have hmq0:0<=(m:Int)*(q:Int):=by rw [hmi]; omega
       have hmq1:(m:Int)*(q:Int)<=65536:=by rw [hmi]; omega
       have HMI:=hid hmi
       clear hmi
       obtain ⟨q0,q1,q2,q3,q4⟩:=HBOX.out _ (onS KB.out K2.out)
       go_wp2_with fail
       refine (zbv (P':Int) (M':Int) A k c w12).mono ?_
       rintro e w13 ⟨he,kb⟩
       rw [HORD.out] at he
       subst he
       have K3:=hid (onS K2.out kb)
       clear kb q0 q1 q2 q3 q4
       go_wp2
       go_roundg (gk - 1)
       case measure=>omega
       case rel=>exact ⟨kk+1,m*q,by go_num,by rw [<-HMI.out],by omega,by omega,HM2,hml,K3.out⟩
      ·have hkD':¬ (kk:Int)<(Di:Int):=by omega
       have hkd:decide ((kk:Int)<(Di:Int))=false:=by simp; omega
       obtain rfl:Di=kk:=by omega
       obtain ⟨p0,p1⟩:=HTX.out _ (onS KB.out K2.out)
       rw [HTw.out] at p0
       obtain ⟨wb,wo,hwe,_,x0,_⟩:=(HR.out.on (onS HB.out (onS KB.out K2.out))).width (i:=i) (by rw [HTw.out]; exact hin)
       subst hwe
       obtain ⟨Wi,hWi⟩:∃ W,W=T.W i:=⟨_,rfl⟩
       rw [<-hWi] at x0
       have hge2:¬ (Wi<(m:Int)):=by
        have h1:=HWI.out.1
        have h2:=HM.out
        rw [hWi]
        omega
       have hged:decide (Wi<(m:Int))=false:=by simp; omega
       clear hWi
       go_wp2
       go_roundg (gO - 1)
       case measure=>omega
       case rel=>exact ⟨i+1,by go_num,by omega,by omega,K2.out⟩
    ·have hin':¬ (i:Int)<=(N':Int):=by omega
     rcases HMIN9.out with rfl | ⟨rfl,hmn,U,hUR,hUn,hUE⟩
     ·have h8:((8:Int) != 0)=true:=by simp
      have h88:((8:Int) == 8)=true:=by simp
      go_wp2
      go_ret
      exact ⟨rfl,onS HB.out (onS KB.out K2.out)⟩
     ·have HUR:=hid hUR
      have HUn:=hid hUn
      have HUE:=hid hUE
      clear hUR hUn hUE
      have hmn2:N'=mn:=hmn.symm
      clear hmn
      subst hmn2
      go_upto_region 22 with fail
      clear q0 q1 q2 q3 q4
      go_loopg [12] N' (fun gg iv wx=>∃ i:Nat,iv=.int .i64 (i:Nat)/\i<=N'/\N'<=i+gg/\Below w9.heap.size w9 wx)
      case atStart=>exact ⟨0,rfl,by omega,by omega,K2.out⟩
      case round =>
       clear K2
       obtain ⟨j,rfl,hj,hjg,hBx⟩:=hrel
       have hj0:(0:Int)<=(j:Int):=by omega
       have K2:=hid hBx
       obtain ⟨w12,hw12⟩:∃ X,X=wr:=⟨_,rfl⟩
       subst hw12
       clear hBx
       obtain ⟨q0,q1,q2,q3,q4⟩:=HBOX.out _ (onS KB.out K2.out)
       by_cases hjn:j<N'
       ·have hjn':(j:Int)<(N':Int):=by omega
        have t1:=HTB.out _ K2.out
        obtain ⟨p0,p1⟩:=HTX.out _ (onS KB.out K2.out)
        rw [HTn.out] at p1
        obtain ⟨sb,so,SE,sc,hse,_,s0,_⟩:=(HR.out.on (onS HB.out (onS KB.out K2.out))).sec (i:=j) (by rw [HTn.out]; exact hjn)
        obtain ⟨ub,uo,UE,uc,hue,_,u0,_⟩:=(HUR.out.on K2.out).sec (i:=j) (by rw [HUn.out]; exact hjn)
        rw [hse] at p1;rw [hue] at t1
        have hle:=HUE.out j hjn
        obtain ⟨te,hte⟩:∃ x,x=T.el j:=⟨_,rfl⟩
        obtain ⟨ue,hue2⟩:∃ x,x=U.el j:=⟨_,rfl⟩
        rw [<-hte,<-hue2] at hle;rw [<-hte] at s0;rw [<-hue2] at u0;clear hte hue2 hse hue p0
        have hgd:decide ((j:Int) ≥ (N':Int))=false:=by simp; omega
        have hgd':¬ (j:Int) ≥ (N':Int):=by omega
        have hld:decide ((te:Int)<(ue:Int))=false:=by simp; omega
        have hld':¬ (te:Int)<(ue:Int):=by omega
        go_upto_region 24 with fail
        clear q0 q1 q2 q3 q4
        refine wp_region_held_drew (S:=fun X=>X.cell? ⟨tb,1,none⟩=some (.slice (some ⟨ub,uo,none⟩) N' wd)/\X.cell? ⟨b1,1,none⟩=some (.slice (some ⟨sb,so,none⟩) N' cb)/\X.cell? ⟨sb,so+j,none⟩=some (.slice SE te sc)/\X.cell? ⟨ub,uo+j,none⟩=some (.slice UE ue uc)) (by kernel_rfl) ⟨cellS (Below.refl _ _).drew t1,cellS (Below.refl _ _).drew p1,cellS (Below.refl _ _).drew s0,cellS (Below.refl _ _).drew u0⟩ (fun hHeld=>?_)
        obtain ⟨w13,hw⟩:∃ W,W=World.drew w12:=⟨_,rfl⟩
        have kb:Below w12.heap.size w12 w13:=by rw [hw]; exact (Below.refl _ _).drew
        rw [<-hw] at hHeld ⊢;clear hw t1 p1 s0 u0
        have K3:=hid (onS K2.out kb)
        clear kb
        refine tkq 0 (h:=tkq 1 (h:=tkq 2 (h:=tkq 3 (h:=tkq 4 (h:=tkq 5 (h:=tkq 6 (h:=tkq 7 (h:=tkq 8 (h:=tkq 9 (h:=tkq 10 (h:=tkq 11 (h:=tkq 12 (h:=tkq 13 (h:=tkq 14 (h:=tkq 15 (h:=tkq 16 (h:=tkq 17 (h:=tkq 18 (h:=tkq 19 (h:=?_))))))))))))))))))))
        refine wpAnyH_done (by kernel_rfl) ?_ _
        clear hHeld
        go_wp2
        go_roundg (gk - 1)
        case measure=>omega
        case rel=>exact ⟨j+1,by go_num,by omega,by omega,K3.out⟩
       ·have hjn':¬ (j:Int)<(N':Int):=by omega
        go_wp2
        go_ret
        exact ⟨rfl,onS HB.out (onS KB.out K2.out)⟩
theorem trellisLeast_law {H:Type} {enc:TypeId × Value->H} {w:World} {cs cs2:Array Value}
  (h:Sees enc Tryz.prog w 0 (fun _=>true) true 27 cs.toList) (h2:SeesW enc Tryz.prog w 0 (fun _=>true) true 53 cs2.toList) :
  Calls Tryz.prog 12 #[.agg cs,.agg cs2] w fun e w'=>e=.returned (.bool true)/\Below w.heap.size w w':=by
 obtain ⟨cs⟩:=cs
 obtain ⟨cs2⟩:=cs2
 obtain ⟨P,M,A,k,c1,N,T1,n,d,f,ln,V,rfl,_,_,hkc,_,_,_,hr,ht⟩:=zhH h
 obtain ⟨T,TA,TB,ca,cb,rfl,hT,_⟩:=ybv h2
 exact yas P M A k c1 f N T1 n d ln V T TA TB ca cb w hr ht hkc hT
end Go.Proofs.YtgekjfpapmlndaaGreat