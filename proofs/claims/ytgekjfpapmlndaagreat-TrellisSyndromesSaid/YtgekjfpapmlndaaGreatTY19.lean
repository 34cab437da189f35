/- Merged texts of a claim: FsWalk, FromS, MinLaw. -/
import Derived.Test.YtgekjfpapmlndaaGreatTY18
namespace Go.Proofs.YtgekjfpapmlndaaGreat
set_option maxRecDepth 100000
set_option maxHeartbeats 32000000
open KA KB KC KD KE KF
open Go.RowKit Go.ChangeShapes Go.WideShapes Go.ChangeAt
theorem zeZ {w:World} {b m m2:Nat} {t e:TypeId} {F G:Nat->Value} (h:w.rowIs b t m F) (h2:w.rowIs b e m2 G) (hne:t≠e):False:=by
 obtain ⟨cs,h1,_⟩:=h
 obtain ⟨cs2,h3,_⟩:=h2
 rw [h1] at h3
 simp only [Option.some.injEq,Obj.cells.injEq] at h3
 exact hne h3.2.1
def AtP (base:Nat) (w:World) (g mw k:Nat) (F:Nat->Value) (r:Nat) (K:Nat->Nat->Nat):Prop:=w.rowIs g 22 mw F/\∀ t,t<k->RowV base w (F t) r (fun j=>((K t j:Nat):Int))
section
variable {base:Nat} {w w':World} {g mw k r:Nat} {F:Nat->Value} {K:Nat->Nat->Nat}
theorem AtP.on (h:AtP base w g mw k F r K) (hb:Below w.heap.size w w'):AtP base w' g mw k F r K:=⟨zaa h.1 hb,fun t ht=>(h.2 t ht).on hb⟩
theorem AtP.mono {b':Nat} (h:AtP base w g mw k F r K) (hb:b'<=base):AtP b' w g mw k F r K:=⟨h.1,fun t ht=>(h.2 t ht).mono hb⟩
theorem AtP.put {K':Nat->Nat->Nat} (h:AtP base w g mw k F r K) {v:Value} (hv:RowV base w v r (fun j=>((K' k j:Nat):Int))) (e:∀ t,t<k->K t=K' t):AtP base (w.setCell ⟨g,k,none⟩ v) g mw (k+1) (fun t=>if t=k then v else F t) r K':=by
 refine ⟨h.1.set k v,fun t ht=>?_⟩
 by_cases e1:t=k
 ·subst e1
  simp only [if_true]
  exact hv.setCell h.1 (by decide) v
 simp only [if_neg e1]
 rw [<-e t (by omega)]
 exact (h.2 t (by omega)).setCell h.1 (by decide) v
theorem AtP.other (h:AtP base w g mw k F r K) {b m2 i:Nat} {t:TypeId} {F2:Nat->Value} (hr:w.rowIs b t m2 F2) (hne:t ≠ 3) (hbg:b≠g) (v:Value):AtP base (w.setCell ⟨b,i,none⟩ v) g mw k F r K :=
 ⟨h.1.setOther (a:=⟨b,i,none⟩) (by simpa using hbg.symm) v,fun t ht=>(h.2 t ht).setCell hr hne v⟩
theorem zjl {e s n:Nat} {v z:Value} {f:Nat->Nat->Value} (h:Own w base e s v n f) (hz:∀ q,z.ownBlock=some q->q<base):v.ownBlock=none∨v.ownBlock≠z.ownBlock:=by
 cases hv:v.ownBlock with
 | none=>exact .inl rfl
 | some q =>
  refine .inr fun e=>?_
  have h1:=(h.lt q hv).1
  have h2:=hz q e.symm
  omega
theorem AtP.grown (h:AtP base w g mw k F r K) {n base':Nat} {z:Value} {f:Nat->Nat->Value} (ho:Own w base' 3 1 z n f) (hz:∀ q,z.ownBlock=some q->q<base) (hg:w.grownBy w' z.ownBlock):AtP base w' g mw k F r K :=
 ⟨h.1.of_block (hg.block g h.1.lt fun e=>zae h.1 ho (by decide) e.symm),fun t ht=>⟨(h.2 t ht).1.kept hg (zjl (h.2 t ht).1 hz),(h.2 t ht).2⟩⟩
theorem LTabO.grown {v:Value} {L:List (List Int)} (h:LTabO w base v r L) {n base':Nat} {z:Value} {f:Nat->Nat->Value} (ho:Own w base' 3 1 z n f) (hz:∀ q,z.ownBlock=some q->q<base) (hg:w.grownBy w' z.ownBlock):LTabO w' base v r L:=by
 obtain ⟨R,h1,h2⟩:=h
 exact ⟨R,h1.kept hg (za4 (ho.mono (Nat.zero_le _)) (h1.mono (Nat.zero_le _)) (by decide)),fun t ht=>⟨(h2 t ht).1.kept hg (zjl (h2 t ht).1 hz),(h2 t ht).2⟩⟩
end
section
variable {base:Nat} {w w':World} {g mw k r:Nat} {F:Nat->Value} {K:Nat->Nat->Nat}
theorem AtP.keptE (h:AtP base w g mw k F r K) {n base' s:Nat} {e:TypeId} {z:Value} {f:Nat->Nat->Value} (ho:Own w base' e s z n f) (h1:e ≠ 3) (h2 : 22 ≠ e) (hg:w.grownBy w' z.ownBlock):AtP base w' g mw k F r K :=
 ⟨h.1.of_block (hg.block g h.1.lt fun e=>zae h.1 ho h2 e.symm),fun t ht=>⟨(h.2 t ht).1.kept hg (za4 (ho.mono (Nat.zero_le _)) ((h.2 t ht).1.mono (Nat.zero_le _)) h1),(h.2 t ht).2⟩⟩
theorem LTabO.keptE {v:Value} {L:List (List Int)} (h:LTabO w base v r L) {n base' s:Nat} {e:TypeId} {z:Value} {f:Nat->Nat->Value} (ho:Own w base' e s z n f) (h1:e ≠ 3) (h2 : 22 ≠ e) (hg:w.grownBy w' z.ownBlock):LTabO w' base v r L:=by
 obtain ⟨R,k1,k2⟩:=h
 exact ⟨R,k1.kept hg (za4 (ho.mono (Nat.zero_le _)) (k1.mono (Nat.zero_le _)) (Ne.symm h2)),fun t ht=>⟨(k2 t ht).1.kept hg (za4 (ho.mono (Nat.zero_le _)) ((k2 t ht).1.mono (Nat.zero_le _)) h1),(k2 t ht).2⟩⟩
end
theorem ETab.keptI {w w':World} {base n:Nat} {v:Value} {el:Nat->Nat} {y:Nat->Nat->Int × Int × Int} (h:ETab w base v n el y) {m base':Nat} {z:Value} {f:Nat->Nat->Value} (ho:Own w base' 3 1 z m f) (hg:w.grownBy w' z.ownBlock):ETab w' base v n el y:=by
 obtain ⟨R,h1,h2⟩:=h
 exact ⟨R,h1.kept hg (za4 (ho.mono (Nat.zero_le _)) (h1.mono (Nat.zero_le _)) (by decide)),fun i hi=>(h2 i hi).kept hg (za4 (ho.mono (Nat.zero_le _)) ((h2 i hi).mono (Nat.zero_le _)) (by decide))⟩
def updL (f:Nat->List (List Int)) (k:Nat) (L:List (List Int)) (j:Nat):List (List Int):=if j=k then L else f j
theorem zbf {f:Nat->List (List Int)} {k:Nat} {L:List (List Int)}:updL f k L k=L:=if_pos rfl
theorem zbY {f:Nat->List (List Int)} {k j:Nat} {L:List (List Int)} (h:j≠k):updL f k L j=f j:=if_neg h
structure StT (w:World) (g m i:Nat) (F:Nat->Value) (r:Nat) (St:Nat->List (List Int)):Prop where
 row:w.rowIs g 25 m F
 tab:LTabO w 0 (F i) r (St i)
 no:∀ j,i<j->j<m->F j=.slice none 0 0
theorem StT.on {w w':World} {g m i r:Nat} {F:Nat->Value} {St:Nat->List (List Int)} (h:StT w g m i F r St) (hb:Below w.heap.size w w'):StT w' g m i F r St:=⟨zaa h.row hb,h.tab.on hb,h.no⟩
theorem zdm {base:Nat} {w:World} {b r:Nat} {f:Nat->Int} (h:w.rowIs b 3 r (fun j=>.int .i64 (f j))) (hb:base<=b) (hr:r<=1048576) (hf:∀ j,j<r -> -9223372036854775808<=f j/\f j<=9223372036854775807):RowV base w (.slice (some ⟨b,0,none⟩) r r) r f :=
 ⟨zaI h hb (by unfold maxLen; omega),hf⟩
def edT (L:List (List Int)) (j:Nat):Int × Int × Int:=((L.getD j []).getD 0 0,(L.getD j []).getD 1 0,(L.getD j []).getD 2 0)
def trE (Tr:Nat->List (List Int)) (i j:Nat):Int × Int × Int:=edT (Tr i) j
noncomputable def trip (r:Nat) (A B:List (List Int)) (x y:List Int) (a:Nat):List Int:=[((posOf r A x:Nat):Int),((a:Nat):Int),((posOf r B y:Nat):Int)]
theorem FsRel.next {r mw i:Nat} {key:Nat->Nat->List Int} {wd:Nat->Nat->Nat} {St Tr:Nat->List (List Int)} {L LT:List (List Int)} (h:FsRel r mw key wd i St Tr) (hL:SetL r L (fun l=>∃ t,t<mw/\l=key t (i+1)))
  (hT:SetL 3 LT (fun l=>∃ s,s<mw/\l=trip r (St i) L (key s i) (key s (i+1)) (wd s i))):FsRel r mw key wd (i+1) (updL St (i+1) L) (updL Tr i LT):=by
 refine ⟨fun j hj=>?_,fun j hj=>?_⟩
 ·by_cases e:j=i+1
  ·subst e
   rw [zbf]
   exact hL
  ·rw [zbY e]
   exact h.st j (by omega)
 by_cases e:j=i
 ·subst e
  rw [zbf,zbY (by omega:j≠j+1),zbf]
  exact hT
 ·rw [zbY e,zbY (by omega:j≠i+1),zbY (by omega:j+1≠i+1)]
  exact h.tr j (by omega)
theorem FsRel.in64 {r mw N:Nat} {key:Nat->Nat->List Int} {wd:Nat->Nat->Nat} {St Tr:Nat->List (List Int)} (h:FsRel r mw key wd N St Tr) (hl:∀ j,j<=N->(St j).length<=1048576) (hw:∀ t i,wd t i<256) {i:Nat} (hi:i<N) {j:Nat} (hj:j<(Tr i).length) :
  InI64 ((fsT N St Tr).fr i j)/\InI64 ((fsT N St Tr).lb i j)/\InI64 ((fsT N St Tr).to i j):=by
 obtain ⟨t,ht,e⟩:=(h.tr i hi).mem j hj
 have h1:=((h.st i (by omega)).posOf_lt (x:=key t i) ⟨t,ht,rfl⟩).1
 have h2:=((h.st (i+1) (by omega)).posOf_lt (x:=key t (i+1)) ⟨t,ht,rfl⟩).1
 have h3:=hl i (by omega)
 have h4:=hl (i+1) (by omega)
 have h5:=hw t i
 show InI64 (((Tr i).getD j []).getD 0 0)/\InI64 (((Tr i).getD j []).getD 1 0)/\InI64 (((Tr i).getD j []).getD 2 0)
 rw [e]
 show InI64 ((posOf r (St i) (key t i):Nat):Int)/\InI64 ((wd t i:Nat):Int)/\InI64 ((posOf r (St (i+1)) (key t (i+1)):Nat):Int)
 unfold InI64
 omega
structure FsAll (B r mw N i gA gS ob:Nat) (S:Nat->Nat->Nat->Nat) (wd:Nat->Nat->Nat) (F FS:Nat->Value) (WV EV:Value) (St Tr:Nat->List (List Int)) (w:World):Prop where
 at_:AtP 0 w gA mw mw F r (fun t=>S t i)
 st:StT w gS (N+1) i FS r St
 box:w.rowIs ob 53 2 (matCell WV EV)
 wid:Own w B 3 1 WV (i+1) (fun k _=>.int .i64 ((St k).length:Nat))
 sec:ETab w B EV i (fun j=>(Tr j).length) (trE Tr)
 rel:FsRel r mw (fun t i=>keyS r (S t i)) wd i St Tr
 lenS:∀ j,j<=i->(St j).length<=mw
 lenT:∀ j,j<i->(Tr j).length<=mw
 big:B<=gA
structure FsMid (B Q r mw N i kf ks gA gF gS ob:Nat) (S:Nat->Nat->Nat->Nat) (F FF FS:Nat->Value) (WV EV:Value) (St Tr:Nat->List (List Int)) (L:List (List Int)) (w:World):Prop where
 at_:AtP 0 w gA mw mw F r (fun t=>S t i)
 af:AtP Q w gF mw kf FF r (fun t=>S t (i+1))
 row:w.rowIs gS 25 (N+1) FS
 tab:LTabO w 0 (FS i) r (St i)
 new:LTabO w Q (FS (i+1)) r L
 no:∀ j,i+1<j->j<N+1->FS j=.slice none 0 0
 apart:(FS i).ownBlock≠some gF
 apart':(FS (i+1)).ownBlock≠some gF
 box:w.rowIs ob 53 2 (matCell WV EV)
 wid:Own w B 3 1 WV (i+1) (fun k _=>.int .i64 ((St k).length:Nat))
 old:∀ q,WV.ownBlock=some q->q<Q
 sec:ETab w B EV i (fun j=>(Tr j).length) (trE Tr)
 set:SetL r L (fun l=>∃ t,t<ks/\l=keyS r (S t (i+1)))
 len:L.length<=ks
 bigF:B<=gF
 ne:gA≠gF
section
variable {B Q r mw N i kf ks gA gF gS ob:Nat} {S:Nat->Nat->Nat->Nat} {F FF FS:Nat->Value} {WV EV:Value} {St Tr:Nat->List (List Int)} {L:List (List Int)} {w w':World}
theorem FsMid.on (h:FsMid B Q r mw N i kf ks gA gF gS ob S F FF FS WV EV St Tr L w) (hb:Below w.heap.size w w'):FsMid B Q r mw N i kf ks gA gF gS ob S F FF FS WV EV St Tr L w' :=
 ⟨h.at_.on hb,h.af.on hb,zaa h.row hb,h.tab.on hb,h.new.on hb,h.no,h.apart,h.apart',zaa h.box hb,h.wid.on hb,h.old,h.sec.on hb,h.set,h.len,h.bigF,h.ne⟩
theorem FsMid.putF (h:FsMid B Q r mw N i kf ks gA gF gS ob S F FF FS WV EV St Tr L w) {v:Value} (hv:RowV Q w v r (fun j=>((S kf (i+1) j:Nat):Int))) (hS:gS≠gF) (hO:ob≠gF) :
  FsMid B Q r mw N i (kf+1) ks gA gF gS ob S F (fun t=>if t=kf then v else FF t) FS WV EV St Tr L (w.setCell ⟨gF,kf,none⟩ v) :=
 ⟨h.at_.other h.af.1 (by decide) h.ne.symm v,h.af.put hv (fun _ _=>rfl),h.row.setOther (a:=⟨gF,kf,none⟩) (by simpa using hS) v,h.tab.setCell h.af.1 (by decide) h.apart v,h.new.setCell h.af.1 (by decide) h.apart' v,h.no,h.apart,h.apart',
  h.box.setOther (a:=⟨gF,kf,none⟩) (by simpa using hO) v,h.wid.setCell (a:=⟨gF,kf,none⟩) (zae h.af.1 h.wid (by decide)) v,h.old,h.sec.setCell h.af.1 (by decide) (by decide) v,h.set,h.len,h.bigF,h.ne⟩
theorem FsMid.putS (h:FsMid B Q r mw N i kf ks gA gF gS ob S F FF FS WV EV St Tr L w) {v:Value} {L':List (List Int)} (hv:LTabO w Q v r L') (hap:v.ownBlock≠some gF) (hset:SetL r L' (fun l=>∃ t,t<ks+1/\l=keyS r (S t (i+1)))) (hlen:L'.length<=ks+1) (hSA:gS≠gA) (hS:gS≠gF) (hO:ob≠gS) :
  FsMid B Q r mw N i kf (ks+1) gA gF gS ob S F FF (fun j=>if j=i+1 then v else FS j) WV EV St Tr L' (w.setCell ⟨gS,i+1,none⟩ v):=by
 have b:∀ {base:Nat} {u:Value} {r':Nat} {L1:List (List Int)},LTabO w base u r' L1->u.ownBlock≠some gS:=fun h1=>zae h.row h1.choose_spec.1 (by decide)
 refine ⟨h.at_.other h.row (by decide) hSA v,h.af.other h.row (by decide) hS v,h.row.set (i+1) v,?_,?_,fun j h1 h2=>?_,?_,?_,h.box.setOther (a:=⟨gS,i+1,none⟩) (by simpa using hO) v,
  h.wid.setCell (a:=⟨gS,i+1,none⟩) (zae h.row h.wid (by decide)) v,h.old,h.sec.setCell h.row (by decide) (by decide) v,hset,hlen,h.bigF,h.ne⟩
 ·rw [if_neg (by omega)]
  exact h.tab.setCell h.row (by decide) (b h.tab) v
 ·rw [if_pos rfl]
  exact hv.setCell h.row (by decide) (b hv) v
 ·rw [if_neg (by omega)]
  exact h.no j h1 h2
 ·rw [if_neg (by omega)]
  exact h.apart
 ·rw [if_pos rfl]
  exact hap
end
def FsPost (P M:Nat) (m:Nat->Nat) (N n:Nat) (V:Nat->Nat->Nat) (w:World) (e:Ending) (w':World):Prop :=
 Below w.heap.size w w'/\∃ r H St Tr A B c d,NullRel (P ^ M) (addF P M) (mulF P M m) (negF P M) n N V r H /\
  FsRel r ((P ^ M) ^ n) (fun t i=>keyS r (syP P M m (spE (addF P M) (mulF P M m) V (msgD (P ^ M) n t) n) H i)) (fun t=>spE (addF P M) (mulF P M m) V (msgD (P ^ M) n t) n) N St Tr /\
  e=.returned (.agg #[.slice A (N+1) c,.slice B N d])/\(fsT N St Tr).Reads w' A B
theorem ziW (P M:Nat) (m:Nat->Nat) (A:Option Addr) (k c N:Nat) (TC:Option Addr) (n d:Nat) (V:Nat->Nat->Nat) (w:World) (h:CodeR w P M m A k N TC n V) (hsz:(P ^ M) ^ n<=1024) :
  Calls Tryz.prog 35 #[.agg #[.int .i64 (P:Nat),.int .i64 (M:Nat),.slice A k c,.int .i64 (N:Nat),.slice TC n d]] w (FsPost P M m N n V w):=by
 have HC:=hid h
 have i1:=h.ln1
 have gv:=h.ln2
 have hr:=h.n_le
 have HL:=hid (fieldLaws h.fld)
 have hm:=HL.out.two
 have O:=h.fld.1.2.2.2
 clear h
 have rf:=zaZ (w:=w) (a:=.int .i64 (P:Nat)) (b:=.int .i64 (M:Nat)) (c:=.slice A k c) (d:=.int .i64 (N:Nat)) (e:=.slice TC n d) (T := 27)
 have hB:=aly w (.cells #[.int .i64 (P:Nat),.int .i64 (M:Nat),.slice A k c,.int .i64 (N:Nat),.slice TC n d] 27)
 have bh:(w.alloc (.cells #[.int .i64 (P:Nat),.int .i64 (M:Nat),.slice A k c,.int .i64 (N:Nat),.slice TC n d] 27)).heap.size=w.heap.size+1:=by simp
 obtain ⟨w0,dt⟩:=exx (w.alloc (.cells #[.int .i64 (P:Nat),.int .i64 (M:Nat),.slice A k c,.int .i64 (N:Nat),.slice TC n d] 27))
 have ro:=zai (w:=w0) (a:=.slice none 0 0) (b:=.slice none 0 0) (T := 53)
 have kb:=aly w0 (.cells #[.slice none 0 0,.slice none 0 0] 53)
 have bg:(w0.alloc (.cells #[.slice none 0 0,.slice none 0 0] 53)).heap.size=w0.heap.size+1:=by simp
 obtain ⟨w1,ds⟩:=exx (w0.alloc (.cells #[.slice none 0 0,.slice none 0 0] 53))
 rw [<-dt] at hB rf bh;rw [<-ds] at ro kb bg;rw [bh] at ro bg;replace rf:=zaa rf kb;replace hB:=onS hB kb
 go_enter Tryz.func35, Tryz.ntmps35
 go_upto_region 1 with fail
 rw [<-dt,<-ds];clear dt ds kb bh
 obtain ⟨b0,er⟩:=exx w.heap.size
 obtain ⟨rb,dy⟩:=exx (w.heap.size+1)
 have ep:b0<w1.heap.size:=by omega
 have g1:Hid (w.heap.size<=rb/\rb<w1.heap.size):=hid (by omega)
 rw [<-er] at rf;rw [<-dy] at ro;rw [<-dy,<-er];clear er dy bg
 have E:Hid (∀ X,Below w1.heap.size w1 X->(X.cell? ⟨b0,0,none⟩=some (.int .i64 (P:Nat))/\X.cell? ⟨b0,1,none⟩=some (.int .i64 (M:Nat))/\X.cell? ⟨b0,2,none⟩=some (.slice A k c)/\X.cell? ⟨b0,3,none⟩=some (.int .i64 (N:Nat))/\X.cell? ⟨b0,4,none⟩=some (.slice TC n d))):=hid fun X hx =>
  ⟨(zaa rf hx).cell (i:=0) (by omega),(zaa rf hx).cell (i:=1) (by omega),(zaa rf hx).cell (i:=2) (by omega),(zaa rf hx).cell (i:=3) (by omega),(zaa rf hx).cell (i:=4) (by omega)⟩
 have ha:=hid ro
 have HB:=hid hB
 clear hB rf ro ep
 obtain ⟨q0,q1,q2,q3,q4⟩:=E.out _ (Below.refl _ _)
 go_wp2_with fail
 refine (zgk P M m A k c N TC n d V w1 (HC.out.on HB.out) (by omega)).mono ?_
 rintro e w2 ⟨lv,rfl,hM,kb⟩
 obtain ⟨LA,lc,gh⟩:=hM.shape
 subst gh
 obtain ⟨mw,da⟩:∃ mw,mw=(P ^ M) ^ n:=⟨_,rfl⟩
 have e7:1<=mw:=by rw [da]; exact Nat.pow_pos (by omega)
 obtain ⟨WD,dc⟩:∃ WD:Nat->Nat->Nat,WD=fun t=>spE (addF P M) (mulF P M m) V (msgD (P ^ M) n t) n:=⟨_,rfl⟩
 have cq:Hid (∀ t j,WD t j<P ^ M):=hid fun t j=>by rw [dc]; exact za0 HL.out _ _ _
 have e8:=hM.rd O (fun i _ j _=>za0 HL.out _ _ _)
 rw [<-da] at hsz e8 ⊢
 have hd:=hid da
 have b2:Hid (IntRows w2 LA mw (fun _=>N) (fun t j=>((WD t j:Nat):Int))):=hid (by rw [dc]; exact e8)
 have f2:=hid dc
 have K2:=hid kb
 clear kb hM e8 da dc q0 q1 q2 q3 q4
 go_upto_region 2 with fail
 refine wp_region_held_drew (S:=fun X=>(X.cell? ⟨b0,0,none⟩=some (.int .i64 (P:Nat))/\X.cell? ⟨b0,1,none⟩=some (.int .i64 (M:Nat))/\X.cell? ⟨b0,2,none⟩=some (.slice A k c)/\X.cell? ⟨b0,3,none⟩=some (.int .i64 (N:Nat))/\X.cell? ⟨b0,4,none⟩=some (.slice TC n d))) (by kernel_rfl) (E.out _ (onS K2.out (Below.refl _ _).drew)) (fun hHeld=>?_)
 obtain ⟨w3,hw,kb⟩:=dwx w2
 rw [<-hw] at hHeld ⊢;clear hw;replace b2:=hid (b2.out.on kb);replace K2:=hid (onS K2.out kb);clear kb
 refine tkq 0 (h:=tkq 2 (h:=tkq 3 (h:=?_)))
 clear hHeld
 refine rdq 1 (h:=fun K hK=>?_)
 go_simp
 go_wp2_with fail
 refine (zhf P M m A k c N TC n d V w3 (HC.out.on (onS HB.out K2.out))).mono ?_
 rintro e w4 ⟨pv,r,H,rfl,hT,kb,hrel⟩
 obtain ⟨PA,pc,ge⟩:=hT.shape
 subst ge
 have ch:∀ x,x<P ^ M->negF P M x<P ^ M/\addF P M x (negF P M x)=0:=fun x _=>⟨zbv (by have:=HC.out.fld.1.1; omega),zbn (by have:=HC.out.fld.1.1; omega)⟩
 have gq:=hrel.count HL.out ch HC.out.rref
 have ey:∀ i,i<r->∀ j,j<N->H i j<P ^ M:=hrel.rref.choose_spec.lt
 have g6:=hid ey
 have f6:=hid hrel
 have g4:=hid (hT.rd O ey)
 replace K2:=hid (onS K2.out kb);replace b2:=hid (b2.out.on kb);clear kb hT hrel ey ch
 refine bkq hK (E.out _ K2.out) (h:=fun hHeld=>?_)
 clear hK K hHeld
 refine rdq 4 (h:=fun K hK=>?_)
 go_simp
 go_wp2_with fail
 refine (zhH PA r N pc H w4 g4.out (by omega) (by omega)).mono ?_
 rintro e w5 ⟨hv,rfl,hT,kb⟩
 obtain ⟨HA,i0,gl⟩:=hT.shape
 subst gl
 have hh:Hid (IntRows w5 HA N (fun _=>r) (fun i j=>((H j i:Nat):Int))):=hid (hT.rd (q:=P ^ M) O fun i hi j hj=>g6.out j hj i hi)
 replace K2:=hid (onS K2.out kb);replace b2:=hid (b2.out.on kb);clear kb hT g4
 refine bkq hK (E.out _ K2.out) (h:=fun hHeld=>?_)
 clear hK K
 refine tkq 5 (h:=?_)
 clear hHeld
 refine wpAnyH_done (by kernel_rfl) ?_ _
 have c8:IntKind.i64.wrap ((N:Int)+1)=(N:Int)+1:=IntWalk.i64_in _ (by omega)
 have bw:IntKind.i64.wrap ((N:Int) - (n:Int))=((r:Nat):Int):=by rw [IntWalk.i64_in _ (by omega)]; omega
 have bl:=fun W=>zaf (P:=Tryz.prog) 119 25 _ 24 Tryz.underlying119 Tryz.infoTabs rfl ((N:Int)+1) (by omega) (by omega) (by omega) W
 have a3:=fun W=>zaf (P:=Tryz.prog) 25 22 _ 24 Tryz.underlying25 Tryz.infoInts rfl (mw:Int) (by omega) (by omega) (by omega) W
 have Z:=fun W=>zaf (P:=Tryz.prog) 22 3 _ 8 Tryz.underlying22 Tryz.infoInt rfl (r:Int) (by omega) (by omega) (by omega) W
 simp only [Int.toNat_natCast,show ((N:Int)+1).toNat=N+1 by omega] at bl a3 Z
 have he:=hid bl
 have cx:=hid a3
 have cw:=hid Z
 have h7:=hid c8
 have cp:=hid bw
 clear a3 Z bw
 obtain ⟨q0,q1,q2,q3,q4⟩:=E.out _ K2.out
 go_upto_region 4 with fail
 clear q0 q1 q2 q3 q4 bl c8
 have rz:World.rowIs (World.alloc w5 (Obj.cells (madeCells #[Value.slice none 0 0] (N+1)) 25)) w5.heap.size 25 (N+1) (fun _=>.slice none 0 0):=World.rowIs_made _ (.slice none 0 0) (N+1) 25
 have kb:=aly w5 (Obj.cells (madeCells #[Value.slice none 0 0] (N+1)) 25)
 obtain ⟨w6,c9⟩:=exx (World.alloc w5 (Obj.cells (madeCells #[Value.slice none 0 0] (N+1)) 25))
 rw [<-c9] at rz kb ⊢;clear c9
 obtain ⟨gS,fi⟩:=exx w5.heap.size
 rw [<-fi] at rz ⊢
 have g7:Hid (w5.heap.size<=gS):=hid (by omega)
 have ar:=hid rz
 have K6:=hid kb
 clear rz kb fi
 have a3:=cx.out
 go_upto_region 5 with fail
 clear a3
 have rz:World.rowIs (World.alloc w6 (Obj.cells (madeCells #[Value.slice none 0 0] mw) 22)) w6.heap.size 22 mw (fun _=>.slice none 0 0):=World.rowIs_made _ (.slice none 0 0) mw 22
 have kb:=aly w6 (Obj.cells (madeCells #[Value.slice none 0 0] mw) 22)
 obtain ⟨w7,c9⟩:=exx (World.alloc w6 (Obj.cells (madeCells #[Value.slice none 0 0] mw) 22))
 rw [<-c9] at rz kb ⊢;clear c9
 obtain ⟨gA,fl⟩:=exx w6.heap.size
 rw [<-fl] at rz ⊢
 have fc:Hid (w5.heap.size<=gA):=hid (by have:=K6.out.size; omega)
 have bc:Hid (AtP 0 w7 gA mw 0 (fun _=>.slice none 0 0) r (fun t=>syP P M m (WD t) H 0)):=hid ⟨rz,fun t ht=>absurd ht (by omega)⟩
 have fb:Hid (gS≠gA):=hid (by have:=ar.out.lt; omega)
 replace ar:=hid (zaa ar.out kb);replace K6:=hid (onS K6.out kb);clear rz kb fl
 go_upto_region 6 with fail
 go_loopg [8] mw (fun gg iv wx=>∃ (t:Nat) (F:Nat->Value),iv=.int .i64 (t:Nat)/\t<=mw/\mw<=t+gg/\Hid (AtP 0 wx gA mw t F r (fun t=>syP P M m (WD t) H 0))/\Hid (wx.rowIs gS 25 (N+1) (fun _=>.slice none 0 0))/\Hid (Below w5.heap.size w5 wx))
 case atStart=>exact ⟨0,_,rfl,by omega,by omega,bc,ar,K6⟩
 clear bc ar K6
 obtain ⟨t,F,rfl,ht,d8,bc,ar,K6⟩:=hrel
 have d9:(0:Int)<=(t:Int):=by omega
 obtain ⟨w8,g9⟩:=exx wr
 subst g9
 by_cases bx:t<mw
 ·have ci:(t:Int)<(mw:Int):=by omega
  obtain ⟨q0,q1,q2,q3,q4⟩:=E.out _ (onS K2.out K6.out)
  have Z:=cw.out
  have bw:=cp.out
  have kb:=aly w8 (Obj.cells (madeCells #[Value.int .i64 0] r) 3)
  have rz:World.rowIs (World.alloc w8 (Obj.cells (madeCells #[Value.int .i64 0] r) 3)) w8.heap.size 3 r (fun _=>.int .i64 0):=World.rowIs_made _ (.int .i64 0) r 3
  have c0:=(bc.out.on kb).1.cell bx
  have z0:=(bc.out.on kb).1.frozen t
  go_upto_region 7 with fail
  clear q0 q1 q2 q3 q4 c0 z0 Z bw
  have a8:RowV 0 (World.alloc w8 (Obj.cells (madeCells #[Value.int .i64 0] r) 3)) (.slice (some ⟨w8.heap.size,0,none⟩) r r) r (fun j=>((syP P M m (WD t) H 0 j:Nat):Int)):=zdm rz (Nat.zero_le _) (by omega) fun j _=>by
   show (-9223372036854775808:Int)<=((0:Nat):Int)/\((0:Nat):Int)<=9223372036854775807
   omega
  have hn:=(bc.out.on kb).put (K':=fun t=>syP P M m (WD t) H 0) a8 (fun _ _=>rfl)
  have hs:=(zaa ar.out kb).setOther (a:=⟨gA,t,none⟩) (by simpa using fb.out) (.slice (some ⟨w8.heap.size,0,none⟩) r r)
  have k9:=(onS K6.out kb).setCell (p:=⟨gA,t,none⟩) fc.out (.slice (some ⟨w8.heap.size,0,none⟩) r r)
  obtain ⟨w9,hw⟩:=exx ((World.alloc w8 (Obj.cells (madeCells #[Value.int .i64 0] r) 3)).setCell ⟨gA,t,none⟩ (.slice (some ⟨w8.heap.size,0,none⟩) r r))
  rw [<-hw] at hn hs k9 ⊢
  have HN:=hid hn
  have h9:=hid hs
  have K9:=hid k9
  clear hw hn hs k9 a8 rz kb
  go_wp2
  go_roundg (gk - 1)
  case measure=>omega
  case rel=>exact ⟨t+1,_,by go_num,by omega,by omega,HN,h9,K9⟩
 have ci:¬ (t:Int)<(mw:Int):=by omega
 obtain rfl:mw=t:=by omega
 obtain ⟨q0,q1,q2,q3,q4⟩:=E.out _ (onS K2.out K6.out)
 have Z:=cw.out
 have bw:=cp.out
 have kb:=aly w8 (Obj.cells (madeCells #[Value.int .i64 0] r) 3)
 have rz:World.rowIs (World.alloc w8 (Obj.cells (madeCells #[Value.int .i64 0] r) 3)) w8.heap.size 3 r (fun _=>.int .i64 0):=World.rowIs_made _ (.int .i64 0) r 3
 have bf:(World.alloc w8 (Obj.cells (madeCells #[Value.int .i64 0] r) 3)).heap.size=w8.heap.size+1:=by simp
 obtain ⟨w9,d7⟩:=exx (World.alloc w8 (Obj.cells (madeCells #[Value.int .i64 0] r) 3))
 rw [<-d7] at kb rz bf
 have I:=aly w9 (Obj.cells #[Value.slice (some ⟨w8.heap.size,0,none⟩) r r] 22)
 have c0:=zaa (zaa ar.out kb) I
 have c1:_=some _:=c0.cell (i:=0) (by omega)
 have z1:=c0.frozen 0
 rw [d7] at c1 z1
 go_upto_region 10 with fail
 rw [<-d7]
 have a8:RowV 0 w9 (.slice (some ⟨w8.heap.size,0,none⟩) r r) r (fun j=>((syP P M m (WD 0) H 0 j:Nat):Int)):=zdm rz (Nat.zero_le _) (by omega) fun j _=>by
  show (-9223372036854775808:Int)<=((0:Nat):Int)/\((0:Nat):Int)<=9223372036854775807
  omega
 have rk:(w9.alloc (Obj.cells #[Value.slice (some ⟨w8.heap.size,0,none⟩) r r] 22)).rowIs w9.heap.size 22 1 (fun _=>Value.slice (some ⟨w8.heap.size,0,none⟩) r r):=World.rowIs_alloc w9 _ _ _ (fun i hi=>by
  match i,hi with
  | 0,_=>rfl)
 rw [bf] at rk
 have bm:LTabO (w9.alloc (Obj.cells #[Value.slice (some ⟨w8.heap.size,0,none⟩) r r] 22)) 0 (.slice (some ⟨w8.heap.size+1,0,none⟩) 1 1) r [keyS r (syP P M m (WD 0) H 0)] :=
  ⟨fun _=>Value.slice (some ⟨w8.heap.size,0,none⟩) r r,zaI rk (Nat.zero_le _) (by unfold maxLen; omega),fun k hk=>by
   obtain rfl:k=0:=by simpa using hk
   exact (a8.on I).congr fun j hj=>(za9 hj).symm⟩
 have fn:=(bc.out.on kb).on I
 have dx:StT ((w9.alloc (Obj.cells #[Value.slice (some ⟨w8.heap.size,0,none⟩) r r] 22)).setCell ⟨gS,0,none⟩ (.slice (some ⟨w8.heap.size+1,0,none⟩) 1 1)) gS (N+1) 0 (fun j=>if j=0 then .slice (some ⟨w8.heap.size+1,0,none⟩) 1 1 else .slice none 0 0) r (fun _=>[keyS r (syP P M m (WD 0) H 0)]) :=
  ⟨(c0.set 0 _).congr fun j _=>rfl,by
   simp only [if_true]
   exact bm.setCell c0 (by decide) (zae c0 bm.choose_spec.1 (by decide)) _,fun j hj _=>if_neg (by omega)⟩
 have bn:=fn.other (i:=0) c0 (by decide) fb.out (.slice (some ⟨w8.heap.size+1,0,none⟩) 1 1)
 have k9:=((onS K6.out kb).trans (I.mono (onS K6.out kb).size)).setCell (p:=⟨gS,0,none⟩) g7.out (.slice (some ⟨w8.heap.size+1,0,none⟩) 1 1)
 obtain ⟨w10,cf⟩:∃ W,W=(w9.alloc (Obj.cells #[Value.slice (some ⟨w8.heap.size,0,none⟩) r r] 22)).setCell ⟨gS,0,none⟩ (.slice (some ⟨w8.heap.size+1,0,none⟩) 1 1):=⟨_,rfl⟩
 rw [<-cf] at dx bn k9 ⊢
 have ba:=hid bn
 have b5:=hid dx
 have c5:=hid k9
 clear cf d7 dx fn bn k9 bm rk a8 c0 c1 z1 kb I rz bf q0 q1 q2 q3 q4 Z bw bc ar K6
 go_upto_region 11 with fail
 have bj:(w10.alloc (Obj.cells #[Value.int .i64 1] 3)).heap.size=w10.heap.size+1:=by simp
 obtain ⟨w11,am⟩:=exx (w10.alloc (Obj.cells #[Value.int .i64 1] 3))
 have kb:=alx am
 have r1:w11.rowIs w10.heap.size 3 1 (fun _=>Value.int .i64 1):=by
  rw [am]
  exact World.rowIs_alloc w10 _ _ _ (fun i hi=>by
   match i,hi with
   | 0,_=>rfl)
 rw [<-am] at bj ⊢
 have I:=aly w11 (Obj.cells #[Value.slice (some ⟨w10.heap.size,0,none⟩) 1 1,Value.slice none 0 0] 53)
 have r2:(w11.alloc (Obj.cells #[Value.slice (some ⟨w10.heap.size,0,none⟩) 1 1,Value.slice none 0 0] 53)).rowIs w11.heap.size 53 2 (matCell (.slice (some ⟨w10.heap.size,0,none⟩) 1 1) (.slice none 0 0)):=zai
 obtain ⟨w12,ce⟩:=exx (w11.alloc (Obj.cells #[Value.slice (some ⟨w10.heap.size,0,none⟩) 1 1,Value.slice none 0 0] 53))
 rw [<-ce] at I r2 ⊢;rw [bj] at r2
 obtain ⟨ob,fg⟩:=exx (w10.heap.size+1)
 rw [<-fg] at r2 ⊢
 have cv:Hid (w5.heap.size<=ob):=hid (by have:=c5.out.size; omega)
 have fx:=hid ((c5.out.trans (kb.mono c5.out.size)).trans (I.mono (by have:=c5.out.size; omega)))
 have bt:Hid (FsAll w5.heap.size r mw N 0 gA gS ob (fun t i=>syP P M m (WD t) H i) WD F (fun j=>if j=0 then .slice (some ⟨w8.heap.size+1,0,none⟩) 1 1 else .slice none 0 0) (.slice (some ⟨w10.heap.size,0,none⟩) 1 1) (.slice none 0 0) (fun _=>[keyS r (syP P M m (WD 0) H 0)]) (fun _=>[]) w12):=hid
  {at_:=(ba.out.on kb).on I,
   st:=(b5.out.on kb).on I,
   box:=r2,
   wid:=(zaI (zaa r1 I) c5.out.size (by unfold maxLen; omega)).congr fun k hk _ _=>rfl,
   sec:=ETab.nil _ _ _ _,
   rel:=⟨fun j hj=>(SetL.one r _ (zec _ _)).congr fun l=>by
    obtain rfl:j=0:=by omega
    constructor
    ·intro h; exact ⟨0,by omega,h⟩
    ·rintro ⟨t,_,rfl⟩; exact zbk fun _ _=>rfl,fun j hj=>absurd hj (by omega)⟩,
   lenS:=fun j hj=>by simpa using e7,
   lenT:=fun j hj=>absurd hj (by omega),
   big:=fc.out }
 clear am ce bj kb I r1 r2 fg ba b5 c5 bx ci ht d9 d8 fb fc
 go_upto_region 12 with fail
 go_loopg [7,10] N (fun gg av iv wx=>∃ (i gA:Nat) (F FS:Nat->Value) (WV EV:Value) (St Tr:Nat->List (List Int)),iv=.int .i64 (i:Nat)/\av=.slice (some ⟨gA,0,none⟩) mw mw/\i<=N/\N<=i+gg/\Hid (FsAll w5.heap.size r mw N i gA gS ob (fun t i=>syP P M m (WD t) H i) WD F FS WV EV St Tr wx)/\Hid (Below w5.heap.size w5 wx))
 case atStart=>exact ⟨0,gA,_,_,_,_,_,_,rfl,rfl,by omega,by omega,bt,fx⟩
 clear bt fx
 obtain ⟨i,gA,F,FS,WV,EV,St,Tr,rfl,rfl,hi,hy,bt,KX⟩:=hrel
 have hz:(0:Int)<=(i:Int):=by omega
 obtain ⟨gI,gn⟩:=exx gk
 subst gn
 obtain ⟨w13,dr⟩:=exx wr
 subst dr
 by_cases hiN:i<N
 rotate_left
 ·have ei:¬ (i:Int)<(N:Int):=by omega
  obtain rfl:N=i:=by omega
  have z:=bt.out
  obtain ⟨WA,wc,es⟩:=z.wid.shape
  obtain ⟨RE,cm,_⟩:=z.sec
  obtain ⟨VA,vc,eu⟩:=cm.shape
  subst es eu
  have y0:=qc0 z.box
  have y1:=qc1 z.box
  have s0:=zaa ha.out (onS K2.out KX.out)
  have r0:=s0.cell (i:=0) (by omega)
  have r1:=s0.cell (i:=1) (by omega)
  have z0:=s0.frozen 0
  have z1:=s0.frozen 1
  have q0:=s0.set 0 (.slice WA (N+1) wc)
  have q1:=q0.cell (i:=1) (by omega)
  rw [if_neg (by omega)] at q1
  have q2:=q0.frozen 1
  have q3:=q0.set 1 (.slice VA N vc)
  have q4:=q3.cell (i:=0) (by omega)
  have q5:=q3.cell (i:=1) (by omega)
  rw [if_neg (by omega),if_pos rfl] at q4
  rw [if_pos rfl] at q5
  have f5:=hid s0
  have ed:=hsz
  have dz:=O
  have n3:=(E.out _ (onS K2.out KX.out)).2.2.2.1
  clear z cm s0 q0 q3
  go_wp2
  refine bodyPost_ret (v:=.agg #[.slice WA (N+1) wc,.slice VA N vc]) (by simp [results,Tryz.results35, go_sem,q4,q5]) rfl ?_
  have z:=bt.out
  have k1:=z.wid.setCell (zae f5.out z.wid (by decide)) (.slice WA (N+1) wc) (a:=⟨rb,0,none⟩)
  have r1':=f5.out.set 0 (.slice WA (N+1) wc)
  have k2:=k1.setCell (zae r1' k1 (by decide)) (.slice VA N vc) (a:=⟨rb,1,none⟩)
  have k3:=(z.sec.setCell (b:=rb) (i:=0) f5.out (by decide) (by decide) (.slice WA (N+1) wc)).setCell (b:=rb) (i:=1) r1' (by decide) (by decide) (.slice VA N vc)
  have hrel:=z.rel
  have fh:∀ j,j<=N->(St j).length<=1048576:=fun j hj=>by have:=z.lenS j hj; omega
  obtain ⟨A2,B2,c2,d2,ga,cg,gd,_,_⟩:=ETab.reads (T:=fsT N St Tr) k3 k2 (fun i hi=>by
   have:=fh i (by have hi:i<N+1:=hi; omega)
   show InI64 (((St i).length:Nat):Int)
   unfold InI64
   omega) (fun i hi j hj=>hrel.in64 fh (fun t i=>Nat.lt_of_lt_of_le (cq.out t i) O) hi hj) (by show N+1<=_; omega) (by show N<=_; omega) (fun i hi=>by
   have:=z.lenT i hi
   show (Tr i).length<=_
   omega)
  injection ga with e1 _ e3
  injection cg with e4 _ e6
  subst e1 e3 e4 e6
  rw [hd.out,f2.out] at hrel
  exact ⟨(onS HB.out (onS K2.out KX.out)).setCell (p:=⟨rb,0,none⟩) g1.out.1 _ |>.setCell (p:=⟨rb,1,none⟩) g1.out.1 _,r,H,St,Tr,_,_,_,_,f6.out,hrel,rfl,gd⟩
 have ei:(i:Int)<(N:Int):=by omega
 obtain ⟨q0,q1,q2,q3,q4⟩:=E.out _ (onS K2.out KX.out)
 have a3:=cx.out
 go_upto_region 16 with fail
 clear a3 q0 q1 q2 q3 q4
 have kb:=aly w13 (Obj.cells #[] 22)
 have bi:(w13.alloc (Obj.cells #[] 22)).heap.size=w13.heap.size+1:=by simp
 have az:LTabO (w13.alloc (Obj.cells #[] 22)) w13.heap.size (.slice (some ⟨w13.heap.size,0,none⟩) 0 0) 3 []:=⟨fun _=>undef,ziT (Nat.zero_le _) (heap_alloc_new w13 _),fun k hk=>absurd hk (by simp)⟩
 obtain ⟨w14,cd⟩:=exx (w13.alloc (Obj.cells #[] 22))
 rw [<-cd] at kb bi az ⊢
 have I:=aly w14 (Obj.cells (madeCells #[Value.slice none 0 0] mw) 22)
 have rz:World.rowIs (World.alloc w14 (Obj.cells (madeCells #[Value.slice none 0 0] mw) 22)) w14.heap.size 22 mw (fun _=>.slice none 0 0):=World.rowIs_made _ (.slice none 0 0) mw 22
 obtain ⟨w15,cc⟩:=exx (World.alloc w14 (Obj.cells (madeCells #[Value.slice none 0 0] mw) 22))
 rw [<-cc] at I rz ⊢;rw [bi] at rz
 obtain ⟨gF,fk⟩:=exx (w13.heap.size+1)
 obtain ⟨tr0,bd⟩:∃ v:Value,v=.slice (some ⟨w13.heap.size,0,none⟩) 0 0:=⟨_,rfl⟩
 rw [<-bd] at az ⊢;rw [<-fk] at rz ⊢
 have ax:Below w13.heap.size w13 w15:=onS kb I
 have fw:=hid (onS KX.out ax)
 have a6:Hid (LTabO w15 0 tr0 3 []):=hid ((az.on I).mono (Nat.zero_le _))
 have z:=bt.out
 have el:=z.st.row.lt
 have en:=z.at_.1.lt
 have e5:=z.box.lt
 have h8:Hid (tr0.ownBlock≠some gF):=hid (by
  rw [bd]
  intro h
  have h:w13.heap.size=gF:=Option.some.inj h
  omega)
 have ac:Hid (gS≠gF/\ob≠gF/\gS≠gA/\ob≠gS/\w5.heap.size<=gF):=hid ⟨by omega,by omega,fun e=>absurd (e ▸ z.st.row) (fun h1=>zeZ h1 z.at_.1 (by decide)),fun e=>absurd (e ▸ z.box) (fun h1=>zeZ h1 z.st.row (by decide)),by have:=KX.out.size; omega⟩
 obtain ⟨Q,hQ⟩:=exx w13.heap.size
 have g2:Hid (gF=Q+1):=hid (by omega)
 have gu:=g2.out
 have G:Hid (FsMid w5.heap.size Q r mw N i 0 0 gA gF gS ob (fun t i=>syP P M m (WD t) H i) F (fun _=>.slice none 0 0) FS WV EV St Tr [] w15):=hid
  {at_:=z.at_.on ax,
   af:=⟨rz,fun t ht=>absurd ht (by omega)⟩,
   row:=zaa z.st.row ax,
   tab:=z.st.tab.on ax,
   new:=by rw [z.st.no (i+1) (by omega) (by omega)]; exact LTabO.nil _ _ _,
   no:=fun j h1 h2=>z.st.no j (by omega) h2,
   apart:=fun h=>by
    have:=(z.st.tab.choose_spec.1.lt _ h).2
    omega,
   apart':=(by rw [z.st.no (i+1) (by omega) (by omega)]; intro h; cases h),
   box:=zaa z.box ax,
   wid:=z.wid.on ax,
   old:=fun q hq=>by have:=(z.wid.lt q hq).2; omega,
   sec:=z.sec.on ax,
   set:=(SetL.nil r).congr fun l=>⟨fun h=>h.elim,fun ⟨t,ht,_⟩=>absurd ht (by omega)⟩,
   len:=Nat.le_refl _,
   bigF:=by have:=KX.out.size; omega,
   ne:=by omega }
 have cu:=hid z.rel
 have f8:=hid z.lenS
 have hf:=hid z.lenT
 have gj:(0:Int)<=(i:Int)+1:=by omega
 have gi:(i:Int)<(N:Int)+1:=by omega
 have ek:Hid (IntKind.i64.wrap ((i:Int)+1)=(i:Int)+1):=hid (IntWalk.i64_in _ (by omega))
 have ej:Hid (((i:Int)+1).toNat=i+1):=hid (by omega)
 clear cd cc kb I rz bi az fk bd hQ gu ax z el en e5 bt KX
 go_upto_region 17 with fail
 go_loopg [13] mw (fun gg kv wx=>∃ (t:Nat) (FF FS:Nat->Value) (L:List (List Int)),kv=.int .i64 (t:Nat)/\t<=mw/\mw<=t+gg/\Hid (FsMid w5.heap.size Q r mw N i t t gA gF gS ob (fun t i=>syP P M m (WD t) H i) F FF FS WV EV St Tr L wx)/\Hid (LTabO wx 0 tr0 3 [])/\Hid (Below w5.heap.size w5 wx))
 case atStart=>exact ⟨0,_,_,_,rfl,by omega,by omega,G,a6,fw⟩
 clear G a6 fw
 obtain ⟨t,FF,FS,L,rfl,ht,d8,G,a6,KX⟩:=hrel
 have d9:(0:Int)<=(t:Int):=by omega
 obtain ⟨w16,dq⟩:=exx wr
 subst dq
 by_cases htm:t<mw
 ·have be:(t:Int)<(mw:Int):=by omega
  go_upto_region 19 with fail
  have o:=G.out
  obtain ⟨RA,rc,ao⟩:=(o.at_.2 t htm).1.shape
  have ew:=(o.at_.2 t htm)
  rw [ao] at ew
  have c0:w16.cell? ⟨gA,t,none⟩=some (.slice RA r rc):=by rw [<-ao]; exact o.at_.1.cell htm
  obtain ⟨lb,lo,WA,wc,ex,ef,l0,_,_,ag,_⟩:=b2.out t htm
  obtain ⟨wb,wo,et,dm,l1⟩:=ag.at hiN
  obtain ⟨hb,ho,UA,uc,gx,gm,h0,_,_,ff,_⟩:=hh.out i hiN
  subst ex et gx
  obtain ⟨x,hx⟩:=exx (WD t i)
  have l1:w5.cell? ⟨wb,wo+i,none⟩=some (.int .i64 ((WD t i:Nat):Int)):=l1
  rw [<-hx] at l1
  have dl:x<P ^ M:=by rw [hx]; exact cq.out _ _
  have HX:=hid hx
  have ct:=hid ew
  have fy:=hid ff
  have b6:Hid (∀ X,Below w16.heap.size w16 X->(X.cell? ⟨b0,0,none⟩=some (.int .i64 (P:Nat))/\X.cell? ⟨b0,1,none⟩=some (.int .i64 (M:Nat))/\X.cell? ⟨b0,2,none⟩=some (.slice A k c))/\X.cell? ⟨gA,t,none⟩=some (.slice RA r rc)/\X.cell? ⟨lb,lo+t,none⟩=some (.slice (some ⟨wb,wo,none⟩) N wc)/\X.cell? ⟨wb,wo+i,none⟩=some (.int .i64 (x:Nat))/\X.cell? ⟨hb,ho+i,none⟩=some (.slice UA r uc)):=hid fun X hX=>by
   obtain ⟨q0,q1,q2,_,_⟩:=E.out _ (onS K2.out (onS KX.out hX))
   exact ⟨⟨q0,q1,q2⟩,cellS hX c0,cellS (onS KX.out hX) l0,cellS (onS KX.out hX) l1,cellS (onS KX.out hX) h0⟩
  have em:=ac.out.2.2.2.2
  have eq:b0<w5.heap.size:=World.block_lt_of_cell? w5 ⟨b0,0,none⟩ (E.out _ K2.out).1
  have a7:Hid (lb≠gF/\wb≠gF/\hb≠gF/\b0≠gF):=hid ⟨by omega,by omega,by omega,by omega⟩
  clear o ew ao c0 l0 l1 h0 ag ff hx ef dm gm em eq
  refine wp_region_held_drew (S:=fun X=>(X.cell? ⟨b0,0,none⟩=some (.int .i64 (P:Nat))/\X.cell? ⟨b0,1,none⟩=some (.int .i64 (M:Nat))/\X.cell? ⟨b0,2,none⟩=some (.slice A k c))/\X.cell? ⟨gA,t,none⟩=some (.slice RA r rc)/\X.cell? ⟨lb,lo+t,none⟩=some (.slice (some ⟨wb,wo,none⟩) N wc)/\X.cell? ⟨wb,wo+i,none⟩=some (.int .i64 (x:Nat))/\X.cell? ⟨hb,ho+i,none⟩=some (.slice UA r uc)) (by kernel_rfl) (b6.out (World.drew w16) (Below.refl _ _).drew) (fun hHeld=>?_)
  obtain ⟨w17,hw,kb⟩:=dwx w16
  rw [<-hw] at hHeld ⊢;clear hw
  have c4:=hid kb
  clear kb
  refine tkq 0 (h:=tkq 1 (h:=tkq 2 (h:=tkq 3 (h:=tkq 4 (h:=tkq 5 (h:=tkq 6 (h:=tkq 7 (h:=tkq 8 (h:=tkq 9 (h:=tkq 10 (h:=tkq 11 (h:=tkq 12 (h:=tkq 13 (h:=tkq 14 (h:=tkq 15 (h:=tkq 16 (h:=tkq 17 (h:=tkq 18 (h:=?_)))))))))))))))))))
  clear hHeld
  refine rdq 19 (h:=fun K hK=>?_)
  go_simp
  go_wp2_with fail
  refine (zdT P M A k c m x RA UA r rc r uc (syP P M m (WD t) H i) (fun j=>H j i) w17 HC.out.fld.1 (HC.out.on (onS HB.out (onS K2.out (onS KX.out c4.out)))).mod HC.out.km dl (Own.rd (ct.out.on c4.out).1 rfl) (fun j hj=>zkP HL.out (cq.out t) _ _) (fy.out.on (onS KX.out c4.out)) (fun j hj=>g6.out j hj i hiN) (Nat.le_refl _) (by omega)).mono ?_
  rintro e w18 ⟨g,rfl,hg,J,kb⟩
  have ap:=hid (onS c4.out kb)
  have fj:Q<=g:=by
   have h1:=(G.out.on c4.out).af.1.lt
   have h2:=g2.out
   omega
  have a8:RowV Q w18 (.slice (some ⟨g,0,none⟩) r r) r (fun j=>((syP P M m (WD t) H (i+1) j:Nat):Int)):=zdm (J.congr fun j hj=>by rw [HX.out]; rfl) fj (by omega) fun j _=>by
   have:=zkP (H:=H) HL.out (cq.out t) (i+1) j
   omega
  have g0:=hid a8
  clear hg J kb a8 c4 fj
  refine bkq hK (b6.out _ ap.out) (h:=fun hHeld=>?_)
  clear hK K
  refine tkq 20 (h:=?_)
  clear hHeld
  refine rdq 21 (h:=fun K hK=>?_)
  have u0:=(G.out.on ap.out).af.1.cell htm
  have z0:=(G.out.on ap.out).af.1.frozen t
  go_simp
  clear u0 z0
  have ea:=(G.out.on ap.out).putF g0.out ac.out.1 ac.out.2.1
  have dw:=(a6.out.on ap.out).setCell (i:=t) (G.out.on ap.out).af.1 (by decide) h8.out (Value.slice (some ⟨g,0,none⟩) r r)
  obtain ⟨⟨s0,s1,s2⟩,s3,s4,s5,s6⟩:=b6.out _ ap.out
  have t0:=zab (p:=⟨gF,t,none⟩) (u:=Value.slice (some ⟨g,0,none⟩) r r) s0 a7.out.2.2.2
  have t1:=zab (p:=⟨gF,t,none⟩) (u:=Value.slice (some ⟨g,0,none⟩) r r) s1 a7.out.2.2.2
  have t2:=zab (p:=⟨gF,t,none⟩) (u:=Value.slice (some ⟨g,0,none⟩) r r) s2 a7.out.2.2.2
  have t3:=zab (p:=⟨gF,t,none⟩) (u:=Value.slice (some ⟨g,0,none⟩) r r) s3 G.out.ne
  have t4:=zab (p:=⟨gF,t,none⟩) (u:=Value.slice (some ⟨g,0,none⟩) r r) s4 a7.out.1
  have t5:=zab (p:=⟨gF,t,none⟩) (u:=Value.slice (some ⟨g,0,none⟩) r r) s5 a7.out.2.1
  have t6:=zab (p:=⟨gF,t,none⟩) (u:=Value.slice (some ⟨g,0,none⟩) r r) s6 a7.out.2.2.1
  have dh:=(onS KX.out ap.out).setCell (p:=⟨gF,t,none⟩) ac.out.2.2.2.2 (Value.slice (some ⟨g,0,none⟩) r r)
  obtain ⟨w19,cb⟩:=exx (w18.setCell ⟨gF,t,none⟩ (Value.slice (some ⟨g,0,none⟩) r r))
  rw [<-cb] at ea dw t0 t1 t2 t3 t4 t5 t6 dh ⊢
  have b8:=hid ea
  have b4:=hid dw
  have fv:=hid dh
  have ck:=And.intro (And.intro t0 (And.intro t1 t2)) (And.intro t3 (And.intro t4 (And.intro t5 t6)))
  clear cb ea dw dh s0 s1 s2 s3 s4 s5 s6 t0 t1 t2 t3 t4 t5 t6
  refine bkq hK ck (h:=fun hHeld=>?_)
  clear hK K ck hHeld
  refine wpAnyH_done (by kernel_rfl) ?_ _
  clear G a6 g0 ct fy HX b6 a7 ap KX dl
  go_upto_region 20 with fail
  have o:=b8.out
  have a0:w19.cell? ⟨gF,t,none⟩=some (.slice (some ⟨g,0,none⟩) r r):=by
   have:=o.af.1.cell htm
   rwa [if_pos rfl] at this
  refine wp_region_held_drew (S:=fun X=>X.cell? ⟨gF,t,none⟩=some (.slice (some ⟨g,0,none⟩) r r)) (by kernel_rfl) (cellS (Below.refl _ _).drew a0) (fun hHeld=>?_)
  obtain ⟨w20,hw,kb⟩:=dwx w19
  rw [<-hw] at hHeld ⊢
  have b7:=hid (o.on kb)
  have b3:=hid (b4.out.on kb)
  have fu:=hid (onS fv.out kb)
  clear hw a0 o kb b8 b4 fv
  have eh:=ek.out
  have eg:=ej.out
  refine tkq 0 (h:=tkq 1 (h:=tkq 2 (h:=tkq 3 (h:=tkq 4 (h:=tkq 5 (h:=tkq 6 (h:=tkq 8 (h:=tkq 9 (h:=tkq 10 (h:=tkq 11 (h:=?_)))))))))))
  clear hHeld
  refine rdq 7 (h:=fun K hK=>?_)
  have o:=b7.out
  obtain ⟨SA,sc,a4⟩:=o.new.shape
  have bk:=o.new
  rw [a4] at bk
  have u0:=o.row.cell (i:=i+1) (by omega)
  rw [a4] at u0
  have a0:w20.cell? ⟨gF,t,none⟩=some (.slice (some ⟨g,0,none⟩) r r):=by
   have:=o.af.1.cell htm
   rwa [if_pos rfl] at this
  go_simp
  clear u0
  refine bkq hK a0 (h:=fun hHeld=>?_)
  clear hK K hHeld a0
  refine rdq 12 (h:=fun K hK=>?_)
  go_simp
  go_wp2_with fail
  have a8:RowV Q w20 (.slice (some ⟨g,0,none⟩) r r) r (fun j=>(keyS r (syP P M m (WD t) H (i+1))).getD j 0):=by
   have h1:RowV Q w20 (if t=t then .slice (some ⟨g,0,none⟩) r r else FF t) r (fun j=>((syP P M m (WD t) H (i+1) j:Nat):Int)):=o.af.2 t (by omega)
   rw [if_pos rfl] at h1
   exact h1.congr fun j hj=>(za9 hj).symm
  have df:=hid a4
  refine (zeU Q r SA sc L (some ⟨g,0,none⟩) r (keyS r (syP P M m (WD t) H (i+1))) w20 bk a8 (by have:=o.len; omega) (by omega)).mono ?_
  rintro e w21 ⟨kb,v,L',rfl,hI,fp,c3,fe⟩
  obtain ⟨VA,vc,cg⟩:=c3.shape
  subst cg
  have ai:SetL r L' (fun l=>∃ s,s<t+1/\l=keyS r (syP P M m (WD s) H (i+1))):=(o.set.ins (zec _ _) hI).congr fun l=>by
   constructor
   ·rintro (⟨s,hs,rfl⟩ | rfl)
    ·exact ⟨s,by omega,rfl⟩
    ·exact ⟨t,by omega,rfl⟩
   rintro ⟨s,hs,rfl⟩
   by_cases e:s=t
   ·exact .inr (by rw [e])
   ·exact .inl ⟨s,by omega,rfl⟩
  have fo:(Value.slice VA L'.length vc).ownBlock≠some gF:=by
   rcases fe with e0 | hq
   ·rw [e0,<-a4]
    exact o.apart'
   intro e
   have h1:=hq _ e
   have h2:=o.af.1.lt
   omega
  have ee:L'.length<=t+1:=by have:=o.len; omega
  have D:=hid (o.on kb)
  have ak:=hid (b3.out.on kb)
  have h6:=hid (onS fu.out kb)
  have aa:=hid ai
  have b9:=hid c3
  have g8:=hid fo
  have a0:w21.cell? ⟨gF,t,none⟩=some (.slice (some ⟨g,0,none⟩) r r):=by
   have:=D.out.af.1.cell htm
   rwa [if_pos rfl] at this
  clear a8 bk hI fp c3 fe ai fo o a4 kb b7 b3 fu
  refine bkq hK a0 (h:=fun hHeld=>?_)
  clear hK K
  refine tkq 13 (h:=?_)
  clear hHeld
  refine rdq 14 (h:=fun K hK=>?_)
  have u0:=D.out.row.cell (i:=i+1) (by omega)
  have z0:=D.out.row.frozen (i+1)
  go_simp
  clear u0 z0
  have e9:=D.out.putS b9.out g8.out aa.out ee ac.out.2.2.1 ac.out.1 ac.out.2.2.2.1
  have dv:=(ak.out).setCell (i:=i+1) D.out.row (by decide) (zae D.out.row ak.out.choose_spec.1 (by decide)) (Value.slice VA L'.length vc)
  have dg:=h6.out.setCell (p:=⟨gS,i+1,none⟩) g7.out (Value.slice VA L'.length vc)
  have a1:=zab (p:=⟨gS,i+1,none⟩) (u:=Value.slice VA L'.length vc) a0 ac.out.1.symm
  obtain ⟨w22,ca⟩:=exx (w21.setCell ⟨gS,i+1,none⟩ (Value.slice VA L'.length vc))
  rw [<-ca] at e9 dv dg a1 ⊢
  have d0:=hid e9
  have cr:=hid dv
  have h5:=hid dg
  clear ca e9 dv dg a0
  refine bkq hK a1 (h:=fun hHeld=>?_)
  clear hK K hHeld a1
  refine wpAnyH_done (by kernel_rfl) ?_ _
  clear D ak aa b9 g8 df
  go_wp2
  go_roundg (gk - 1)
  case measure=>omega
  case rel=>exact ⟨t+1,_,_,_,by go_num,by omega,by omega,d0,cr,h5⟩
 have be:¬ (t:Int)<(mw:Int):=by omega
 obtain rfl:mw=t:=by omega
 have cy:=G
 have bp:=a6
 have K3:=KX
 clear G a6 KX
 obtain ⟨TA0,tc0,gt⟩:=bp.out.shape
 subst gt
 go_upto_region 22 with fail
 go_loopg [11,14] mw (fun gg tv kv wx=>∃ (t:Nat) (TA:Option Addr) (tc:Nat) (LT:List (List Int)),kv=.int .i64 (t:Nat)/\tv=.slice TA LT.length tc/\t<=mw/\mw<=t+gg/\LT.length<=t/\Hid (FsMid w5.heap.size Q r mw N i mw mw gA gF gS ob (fun t i=>syP P M m (WD t) H i) F FF FS WV EV St Tr L wx) /\
  Hid (LTabO wx 0 (.slice TA LT.length tc) 3 LT)/\Hid (SetL 3 LT (fun l=>∃ s,s<t/\l=trip r (St i) L (keyS r (syP P M m (WD s) H i)) (keyS r (syP P M m (WD s) H (i+1))) (WD s i)))/\Hid (Below w5.heap.size w5 wx))
 case atStart=>exact ⟨0,_,_,[],rfl,rfl,by omega,by omega,Nat.le_refl _,cy,bp,hid ((SetL.nil 3).congr fun l=>⟨fun h=>h.elim,fun ⟨t,ht,_⟩=>absurd ht (by omega)⟩),K3⟩
 clear cy bp K3
 obtain ⟨t,TA,tc,LT,rfl,rfl,ht,d8,c3,G,c6,f4,KX⟩:=hrel
 have d9:(0:Int)<=(t:Int):=by omega
 obtain ⟨w23,dp⟩:=exx wr
 subst dp
 by_cases htm:t<mw
 ·have be:(t:Int)<(mw:Int):=by omega
  go_upto_region 24 with fail
  have o:=G.out
  obtain ⟨RA,rc,ao⟩:=(o.at_.2 t htm).1.shape
  obtain ⟨SA,sc,a4⟩:=o.tab.shape
  have J:=o.at_.2 t htm
  have U:=o.tab
  have c0:=o.at_.1.cell htm
  have c1:=o.row.cell (i:=i) (by omega)
  rw [ao] at c0 J;rw [a4] at c1 U
  refine wp_region_held_drew (S:=fun X=>X.cell? ⟨gS,i,none⟩=some (.slice SA (St i).length sc)/\X.cell? ⟨gA,t,none⟩=some (.slice RA r rc)) (by kernel_rfl) ⟨cellS (Below.refl _ _).drew c1,cellS (Below.refl _ _).drew c0⟩ (fun hHeld=>?_)
  obtain ⟨w24,hw,kb⟩:=dwx w23
  rw [<-hw] at hHeld ⊢;clear hw;replace c0:=cellS kb c0;replace c1:=cellS kb c1
  have C:=hid (J.on kb)
  have al:=hid (U.on kb)
  have ft:=hid kb
  clear kb J U ao a4 o
  refine tkq 0 (h:=tkq 1 (h:=tkq 2 (h:=tkq 3 (h:=tkq 4 (h:=tkq 5 (h:=tkq 6 (h:=tkq 7 (h:=?_))))))))
  clear hHeld
  refine rdq 8 (h:=fun K hK=>?_)
  go_simp
  go_wp2_with fail
  refine (zfv r SA sc (St i) RA rc (keyS r (syP P M m (WD t) H i)) w24 al.out.rows (Own.rd (C.out.congr fun j hj=>(za9 hj).symm).1 rfl) (by have:=f8.out i (Nat.le_refl _); omega) (by omega)).mono ?_
  rintro e w25 ⟨kb,p,bb,rfl,Y,_⟩
  have g5:Hid (posOf r (St i) (keyS r (syP P M m (WD t) H i))=p):=hid (zdj Y)
  have hp:p<=(St i).length:=Y.1
  have f1:=hid (onS ft.out kb)
  replace c0:=cellS kb c0;replace c1:=cellS kb c1;clear kb Y ft C al
  refine bkq hK ⟨c1,c0⟩ (h:=fun hHeld=>?_)
  clear hK K
  refine tkq 9 (h:=tkq 10 (h:=tkq 11 (h:=tkq 12 (h:=tkq 13 (h:=?_)))))
  clear hHeld c0 c1
  refine wpAnyH_done (by kernel_rfl) ?_ _
  go_upto_region 25 with fail
  have o:=G.out.on f1.out
  obtain ⟨RA2,rc2,ao⟩:=(o.af.2 t htm).1.shape
  obtain ⟨SA2,sc2,a4⟩:=o.new.shape
  have J:=o.af.2 t htm
  have U:=o.new
  have c0:=o.af.1.cell htm
  have c1:=o.row.cell (i:=i+1) (by omega)
  rw [ao] at c0 J;rw [a4] at c1 U
  refine wp_region_held_drew (S:=fun X=>X.cell? ⟨gS,i+1,none⟩=some (.slice SA2 L.length sc2)/\X.cell? ⟨gF,t,none⟩=some (.slice RA2 r rc2)) (by kernel_rfl) ⟨cellS (Below.refl _ _).drew c1,cellS (Below.refl _ _).drew c0⟩ (fun hHeld=>?_)
  obtain ⟨w26,hw,kb⟩:=dwx w25
  rw [<-hw] at hHeld ⊢;clear hw;replace c0:=cellS kb c0;replace c1:=cellS kb c1
  have C:=hid (J.on kb)
  have al:=hid (U.on kb)
  have fp:=o.len
  have fs:=hid (onS f1.out kb)
  clear kb J U ao a4 o f1
  have eh:=ek.out
  have eg:=ej.out
  refine tkq 0 (h:=tkq 1 (h:=tkq 2 (h:=tkq 3 (h:=tkq 4 (h:=tkq 5 (h:=tkq 6 (h:=tkq 7 (h:=tkq 8 (h:=?_)))))))))
  clear hHeld
  refine rdq 9 (h:=fun K hK=>?_)
  go_simp
  go_wp2_with fail
  refine (zfv r SA2 sc2 L RA2 rc2 (keyS r (syP P M m (WD t) H (i+1))) w26 al.out.rows (Own.rd (C.out.congr fun j hj=>(za9 hj).symm).1 rfl) (by omega) (by omega)).mono ?_
  rintro e w27 ⟨kb,p2,bb2,rfl,Y,_⟩
  have g3:Hid (posOf r L (keyS r (syP P M m (WD t) H (i+1)))=p2):=hid (zdj Y)
  have gf:p2<=L.length:=Y.1
  have de:=hid (onS fs.out kb)
  replace c0:=cellS kb c0;replace c1:=cellS kb c1;clear kb Y fs C al
  refine bkq hK ⟨c1,c0⟩ (h:=fun hHeld=>?_)
  clear hK K
  refine tkq 10 (h:=tkq 11 (h:=tkq 12 (h:=tkq 13 (h:=tkq 14 (h:=?_)))))
  clear hHeld c0 c1 eh eg
  refine wpAnyH_done (by kernel_rfl) ?_ _
  obtain ⟨lb,lo,WA,wc,ex,ef,l0,_,_,ag,_⟩:=b2.out t htm
  obtain ⟨wb,wo,et,dm,l1⟩:=ag.at hiN
  subst ex et
  obtain ⟨x,hx⟩:=exx (WD t i)
  have l1:w5.cell? ⟨wb,wo+i,none⟩=some (.int .i64 ((WD t i:Nat):Int)):=l1
  rw [<-hx] at l1
  have dl:x<P ^ M:=by rw [hx]; exact cq.out _ _
  have HX:=hid hx
  replace KX:=hid (onS KX.out de.out);replace G:=hid (G.out.on de.out);replace c6:=hid (c6.out.on de.out)
  have m0:=cellS KX.out l0
  have m1:=cellS KX.out l1
  clear l0 l1 ag ef dm hx de
  go_upto_region 26 with fail
  go_wp2_with fail
  clear m0 m1
  have hu:=f8.out i (Nat.le_refl _)
  have kb:=aly w27 (Obj.cells #[Value.int .i64 (p:Nat),Value.int .i64 (x:Nat),Value.int .i64 (p2:Nat)] 3)
  have rk:(w27.alloc (Obj.cells #[Value.int .i64 (p:Nat),Value.int .i64 (x:Nat),Value.int .i64 (p2:Nat)] 3)).rowIs w27.heap.size 3 3 (fun j=>.int .i64 ((([(p:Int),(x:Int),(p2:Int)]:List Int)).getD j 0)):=World.rowIs_alloc w27 _ _ _ (fun j hj=>by
   match j,hj with
   | 0,_=>rfl
   | 1,_=>rfl
   | 2,_=>rfl)
  obtain ⟨w28,hw⟩:=exx (w27.alloc (Obj.cells #[Value.int .i64 (p:Nat),Value.int .i64 (x:Nat),Value.int .i64 (p2:Nat)] 3))
  rw [<-hw] at kb rk ⊢;clear hw
  have a8:RowV 0 w28 (.slice (some ⟨w27.heap.size,0,none⟩) 3 3) 3 (fun j=>(([(p:Int),(x:Int),(p2:Int)]:List Int)).getD j 0):=zdm rk (Nat.zero_le _) (by omega) fun j hj=>by
   match j,hj with
   | 0,_=>show (-9223372036854775808:Int)<=(p:Int)/\(p:Int)<=9223372036854775807; omega
   | 1,_=>show (-9223372036854775808:Int)<=(x:Int)/\(x:Int)<=9223372036854775807; omega
   | 2,_=>show (-9223372036854775808:Int)<=(p2:Int)/\(p2:Int)<=9223372036854775807; omega
  refine (zeU 0 3 TA tc LT (some ⟨w27.heap.size,0,none⟩) 3 [(p:Int),(x:Int),(p2:Int)] w28 (c6.out.on kb) a8 (by omega) (by omega)).mono ?_
  rintro e w29 ⟨I,v,L',rfl,hI,gw,bo,_⟩
  have ah:trip r (St i) L (keyS r (syP P M m (WD t) H i)) (keyS r (syP P M m (WD t) H (i+1))) (WD t i)=[(p:Int),(x:Int),(p2:Int)]:=by
   unfold trip
   rw [g5.out,g3.out,HX.out]
  have ai:SetL 3 L' (fun l=>∃ s,s<t+1/\l=trip r (St i) L (keyS r (syP P M m (WD s) H i)) (keyS r (syP P M m (WD s) H (i+1))) (WD s i)):=(f4.out.ins rfl hI).congr fun l=>by
   constructor
   ·rintro (⟨s,hs,rfl⟩ | rfl)
    ·exact ⟨s,by omega,rfl⟩
    ·exact ⟨t,by omega,ah.symm⟩
   rintro ⟨s,hs,rfl⟩
   by_cases e:s=t
   ·exact .inr (by rw [e,ah])
   ·exact .inl ⟨s,by omega,rfl⟩
  obtain ⟨TA2,tc2,cg⟩:=bo.shape
  subst cg
  have aa:=hid ai
  have f3:=hid bo
  have cz:=hid (G.out.on (onS kb I))
  have h4:=hid (onS KX.out (onS kb I))
  clear kb I rk a8 hI bo ah ai G c6 f4 KX g5 g3 HX
  go_wp2
  go_roundg (gk - 1)
  case measure=>omega
  case rel=>exact ⟨t+1,_,_,_,by go_num,rfl,by omega,by omega,by omega,cz,f3,aa,h4⟩
 have be:¬ (t:Int)<(mw:Int):=by omega
 obtain rfl:mw=t:=by omega
 have h3:Hid (w5.heap.size<=w23.heap.size):=hid KX.out.size
 go_upto_region 29 with fail
 have kb:=aly w23 (Obj.cells #[] 90)
 have az:Own (w23.alloc (Obj.cells #[] 90)) w23.heap.size 90 3 (.slice (some ⟨w23.heap.size,0,none⟩) 0 0) 0 (edgeCell (edT LT)):=ziT (Nat.le_refl _) (heap_alloc_new w23 _)
 obtain ⟨w30,hw⟩:=exx (w23.alloc (Obj.cells #[] 90))
 rw [<-hw] at kb az ⊢
 have fr:=hid kb
 have bv:=hid az
 obtain ⟨ev0,fm⟩:∃ v:Value,v=.slice (some ⟨w23.heap.size,0,none⟩) 0 0:=⟨_,rfl⟩
 rw [<-fm] at bv ⊢
 have fz:=hid c6.out.rows
 obtain ⟨lt,bx⟩:=exx LT.length
 rw [<-bx] at c3 fz ⊢
 have d1:=hid bx
 clear hw kb az fm bx
 go_loopg [19,20] lt (fun gg ev kv wx=>∃ (t:Nat),kv=.int .i64 (t:Nat)/\t<=lt/\lt<=t+gg/\Hid (Own wx w23.heap.size 90 3 ev t (edgeCell (edT LT)))/\Hid (Below w23.heap.size w23 wx))
 case atStart=>exact ⟨0,rfl,by omega,by omega,bv,fr⟩
 clear bv fr
 obtain ⟨t,rfl,ht,d8,HE,KE⟩:=hrel
 have d9:(0:Int)<=(t:Int):=by omega
 obtain ⟨w31,dn⟩:=exx wr
 subst dn
 by_cases htl:t<lt
 ·have du:(t:Int)<(lt:Int):=by omega
  obtain ⟨tb,to_,EA,ec,gs,gb,t0,_,_,db,_⟩:=fz.out t htl
  obtain ⟨eb,eo,gz,gp,e0⟩:=db.at (i:=0) (by show 0<3; omega)
  obtain ⟨eb1,eo1,f0,_,e1⟩:=db.at (i:=1) (by show 1<3; omega)
  obtain ⟨eb2,eo2,ez,_,e2⟩:=db.at (i:=2) (by show 2<3; omega)
  subst gs gz
  injection f0 with f0
  injection f0 with a1 a2
  subst a1 a2
  injection ez with ez
  injection ez with a1 a2
  subst a1 a2
  rw [Nat.add_zero] at e0
  obtain ⟨y0,dk⟩:∃ y,y=(LT.getD t []).getD 0 0:=⟨_,rfl⟩
  obtain ⟨y1,dj⟩:∃ y,y=(LT.getD t []).getD 1 0:=⟨_,rfl⟩
  obtain ⟨y2,di⟩:∃ y,y=(LT.getD t []).getD 2 0:=⟨_,rfl⟩
  have e0:w23.cell? ⟨eb,eo,none⟩=some (.int .i64 ((LT.getD t []).getD 0 0)):=e0
  have e1:w23.cell? ⟨eb,eo+1,none⟩=some (.int .i64 ((LT.getD t []).getD 1 0)):=e1
  have e2:w23.cell? ⟨eb,eo+2,none⟩=some (.int .i64 ((LT.getD t []).getD 2 0)):=e2
  rw [<-dk] at e0;rw [<-dj] at e1;rw [<-di] at e2
  have b6:Hid (∀ X,Below w23.heap.size w23 X->X.cell? ⟨tb,to_+t,none⟩=some (.slice (some ⟨eb,eo,none⟩) 3 ec)/\X.cell? ⟨eb,eo,none⟩=some (.int .i64 y0)/\X.cell? ⟨eb,eo+1,none⟩=some (.int .i64 y1)/\X.cell? ⟨eb,eo+2,none⟩=some (.int .i64 y2)):=hid fun X hX=>⟨cellS hX t0,cellS hX e0,cellS hX e1,cellS hX e2⟩
  have HY:Hid (edT LT t=(y0,y1,y2)):=hid (by unfold edT; rw [dk,dj,di])
  clear t0 e0 e1 e2 db gb gp dk dj di
  go_upto_region 31 with fail
  refine wp_region_held_drew (S:=fun X=>X.cell? ⟨tb,to_+t,none⟩=some (.slice (some ⟨eb,eo,none⟩) 3 ec)/\X.cell? ⟨eb,eo,none⟩=some (.int .i64 y0)/\X.cell? ⟨eb,eo+1,none⟩=some (.int .i64 y1)/\X.cell? ⟨eb,eo+2,none⟩=some (.int .i64 y2)) (by kernel_rfl) (b6.out _ (onS KE.out (Below.refl _ _).drew)) (fun hHeld=>?_)
  obtain ⟨w32,hw,kb⟩:=dwx w31
  rw [<-hw] at hHeld ⊢;replace HE:=hid (HE.out.on kb);replace KE:=hid (onS KE.out kb);clear hw kb
  refine tkq 0 (h:=tkq 1 (h:=tkq 2 (h:=tkq 3 (h:=tkq 4 (h:=tkq 5 (h:=tkq 6 (h:=tkq 7 (h:=tkq 8 (h:=tkq 9 (h:=tkq 10 (h:=tkq 11 (h:=tkq 12 (h:=tkq 13 (h:=tkq 14 (h:=tkq 15 (h:=tkq 16 (h:=tkq 17 (h:=tkq 18 (h:=tkq 19 (h:=?_))))))))))))))))))))
  clear hHeld
  refine rdq 20 (h:=fun K hK=>?_)
  go_simp
  have ra:(w32.alloc (Obj.cells #[Value.int .i64 y0,Value.int .i64 y1,Value.int .i64 y2] 90)).rowIs w32.heap.size 90 3 (fun j=>edgeCell (edT LT) t j):=World.rowIs_alloc _ _ _ _ (fun j hj=>by
   unfold edgeCell
   rw [HY.out]
   match j,hj with
   | 0,_=>rfl
   | 1,_=>rfl
   | 2,_=>rfl)
  have kb:=aly w32 (Obj.cells #[Value.int .i64 y0,Value.int .i64 y1,Value.int .i64 y2] 90)
  obtain ⟨w33,hw⟩:=exx (w32.alloc (Obj.cells #[Value.int .i64 y0,Value.int .i64 y1,Value.int .i64 y2] 90))
  rw [<-hw] at ra kb ⊢
  obtain ⟨xb,ay⟩:=exx w32.heap.size
  rw [<-ay] at ra ⊢
  have d4:Hid (∀ j,j<3->w33.cell? ((⟨xb,0,none⟩:Addr).add j)=some (edgeCell (edT LT) t j)):=hid fun j hj=>by
   match j,hj with
   | 0,_=>exact ra.cell (i:=0) (by omega)
   | 1,_=>exact ra.cell (i:=1) (by omega)
   | 2,_=>exact ra.cell (i:=2) (by omega)
  have bs:=hid (HE.out.on kb)
  have aj:=hid (onS KE.out kb)
  clear hw ra kb ay HE KE
  refine bkq hK (b6.out _ aj.out) (h:=fun hHeld=>?_)
  clear hK K hHeld
  refine rdq 21 (h:=fun K hK=>?_)
  refine zbN (by rfl) (.tmp 167) (.tmp 187) (by rfl) bs.out (by rfl) (ad:=⟨xb,0,none⟩) (c:=1) (by rfl) d4.out aj.out.size (by omega) ?_
  intro v9 w34 o1 o2 o3
  have f7:=hid o1
  have cn:=hid (aj.out.grown o2 aj.out.size fun q e=>(Own.lt bs.out q e).1)
  clear o1 o2 o3 bs aj d4
  refine bkq hK (b6.out _ cn.out) (h:=fun hHeld=>?_)
  clear hK K
  refine tkq 22 (h:=?_)
  clear hHeld
  refine wpAnyH_done (by kernel_rfl) ?_ _
  go_wp2
  go_roundg (gk - 1)
  case measure=>omega
  case rel=>exact ⟨t+1,by go_num,by omega,by omega,f7,cn⟩
 have du:¬ (t:Int)<(lt:Int):=by omega
 obtain rfl:lt=t:=by omega
 go_upto_region 32 with fail
 have o:=G.out.on KE.out
 obtain ⟨SA2,sc2,a4⟩:=o.new.shape
 obtain ⟨WA,wc,es⟩:=o.wid.shape
 obtain ⟨RE,cm,_⟩:=o.sec
 obtain ⟨VA,vc,eu⟩:=cm.shape
 obtain ⟨EA,ec,gy⟩:=HE.out.shape
 subst gy es eu
 have c1:=o.row.cell (i:=i+1) (by omega)
 rw [a4] at c1
 refine wp_region_held_drew (S:=fun X=>X.cell? ⟨gS,i+1,none⟩=some (.slice SA2 L.length sc2)) (by kernel_rfl) (cellS (Below.refl _ _).drew c1) (fun hHeld=>?_)
 obtain ⟨w32,hw,kb⟩:=dwx w31
 rw [<-hw] at hHeld ⊢;replace c1:=cellS kb c1
 have R:=hid (o.on kb)
 have aw:=hid (HE.out.on kb)
 have dd:=hid (onS KX.out (onS KE.out kb))
 have df:=hid a4
 clear hw kb o cm a4 HE KE KX G c6
 have eh:=ek.out
 have eg:=ej.out
 refine tkq 0 (h:=tkq 2 (h:=tkq 3 (h:=tkq 4 (h:=tkq 5 (h:=tkq 6 (h:=tkq 7 (h:=?_)))))))
 clear hHeld
 refine rdq2 1 8 (h:=fun K hK=>?_) (h2:=fun K hK=>?_)
 focus
  have u0:=qc0 R.out.box
  go_simp
  clear u0
  refine bkq hK c1 (h:=fun hHeld=>?_)
  clear hK K hHeld
  refine rdq 8 (h:=fun K hK=>?_)
  go_simp
  have ra:(w32.alloc (Obj.cells #[Value.int .i64 (L.length:Nat)] 3)).rowIs w32.heap.size 3 1 (fun _=>.int .i64 (L.length:Nat)):=World.rowIs_alloc _ _ _ _ (fun j hj=>by
   match j,hj with
   | 0,_=>rfl)
  have kb:=aly w32 (Obj.cells #[Value.int .i64 (L.length:Nat)] 3)
  obtain ⟨w33,hw⟩:=exx (w32.alloc (Obj.cells #[Value.int .i64 (L.length:Nat)] 3))
  rw [<-hw] at ra kb ⊢
  obtain ⟨xb,ay⟩:=exx w32.heap.size
  rw [<-ay] at ra ⊢
  have d4:Hid (w33.cell? ⟨xb,0,none⟩=some (.int .i64 ((updL St (i+1) L (i+1)).length:Nat))):=hid (by rw [zbf]; exact ra.cell (i:=0) (by omega))
  have B:=hid (R.out.on kb)
  have au:=hid (aw.out.on kb)
  have aj:=hid (onS dd.out kb)
  replace c1:=cellS kb c1;clear hw ra kb ay R aw dd
 rotate_left
 focus
  go_simp
  have ra:(w32.alloc (Obj.cells #[Value.int .i64 (L.length:Nat)] 3)).rowIs w32.heap.size 3 1 (fun _=>.int .i64 (L.length:Nat)):=World.rowIs_alloc _ _ _ _ (fun j hj=>by
   match j,hj with
   | 0,_=>rfl)
  have kb:=aly w32 (Obj.cells #[Value.int .i64 (L.length:Nat)] 3)
  obtain ⟨w33,hw⟩:=exx (w32.alloc (Obj.cells #[Value.int .i64 (L.length:Nat)] 3))
  rw [<-hw] at ra kb ⊢
  obtain ⟨xb,ay⟩:=exx w32.heap.size
  rw [<-ay] at ra ⊢
  have d4:Hid (w33.cell? ⟨xb,0,none⟩=some (.int .i64 ((updL St (i+1) L (i+1)).length:Nat))):=hid (by rw [zbf]; exact ra.cell (i:=0) (by omega))
  have B:=hid (R.out.on kb)
  have au:=hid (aw.out.on kb)
  have aj:=hid (onS dd.out kb)
  replace c1:=cellS kb c1;clear hw ra kb ay R aw dd
  refine bkq hK c1 (h:=fun hHeld=>?_)
  clear hK K hHeld
  refine rdq 1 (h:=fun K hK=>?_)
  have u0:=qc0 B.out.box
  go_simp
  clear u0
 rotate_left
 all_goals
  refine bkq hK c1 (h:=fun hHeld=>?_)
  clear hK K hHeld
  refine rdq 9 (h:=fun K hK=>?_)
  refine zdr (by rfl) (.tmp 190) (.tmp 197) (by rfl) w5.heap.size (.slice WA (i+1) wc) (i+1) (fun k=>((updL St (i+1) L k).length:Nat)) (by rfl) (B.out.wid.congr fun k hk _ _=>by rw [zbY (by omega)]) aj.out.size (by omega) xb 1 (by rfl) d4.out ?_
  intro v9 w34 o1 o2 o3
  obtain ⟨XA,xc,gr⟩:=o1.shape
  subst gr
  have o:=B.out
  have af9:=o.af.grown o.wid o.old o2
  have row9:=o.row.of_block (o2.block gS o.row.lt fun e=>zae o.row o.wid (by decide) e.symm)
  have new9:=o.new.grown o.wid o.old o2
  have box9:=o.box.of_block (o2.block ob o.box.lt fun e=>zae o.box o.wid (by decide) e.symm)
  have sec9:=o.sec.keptI o.wid o2
  have bz:=au.out.kept o2 (za4 (o.wid.mono (Nat.zero_le _)) (au.out.mono (Nat.zero_le _)) (by decide))
  have k9:=aj.out.grown o2 aj.out.size fun q e=>(Own.lt o.wid q e).1
  have b1:=row9.cell (i:=i+1) (by omega)
  rw [df.out] at b1
  have d6:=hid af9
  have C:=hid row9
  have ab:=hid new9
  have ae:=hid box9
  have cs:=hid sec9
  have a5:=hid o1
  have bu:=hid bz
  have cn:=hid k9
  clear o1 o2 o3 o af9 row9 new9 box9 sec9 bz k9 c1
  refine bkq hK b1 (h:=fun hHeld=>?_)
  clear hK K
  refine tkq 10 (h:=?_)
  clear hHeld
  refine rdq 11 (h:=fun K hK=>?_)
  have u0:=ae.out.cell (i:=0) (by omega)
  have z0:=ae.out.frozen 0
  go_simp
  clear u0 z0 b1
  have af9:=d6.out.other (i:=0) ae.out (by decide) ac.out.2.1 (Value.slice XA (i+1+1) xc)
  have row9:=C.out.setOther (a:=⟨ob,0,none⟩) (by simpa using ac.out.2.2.2.1.symm) (Value.slice XA (i+1+1) xc)
  have new9:=ab.out.setCell (i:=0) ae.out (by decide) (zae ae.out ab.out.choose_spec.1 (by decide)) (Value.slice XA (i+1+1) xc)
  have box9:=(ae.out.set 0 (Value.slice XA (i+1+1) xc)).congr (g:=matCell (Value.slice XA (i+1+1) xc) (.slice VA i vc)) fun j hj=>by
   match j,hj with
   | 0,_=>rfl
   | 1,_=>rfl
  have sec9:=cs.out.setCell (i:=0) ae.out (by decide) (by decide) (Value.slice XA (i+1+1) xc)
  have wid9:=a5.out.setCell (a:=⟨ob,0,none⟩) (zae ae.out a5.out (by decide)) (Value.slice XA (i+1+1) xc)
  have bz:=bu.out.setCell (a:=⟨ob,0,none⟩) (zae ae.out bu.out (by decide)) (Value.slice XA (i+1+1) xc)
  have k9:=cn.out.setCell (p:=⟨ob,0,none⟩) cv.out (Value.slice XA (i+1+1) xc)
  obtain ⟨w35,hw⟩:=exx (w34.setCell ⟨ob,0,none⟩ (Value.slice XA (i+1+1) xc))
  rw [<-hw] at af9 row9 new9 box9 sec9 wid9 bz k9 ⊢
  have b1:=row9.cell (i:=i+1) (by omega)
  rw [df.out] at b1;clear hw
  refine bkq hK b1 (h:=fun hHeld=>?_)
  clear hK K hHeld b1 d6 C ab ae cs a5 bu cn
  refine wpAnyH_done (by kernel_rfl) ?_ _
  have d6:=hid af9
  have C:=hid row9
  have ab:=hid new9
  have ae:=hid box9
  have a5:=hid wid9
  have f9:=B.out.len
  have aa:=hid B.out.set
  have hc:=hid B.out.no
  have hl:=hid B.out.bigF
  have i2:=hid k9
  have kb:=aly w35 (Obj.cells #[Value.slice EA lt ec] 86)
  have rx:(w35.alloc (Obj.cells #[Value.slice EA lt ec] 86)).rowIs w35.heap.size 86 1 (fun _=>.slice EA lt ec):=World.rowIs_alloc _ _ _ _ (fun j hj=>by
   match j,hj with
   | 0,_=>rfl)
  have d5:Hid ((w35.alloc (Obj.cells #[Value.slice EA lt ec] 86)).cell? ((⟨w35.heap.size,0,none⟩:Addr).add 0)=some (Value.slice EA lt ec)):=hid (rx.cell (i:=0) (by omega))
  have bq:=hid ((sec9.on kb).congr (el':=fun j=>(updL Tr i LT j).length) (y':=trE (updL Tr i LT)) (fun j hj=>by show _=(updL Tr i LT j).length; rw [zbY (by omega)]) (fun j hj p _=>by unfold trE; rw [zbY (by omega)]))
  have d3:Hid (Own (w35.alloc (Obj.cells #[Value.slice EA lt ec] 86)) w5.heap.size 90 3 (.slice EA lt ec) (updL Tr i LT i).length (edgeCell (trE (updL Tr i LT) i))):=hid (by
   have h1:=(bz.mono h3.out).on kb
   unfold trE
   rw [zbf,<-d1.out]
   exact h1)
  have co:Hid (w5.heap.size<=(w35.alloc (Obj.cells #[Value.slice EA lt ec] 86)).heap.size):=hid (Nat.le_trans k9.size kb.size)
  have fa:Hid (i<=1048576):=hid (by omega)
  have aq:=hid (zaa box9 kb)
  have fq:=hid (onS k9 kb)
  have y0:=qc1 box9
  have a9:=hid kb
  obtain ⟨RE2,cl,_⟩:=bq.out
  have br:=hid cl
  clear af9 row9 new9 box9 sec9 wid9 bz k9 rx kb cl B au aj
  go_upto_region 34 with (first | (at_builtin; (refine zbI rfl (.tmp 201) (.tmp 203) rfl bq.out rfl (ad:=⟨w35.heap.size,0,none⟩) (c:=1) rfl d5.out rfl d3.out co.out fa.out ?_); intro v7 w7 o1 o2; obtain ⟨A7,c7,gc⟩:=o1.shape; subst gc; have an:=aq.out.of_block (o2.block ob aq.out.lt fun e=>zae aq.out br.out (by decide) e.symm); have y7:=an.cell (i:=1) (by omega); have z7:=an.frozen 1))
  have row6:=zaa C.out a9.out
  have af7:=(d6.out.on a9.out).keptE br.out (by decide) (by decide) o2
  have row7:=row6.of_block (o2.block gS row6.lt fun e=>zae row6 br.out (by decide) e.symm)
  have new7:=(ab.out.on a9.out).keptE br.out (by decide) (by decide) o2
  have wid7:=(a5.out.on a9.out).kept o2 (za4 br.out (a5.out.on a9.out) (by decide))
  have k7:=(fq.out.grown o2 co.out fun q e=>(Own.lt br.out q e).1).setCell (p:=⟨ob,1,none⟩) cv.out (Value.slice A7 (i+1) c7)
  have cj:FsAll w5.heap.size r mw N (i+1) gF gS ob (fun t i=>syP P M m (WD t) H i) WD FF FS (Value.slice XA (i+1+1) xc) (Value.slice A7 (i+1) c7) (updL St (i+1) L) (updL Tr i LT) (w7.setCell ⟨ob,1,none⟩ (Value.slice A7 (i+1) c7)) :=
   {at_:=(af7.other (i:=1) an (by decide) ac.out.2.1 _).mono (Nat.zero_le _),
    st:=⟨row7.setOther (a:=⟨ob,1,none⟩) (by simpa using ac.out.2.2.2.1.symm) _,by rw [zbf]; exact (new7.setCell an (by decide) (zae an new7.choose_spec.1 (by decide)) _).mono (Nat.zero_le _),hc.out⟩,
    box:=(an.set 1 _).congr fun j hj=>by
     match j,hj with
     | 0,_=>rfl
     | 1,_=>rfl,
    wid:=wid7.setCell (a:=⟨ob,1,none⟩) (zae an wid7 (by decide)) _,
    sec:=o1.setCell an (by decide) (by decide) _,
    rel:=cu.out.next aa.out f4.out,
    lenS:=fun j hj=>by
     by_cases e:j=i+1
     ·rw [e,zbf]; exact f9
     ·rw [zbY e]; exact f8.out j (by omega),
    lenT:=fun j hj=>by
     by_cases e:j=i
     ·rw [e,zbf,<-d1.out]; exact c3
     ·rw [zbY e]; exact hf.out j (by omega),
    big:=hl.out }
  have fd:=hid cj
  have K7:=hid k7
  clear row6 af7 row7 new7 wid7 k7 cj o1 o2 an y7 z7 y0 d6 C ab ae a5 d5 bq d3 aq fq a9 br
  go_wp2
  go_roundg (gI - 1)
  case measure=>omega
  case rel=>exact ⟨i+1,gF,FF,FS,_,_,_,_,by go_num,rfl,by omega,by omega,fd,K7⟩
def NmT (w:World) (g nw k:Nat) (F:Nat->Value) (W:Nat->Nat) (f:Nat->Nat->Nat):Prop:=w.rowIs g 22 nw F/\∀ j,j<k->RowV 0 w (F j) (W j) (fun v=>((f j v:Nat):Int))
section
variable {w w':World} {g nw k:Nat} {F:Nat->Value} {W:Nat->Nat} {f:Nat->Nat->Nat}
theorem NmT.on (h:NmT w g nw k F W f) (hb:Below w.heap.size w w'):NmT w' g nw k F W f:=⟨zaa h.1 hb,fun j hj=>(h.2 j hj).on hb⟩
theorem NmT.put (h:NmT w g nw k F W f) {v:Value} (hv:RowV 0 w v (W k) (fun u=>((f k u:Nat):Int))):NmT (w.setCell ⟨g,k,none⟩ v) g nw (k+1) (fun j=>if j=k then v else F j) W f:=by
 refine ⟨h.1.set k v,fun j hj=>?_⟩
 by_cases e:j=k
 ·subst e
  simp only [if_true]
  exact hv.setCell h.1 (by decide) v
 ·simp only [if_neg e]
  exact (h.2 j (by omega)).setCell h.1 (by decide) v
theorem NmT.rows (h:NmT w g nw nw F W f):IntRows w (some ⟨g,0,none⟩) nw W (fun j v=>((f j v:Nat):Int)):=fun k hk=>by
 obtain ⟨RA,rc,e2⟩:=(h.2 k hk).1.shape
 have c:=h.1.cell hk
 rw [e2] at c
 have h3:=(h.2 k hk).1
 rw [e2] at h3
 exact ⟨g,0,RA,rc,rfl,h.1.lt,by rw [Nat.zero_add]; exact c,(Own.capL h3).1,(Own.capL h3).2,Own.rd h3 rfl,(h.2 k hk).2⟩
end
theorem LTab.rows {w:World} {base g m a:Nat} {R:Nat->Value} {S:Nat->Nat->Nat} (h:LTab w base g m a (fun _=>True) R S) (hS:∀ u k,S u k<256):IntRows w (some ⟨g,0,none⟩) m (fun _=>a) (fun u k=>((S u k:Nat):Int)):=fun u hu=>by
 have h1:=h.yes u hu trivial
 obtain ⟨RA,rc,e2⟩:=h1.shape
 have c:=h.row.cell hu
 rw [e2] at c h1
 exact ⟨g,0,RA,rc,rfl,h.row.lt,by rw [Nat.zero_add]; exact c,(Own.capL h1).1,(Own.capL h1).2,Own.rd h1 rfl,fun k _=>by
  have:=hS u k
  show (-9223372036854775808:Int)<=((S u k:Nat):Int)/\((S u k:Nat):Int)<=9223372036854775807
  omega⟩
def PFsPost (P M : Int) (k : Nat) (f : Nat → Int) (N : Int) (n : Nat) (ln : Nat → Nat) (V : Nat → Nat → Int) (w : World) (e : Ending) (w' : World) : Prop :=
  Below w.heap.size w w'/\∃ u,FirstErr (CodeErrs P M k f N n ln V) u/\((u≠0/\e=.returned (.tuple #[.agg #[.slice none 0 0,.slice none 0 0],.int .i64 u])) ∨
    (u = 0 ∧ ∃ P' M' N' : Nat, P = P' ∧ M = M' ∧ N = N' ∧ ∃ pv R, SpanF (P' ^ M') n N' pv R ∧ SameSp (P' ^ M') (addF P' M') (mulF P' M' fun i => (f i).toNat) N' n n (natT V) R ∧ (∀ i j, i < j → j < n → lE (R i) N' ≠ lE (R j) N') ∧
      ((¬ SizeIn (P' ^ M') n N' pv R/\e=.returned (.tuple #[.agg #[.slice none 0 0,.slice none 0 0],.int .i64 8])) ∨
       (SizeIn (P' ^ M') n N' pv R/\∃ T y z r H A B c d,MinT (P' ^ M') (addF P' M') (mulF P' M' fun i=>(f i).toNat) n N' pv R T/\T.Proper/\IsRen T y/\NullRel (P' ^ M') (addF P' M') (mulF P' M' fun i=>(f i).toNat) (negF P' M') n N' (natT V) r H /\
         IsF (T.re y) (synN (P' ^ M') r (T.re y) ((T.re y).syn (addF P' M') (mulF P' M' fun i=>(f i).toNat) H)) z/\RenOut (T.re y) z w' A B c d/\e=.returned (.tuple #[.agg #[.slice A T.nw c,.slice B T.n d],.int .i64 0])))))
theorem zgC (P M:Int) (A:Option Addr) (k c:Nat) (f:Nat->Int) (N:Int) (TC:Option Addr) (n d:Nat) (ln:Nat->Nat) (V:Nat->Nat->Int) (w:World) (hr:IntsR w w.heap.size A k f) (h:IntRows w TC n ln V) (hkc:k<=c) :
  Calls Tryz.prog 32 #[.agg #[.int .i64 P,.int .i64 M,.slice A k c,.int .i64 N,.slice TC n d]] w (PFsPost P M k f N n ln V w):=by
 have HI:=hid hr
 have HT:=hid h
 clear hr h
 have rf:=zaZ (w:=w) (a:=.int .i64 P) (b:=.int .i64 M) (c:=.slice A k c) (d:=.int .i64 N) (e:=.slice TC n d) (T := 27)
 have hB:=aly w (.cells #[.int .i64 P,.int .i64 M,.slice A k c,.int .i64 N,.slice TC n d] 27)
 have E:(w.alloc (.cells #[.int .i64 P,.int .i64 M,.slice A k c,.int .i64 N,.slice TC n d] 27)).heap.size=w.heap.size+1:=by simp
 obtain ⟨w0,ao⟩:=exx (w.alloc (.cells #[.int .i64 P,.int .i64 M,.slice A k c,.int .i64 N,.slice TC n d] 27))
 have ro:=zai (w:=w0) (a:=.slice none 0 0) (b:=.slice none 0 0) (T := 53)
 have kb:=aly w0 (.cells #[.slice none 0 0,.slice none 0 0] 53)
 have D:(w0.alloc (.cells #[.slice none 0 0,.slice none 0 0] 53)).heap.size=w0.heap.size+1:=by simp
 obtain ⟨w1,an⟩:=exx (w0.alloc (.cells #[.slice none 0 0,.slice none 0 0] 53))
 rw [<-ao] at hB rf E;rw [<-an] at ro kb D;rw [E] at ro D;replace rf:=zaa rf kb;replace hB:=onS hB kb
 go_enter Tryz.func32, Tryz.ntmps32
 go_upto_region 1 with fail
 rw [<-ao,<-an];clear ao an kb E
 obtain ⟨b0,aw⟩:=exx w.heap.size
 obtain ⟨rb,ap⟩:=exx (w.heap.size+1)
 have c2:Hid (w.heap.size<=rb/\rb<w1.heap.size):=hid (by omega)
 rw [<-aw] at rf;rw [<-ap] at ro;rw [<-ap,<-aw];clear aw ap D
 have Q:Hid (∀ X,Below w1.heap.size w1 X->(X.cell? ⟨b0,0,none⟩=some (.int .i64 P)/\X.cell? ⟨b0,1,none⟩=some (.int .i64 M)/\X.cell? ⟨b0,2,none⟩=some (.slice A k c)/\X.cell? ⟨b0,3,none⟩=some (.int .i64 N)/\X.cell? ⟨b0,4,none⟩=some (.slice TC n d))):=hid fun X hx =>
  ⟨(zaa rf hx).cell (i:=0) (by omega),(zaa rf hx).cell (i:=1) (by omega),(zaa rf hx).cell (i:=2) (by omega),(zaa rf hx).cell (i:=3) (by omega),(zaa rf hx).cell (i:=4) (by omega)⟩
 have c1:=hid ro
 have HB:=hid hB
 clear hB rf ro
 obtain ⟨q0,q1,q2,q3,q4⟩:=Q.out _ (Below.refl _ _)
 go_wp2_with fail
 refine (zdF P M A k c f N TC n d ln V w1 (HI.out.on HB.out) (HT.out.on HB.out)).mono ?_
 rintro e w4 s
 have a8:∃ (GA HA:Option Addr) (gn gc hn hc:Nat) (ev:Int),e=.returned (.tuple #[.agg #[.slice GA gn gc,.slice HA hn hc],.int .i64 ev]):=by
  rcases s.2 with ⟨u,_,⟨_,h⟩ | ⟨_,P',M',N',_,_,_,pv,R,_,_,_,⟨_,h⟩ | ⟨_,T,y,A,B,c,d,_,_,_,_,h⟩⟩⟩ <;> exact ⟨_,_,_,_,_,_,_,h⟩
 obtain ⟨GA,HA,gn,gc,hn,hc,ev,rfl⟩:=a8
 have HM:=hid s
 have KB:=hid s.1
 clear s q0 q1 q2 q3 q4
 go_upto_region 2 with fail
 have rt:(w4.alloc (Obj.cells #[.slice GA gn gc,.slice HA hn hc] 53)).rowIs w4.heap.size 53 2 (matCell (.slice GA gn gc) (.slice HA hn hc)):=zai
 have kb:=aly w4 (Obj.cells #[.slice GA gn gc,.slice HA hn hc] 53)
 obtain ⟨w5,bj⟩:=exx (w4.alloc (Obj.cells #[.slice GA gn gc,.slice HA hn hc] 53))
 rw [<-bj] at rt kb ⊢;clear bj
 obtain ⟨b1,bq⟩:=exx w4.heap.size
 rw [<-bq] at rt ⊢;clear bq
 have ak:Hid (∀ X,Below w5.heap.size w5 X->X.cell? ⟨b1,0,none⟩=some (.slice GA gn gc)/\X.cell? ⟨b1,1,none⟩=some (.slice HA hn hc)):=hid fun X hx=>⟨(zaa rt hx).cell (i:=0) (by omega),(zaa rt hx).cell (i:=1) (by omega)⟩
 have K5:=hid kb
 replace KB:=hid (onS KB.out kb);clear rt kb
 by_cases hev:ev=0
 rotate_left
 ·have au:(ev != 0)=true:=by simpa using hev
  have o:=zaa c1.out KB.out
  have r0:=o.cell (i:=0) (by omega)
  have r1:=o.cell (i:=1) (by omega)
  have z0:=o.frozen 0
  have z1:=o.frozen 1
  have p0:=o.set 0 (.slice none 0 0)
  have p1:=p0.cell (i:=1) (by omega)
  rw [if_neg (by omega)] at p1
  have p2:=p0.frozen 1
  have p3:=p0.set 1 (.slice none 0 0)
  have p4:=p3.cell (i:=0) (by omega)
  have p5:=p3.cell (i:=1) (by omega)
  rw [if_neg (by omega),if_pos rfl] at p4
  rw [if_pos rfl] at p5
  have cv:=hid hev
  clear p0 p3 o hev
  go_wp2
  refine bodyPost_ret (v:=.tuple #[.agg #[.slice none 0 0,.slice none 0 0],.int .i64 ev]) (by simp [results,Tryz.results32, go_sem,p4,p5]) rfl ?_
  have a7:w.heap.size<=rb:=c2.out.1
  refine ⟨((onS HB.out KB.out).setCell (p:=⟨rb,0,none⟩) a7 _).setCell (p:=⟨rb,1,none⟩) a7 _,?_⟩
  obtain ⟨_,u,hu,⟨c6,he⟩ | ⟨rfl,P',M',N',e1,e2,e3,pv,R,a1,a2,a3,⟨a4,he⟩ | ⟨_,T,y,WA,WB,wc,wd,_,_,_,_,he⟩⟩⟩:=HM.out
  ·have he:ev=u:=by simp at he; exact he.2
   subst he
   exact ⟨_,hu,.inl ⟨c6,rfl⟩⟩
  ·have he:ev=8:=by simp at he; exact he.2
   subst he
   exact ⟨0,hu,.inr ⟨rfl,P',M',N',e1,e2,e3,pv,R,a1,a2,a3,.inl ⟨a4,rfl⟩⟩⟩
  ·have he:ev=0:=by simp at he; exact he.2
   exact absurd he cv.out
 subst hev
 have au:((0:Int) != 0)=false:=by simp
 obtain ⟨b2,P',M',N',rfl,rfl,rfl,pv,R,bt,br,bv,bs,S,y,ah,ab,aa,J,rfl,rfl⟩:=zlg HM.out
 obtain ⟨P2,M2,N2,e1,e2,e3,hC⟩:=zbB HI.out HT.out b2
 obtain rfl:P'=P2:=by omega
 obtain rfl:M'=M2:=by omega
 obtain rfl:N'=N2:=by omega
 have HC:=hid hC
 have bd:=hid b2
 have b4:=hid bt
 have b3:=hid br
 have be:=hid bv
 have cp:=hid bs
 have bb:=hid ah
 have b9:=hid ab
 have b5:=hid aa
 have aj:Hid (S.re y).Proper:=hid (aa.proper ab)
 have b6:=hid ((J.reads ab aa).1.on K5.out)
 have a9:=(J.reads ab aa).2.1
 have al:=hid (fieldLaws hC.fld)
 have U:S.n=N':=ah.nN
 have ag:S.nw=N'+1:=ah.nw
 have ch:=hC.ln2
 have C:=hC.fld.1.2.2.2
 have bc:Hid (∀ x,x<P' ^ M'->negF P' M' x<P' ^ M'/\addF P' M' x (negF P' M' x)=0):=hid fun x _=>⟨zbv (by have:=hC.fld.1.1; omega),zbn (by have:=hC.fld.1.1; omega)⟩
 obtain ⟨T,I⟩:=exx (S.re y)
 rw [<-I] at aj b6
 have af:T.n=S.n:=by rw [I]; rfl
 have ae:T.nw=S.nw:=by rw [I]; rfl
 have ai:=hid I
 rw [<-af] at U ⊢;rw [<-ae] at ag a9 ⊢
 have cn:=hid af
 have cm:=hid ae
 rw [<-af,<-ae] at ak;clear b2 bt br bv bs ah ab aa J hC HM e1 e2 e3 I af ae
 obtain ⟨q0,q1,q2,q3,q4⟩:=Q.out _ KB.out
 go_upto_region 4 with fail
 go_wp2_with fail
 refine (zcg (P':Int) (M':Int) A k c f w5 (HI.out.on (onS HB.out KB.out))).mono ?_
 rintro e w6 ⟨kb,r⟩
 rcases r with ⟨av,_⟩ | ⟨_,g,P2,M2,cg,ci,rfl,_,hG⟩
 ·refine absurd ?_ av
  rcases bd.out with ⟨_,h9⟩ | ⟨h1,_⟩
  ·cases h9
  ·exact h1
 obtain rfl:P'=P2:=by omega
 obtain rfl:M'=M2:=by omega
 have HG:=hid hG.gf
 have K6:=hid kb
 replace KB:=hid (onS KB.out kb);clear kb q0 q1 q2 q3 q4 cg ci hG
 obtain ⟨q0,q1,q2,q3,q4⟩:=Q.out _ KB.out
 go_upto_region 5 with fail
 go_wp2_with fail
 refine (zit (P':Int) (M':Int) A k c f (N':Int) TC n d ln V w6 (HI.out.on (onS HB.out KB.out)) (HT.out.on (onS HB.out KB.out)) hkc).mono ?_
 rintro e w7 ⟨kb,v,hv,r⟩
 obtain rfl:v=0:=FirstErr.unique hv bd.out
 rcases r with ⟨c5,_⟩ | ⟨_,P2,M2,N2,e1,e2,e3,hD⟩
 ·exact absurd rfl c5
 obtain rfl:P'=P2:=by omega
 obtain rfl:M'=M2:=by omega
 obtain rfl:N'=N2:=by omega
 obtain ⟨dv,lv,a,H,rfl,bn,ay,_,hrel⟩:=hD
 have cw:=HC.out.n_le
 have ce:=hrel.count al.out bc.out HC.out.rref
 have K:=hid hrel
 have bz:=hid hrel.rref.choose_spec.lt
 obtain ⟨DA,dc,cd⟩:=bn.shape
 subst cd
 obtain ⟨LA,lc,cb⟩:=ay.shape
 subst cb
 replace HG:=hid (HG.out.on kb);replace K6:=hid (onS K6.out kb);replace KB:=hid (onS KB.out kb);clear kb hv hrel bn e1 e2 e3 q0 q1 q2 q3 q4
 go_upto_region 6 with fail
 obtain ⟨w8,bi,kb,rd⟩:=zaG w7 (.int .i64 (P':Nat)) (.int .i64 (M':Nat)) (.slice DA k dc) (.int .i64 (N':Nat)) (.slice LA a lc) 27
 rw [<-bi] at ⊢
 obtain ⟨b8,bp⟩:=exx w7.heap.size
 rw [<-bp] at rd ⊢;clear bi bp
 have bu:MRows w8 LA a N' H:=MTab.rd (ay.on kb) C bz.out
 have c3:=hid bu
 replace HG:=hid (HG.out.on kb);replace K6:=hid (onS K6.out kb);replace KB:=hid (onS KB.out kb)
 have y2:=qc4 rd
 obtain ⟨t0,t1⟩:=ak.out _ K6.out
 clear kb rd ay bu
 go_wp2_with fail
 have l:=zeQ T GA HA LA gc hc lc a (P' ^ M') H w8 (hid rfl) HG.out (b6.out.on K6.out) aj.out (by rw [U]; exact c3.out) (fun k hk i hi=>bz.out k hk i (by omega)) (by omega)
 rw [ag,U] at l
 refine l.mono ?_
 clear l
 rintro e w9 ⟨kb,⟨c7,go,rfl,G⟩ | ⟨c8,_⟩⟩
 rotate_left
 ·have h1:=(zlc al.out bc.out HC.out.rref K.out b3.out b4.out be.out bb.out b9.out b5.out).1
  rw [<-ai.out] at h1
  exact absurd h1 c8
 have Z:∀ i u k,T.syn (addF P' M') (mulF P' M' fun i=>(f i).toNat) H i u k<P' ^ M':=fun i u k=>Trel.syn_lt al.out i u k
 have m:=hid Z
 obtain ⟨SY,Y⟩:=exx (T.syn (addF P' M') (mulF P' M' fun i=>(f i).toNat) H)
 rw [<-Y] at G m
 have co:=hid Y
 have bf:=hid G
 have O:Hid (∀ i,i<=N'->∀ u v,u<(T.W i).toNat->v<(T.W i).toNat->(∀ k,k<a->SY i u k=SY i v k)->u=v):=hid fun i hi u v hu hv he=>by
  rw [Y,ai.out] at he;rw [ai.out] at hu hv
  exact zjk al.out bc.out HC.out.rref K.out b3.out b4.out be.out bb.out b9.out b5.out hi hu hv he
 have cl:Hid (∀ i,i<=N'->1<=T.W i/\T.W i<=65536):=hid fun i hi=>aj.out.shape.wid (by omega)
 replace K6:=hid (onS K6.out kb);replace KB:=hid (onS KB.out kb);clear kb c7 G Z Y y2 t0 t1 c3 HG
 obtain ⟨t0,t1⟩:=ak.out _ K6.out
 have bl:=fun W=>zaf (P:=Tryz.prog) 25 22 _ 24 Tryz.underlying25 Tryz.infoInts rfl ((N':Int)+1) (by omega) (by omega) (by omega) W
 simp only [show ((N':Int)+1).toNat=N'+1 by omega] at bl
 go_upto_region 8 with fail
 clear bl t0 t1
 have kb:=aly w9 (Obj.cells (madeCells #[Value.slice none 0 0] (N'+1)) 22)
 have rz:World.rowIs (World.alloc w9 (Obj.cells (madeCells #[Value.slice none 0 0] (N'+1)) 22)) w9.heap.size 22 (N'+1) (fun _=>.slice none 0 0):=World.rowIs_made _ (.slice none 0 0) (N'+1) 22
 obtain ⟨w10,hw⟩:=exx (World.alloc w9 (Obj.cells (madeCells #[Value.slice none 0 0] (N'+1)) 22))
 rw [<-hw] at kb rz ⊢
 obtain ⟨gN,bm⟩:=exx w9.heap.size
 rw [<-bm] at rz ⊢
 have cu:Hid (w9.heap.size<=gN):=hid (by omega)
 have L:Hid (NmT w10 gN (N'+1) 0 (fun _=>.slice none 0 0) (fun i=>(T.W i).toNat) (synN (P' ^ M') a T SY)):=hid ⟨rz,fun j hj=>absurd hj (by omega)⟩
 have bw:=hid kb
 clear hw kb rz bm
 go_wp2_with fail
 go_loopg [49] (N'+1) (fun gg iv wx=>∃ (i:Nat) (F:Nat->Value),iv=.int .i64 (i:Nat)/\i<=N'+1/\N'+1<=i+gg/\Hid (NmT wx gN (N'+1) i F (fun i=>(T.W i).toNat) (synN (P' ^ M') a T SY))/\Hid (Below w9.heap.size w9 wx))
 case atStart=>exact ⟨0,_,rfl,by omega,by omega,L,bw⟩
 clear L bw
 obtain ⟨i,F,rfl,hi,cx,L,KX⟩:=hrel
 have cy:(0:Int)<=(i:Int):=by omega
 obtain ⟨w11,am⟩:=exx wr
 subst am
 by_cases hiN:i<N'+1
 rotate_left
 ·have ar:¬ (i:Int)<(N':Int)+1:=by omega
  obtain rfl:i=N'+1:=by omega
  obtain ⟨t0,t1⟩:=ak.out _ (onS K6.out KX.out)
  go_wp2_with fail
  have l:=zdE T (synN (P' ^ M') a T SY) (fun i hi u v hu hv e=>O.out i (by omega) u v hu hv ((zdl (m.out i u) (m.out i v) a).2.1 (by
   have e:rankOf (fun u=>keyV (P' ^ M') (SY i u) a) (T.W i).toNat u=rankOf (fun u=>keyV (P' ^ M') (SY i u) a) (T.W i).toNat v:=e
   rw [zeK (fun a' b' ha hb hab=>O.out i (by omega) a' b' ha hb ((zdl (m.out i a') (m.out i b') a).2.1 hab)) hu hv e]))) GA HA (some ⟨gN,0,none⟩) gc hc (N'+1) w11 (b6.out.on (onS K6.out KX.out)) aj.out a9 (by rw [U]; exact L.out.rows)
  rw [ag,U] at l
  refine l.mono ?_
  clear l
  rintro e w12 ⟨kb,z,ZA,ZB,zc,zd,rfl,hz,bh⟩
  have o:=zaa c1.out (onS KB.out (onS KX.out kb))
  have ba:=hid bh
  have HZ:=hid hz
  have ck:=hid (onS KX.out kb)
  clear kb hz bh t0 t1
  have r0:=o.cell (i:=0) (by omega)
  have r1:=o.cell (i:=1) (by omega)
  have z0:=o.frozen 0
  have z1:=o.frozen 1
  have p0:=o.set 0 (.slice ZA (N'+1) zc)
  have p1:=p0.cell (i:=1) (by omega)
  rw [if_neg (by omega)] at p1
  have p2:=p0.frozen 1
  have p3:=p0.set 1 (.slice ZB N' zd)
  have p4:=p3.cell (i:=0) (by omega)
  have p5:=p3.cell (i:=1) (by omega)
  rw [if_neg (by omega),if_pos rfl] at p4
  rw [if_pos rfl] at p5
  have cr:=hid o
  have cs:=hid p0
  clear o p0 p3
  go_wp2
  refine bodyPost_ret (v:=.tuple #[.agg #[.slice ZA (N'+1) zc,.slice ZB N' zd],.int .i64 0]) (by simp [results,Tryz.results32, go_sem,p4,p5]) rfl ?_
  have a7:w.heap.size<=rb:=c2.out.1
  have aq:=(ba.out.setCell (b:=rb) (i:=0) cr.out (by decide) (by decide) (by decide) (.slice ZA (N'+1) zc)).setCell (b:=rb) (i:=1) cs.out (by decide) (by decide) (by decide) (.slice ZB N' zd)
  have hz:=HZ.out
  have I:=ai.out
  have Y:=co.out
  have ca:S.nw=N'+1:=by rw [<-cm.out]; exact ag
  have c9:S.n=N':=by rw [<-cn.out]; exact U
  rw [Y] at hz
  subst I
  exact ⟨((onS HB.out (onS KB.out ck.out)).setCell (p:=⟨rb,0,none⟩) a7 _).setCell (p:=⟨rb,1,none⟩) a7 _,0,bd.out,.inr ⟨rfl,P',M',N',rfl,rfl,rfl,pv,R,b4.out,b3.out,be.out,.inr ⟨cp.out,S,y,z,a,H,ZA,ZB,zc,zd,bb.out,b9.out,b5.out,K.out,hz,aq,by rw [ca,c9]⟩⟩⟩
 have ar:(i:Int)<(N':Int)+1:=by omega
 obtain ⟨gs,R',q,az⟩:=bf.out i (by omega)
 obtain ⟨Wi,ax⟩:=exx ((T.W i).toNat)
 have c4:=cl.out i (by omega)
 rw [<-ax] at q az
 have cf:1<=Wi/\Wi<=65536:=by omega
 have ac:=hid ax
 have ct:=hid az
 have x0:=cellS KX.out q
 clear q az ax c4
 go_upto_region 11 with fail
 have kb:=aly w11 (Obj.cells #[Value.slice (some ⟨gs,0,none⟩) Wi Wi] 25)
 have rx:(w11.alloc (Obj.cells #[Value.slice (some ⟨gs,0,none⟩) Wi Wi] 25)).rowIs w11.heap.size 25 1 (fun _=>.slice (some ⟨gs,0,none⟩) Wi Wi):=World.rowIs_alloc _ _ _ _ (fun j hj=>by
  match j,hj with
  | 0,_=>rfl)
 obtain ⟨w12,hw⟩:=exx (w11.alloc (Obj.cells #[Value.slice (some ⟨gs,0,none⟩) Wi Wi] 25))
 rw [<-hw] at kb rx ⊢
 obtain ⟨bx,bo⟩:=exx w11.heap.size
 rw [<-bo] at rx ⊢
 have y0:=qc0 rx
 have cq:=hid rx
 replace L:=hid (L.out.on kb);replace KX:=hid (onS KX.out kb);clear hw bo kb rx x0
 go_wp2_with fail
 have a0:∀ u k,SY i u k<256:=fun u k=>Nat.lt_of_lt_of_le (m.out i u k) C
 refine (zdD 82 #[.pointer (some ⟨bx,0,none⟩)] Wi (fun u v=>cmpL a (fun k=>((SY i u k:Nat):Int)) (fun k=>((SY i v k:Nat):Int))) (fun u=>keyV (P' ^ M') (SY i u) a) w12 (enters_of Tryz.func82 (by kernel_rfl) rfl)
  (fun X hX u v hu hv=>zhW bx (some ⟨gs,0,none⟩) Wi Wi a (fun u k=>((SY i u k:Nat):Int)) X ((zaa cq.out hX).cell (i:=0) (by omega)) ((ct.out.on (onS KX.out hX)).rows a0) (by omega) u v hu hv)
  (fun u v _ _=>zj7.trans (zdl (m.out i u) (m.out i v) a).1.symm) (fun u v hu hv e=>O.out i (by omega) u v (by rw [<-ac.out]; exact hu) (by rw [<-ac.out]; exact hv) ((zdl (m.out i u) (m.out i v) a).2.1 e)) (by omega) (by omega)).mono ?_
 rintro e w13 ⟨g2,rfl,a5,cc,kb⟩
 have bk:RowV 0 w13 (.slice (some ⟨g2,0,none⟩) Wi Wi) ((fun i=>(T.W i).toNat) i) (fun v=>((synN (P' ^ M') a T SY i v:Nat):Int)):=by
  show RowV 0 w13 (.slice (some ⟨g2,0,none⟩) Wi Wi) (T.W i).toNat _
  rw [<-ac.out]
  refine zdm (a5.congr fun v hv=>?_) (Nat.zero_le _) (by omega) fun v hv=>?_
  ·unfold synN
   rw [<-ac.out]
  have h1:synN (P' ^ M') a T SY i v<Wi:=by
   unfold synN
   rw [<-ac.out]
   exact zdg hv
  omega
 have ad:=L.out.on kb
 have c0:=ad.1.cell hiN
 have z0:=ad.1.frozen i
 have a6:=ad.put bk
 have bg:=(onS KX.out kb).setCell (p:=⟨gN,i,none⟩) cu.out (.slice (some ⟨g2,0,none⟩) Wi Wi)
 have b7:=hid a6
 have cj:=hid bg
 clear a5 cc kb bk ad a6 bg y0
 go_wp2
 go_roundg (gk - 1)
 case measure=>omega
 case rel=>exact ⟨i+1,_,by go_num,by omega,by omega,b7,cj⟩
theorem zkV {P M N n k:Nat} {f:Nat->Int} {V:Nat->Nat->Int} {pv:Nat->Nat} {R:Nat->Nat->Nat} (hL:FieldLaws (P ^ M) (addF P M) (mulF P M fun i=>(f i).toNat)) (hSF:SpanF (P ^ M) n N pv R) (hV:∀ i,i<n->∀ j,j<N->natT V i j<P ^ M)
  (hSP:SameSp (P ^ M) (addF P M) (mulF P M fun i=>(f i).toNat) N n n (natT V) R) (hDI:∀ i j,i<j->j<n->lE (R i) N≠lE (R j) N) (hSI:SizeIn (P ^ M) n N pv R):¬ BigC (P:Int) (M:Int) k f (N:Int) n V:=by
 rintro ⟨P2,M2,N2,e1,e2,e3,pr,se,hp,hs,h3⟩
 obtain rfl:P=P2:=by omega
 obtain rfl:M=M2:=by omega
 obtain rfl:N=N2:=by omega
 exact h3 ((zfu hL hSF hV hSP hDI hp hs).2 hSI)
end Go.Proofs.YtgekjfpapmlndaaGreat