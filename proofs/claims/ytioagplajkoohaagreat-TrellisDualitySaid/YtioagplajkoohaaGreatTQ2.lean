/- Merged texts of a claim: NatLow, NatLo2, PolW, FldLaw. -/
import Derived.Test.YtioagplajkoohaaGreatTQ1
import Derived.Deep.LoopGhost
import Derived.IntWalk
import Derived.Deep.DeepCutAuto
import Derived.Test.YtioagplajkoohaaGreatRows
import Derived.WalkKit
import Derived.Laws.Bits64b
import Derived.Shelf.Small.Bits
import Derived.Deep.QuietTactic
import Derived.BigQuiet
namespace Go.Proofs.YtioagplajkoohaaGreat
set_option maxRecDepth 100000
set_option maxHeartbeats 32000000
open KB KE
def nv (f:Nat->Nat):Nat->Nat
 | 0=>0
 | k+1=>nv f k+f k*4294967296 ^ k
def dg (x i:Nat):Nat:=x / 4294967296 ^ i % 4294967296
def dl (x:Nat):Nat:=if h:x=0 then 0 else dl (x / 4294967296)+1
termination_by x
decreasing_by exact Nat.div_lt_self (by omega) (by omega)
theorem zjB (n:Nat):0<4294967296 ^ n:=Nat.pow_pos (by omega)
theorem zdm {f g:Nat->Nat} {n:Nat} (h:∀ i,i<n->f i=g i):nv f n=nv g n:=by
 induction n with
 | zero=>rfl
 | succ n ih=>simp only [nv]; rw [ih fun i hi=>h i (by omega),h n (by omega)]
theorem zi5 {f:Nat->Nat} {n:Nat} (h:∀ i,i<n->f i<4294967296):nv f n<4294967296 ^ n:=by
 induction n with
 | zero=>simp [nv]
 | succ n ih =>
  have h1:=ih fun i hi=>h i (by omega)
  have h2:=h n (by omega)
  have h3:(f n+1)*4294967296 ^ n<=4294967296*4294967296 ^ n:=Nat.mul_le_mul_right _ h2
  simp only [nv,Nat.pow_succ]
  grind
theorem zeA {f:Nat->Nat} {n m:Nat} (hnm:n<=m) (h:∀ i,n<=i->i<m->f i=0):nv f m=nv f n:=by
  induction m with
  | zero => have : n = 0 := by omega
            rw [this]
  | succ m ih =>
    by_cases e:n=m+1
    · rw [e]
    · simp only [nv]
      rw [ih (by omega) fun i h1 h2=>h i h1 (by omega),h m (by omega) (by omega)]
      omega
theorem zh2 {f:Nat->Nat} {n:Nat} (h:∀ i,i<n->f i=0):nv f n=0:=zeA (Nat.zero_le n) fun i _ hi=>h i hi
theorem zi7 (f:Nat->Nat) (n:Nat):nv f (n+1)=f 0+4294967296*nv (fun i=>f (i+1)) n:=by
 induction n with
 | zero=>simp [nv]
 | succ n ih =>
  have h1:nv f (n+1+1)=nv f (n+1)+f (n+1)*4294967296 ^ (n+1):=rfl
  have h2:nv (fun i=>f (i+1)) (n+1)=nv (fun i=>f (i+1)) n+f (n+1)*4294967296 ^ n:=rfl
  rw [h1,h2,ih,Nat.pow_succ]
  grind
theorem zjL {f:Nat->Nat} {n k:Nat} (hk:k<n) (h:f k≠0):4294967296 ^ k<=nv f n:=by
 induction n with
 | zero=>omega
 | succ n ih =>
  simp only [nv]
  by_cases e:k=n
  ·subst e
   have:1*4294967296 ^ k<=f k*4294967296 ^ k:=Nat.mul_le_mul_right _ (by omega)
   omega
  ·have:=ih (by omega)
   omega
theorem zip (x i:Nat):dg x i<4294967296:=Nat.mod_lt _ (by omega)
theorem ze2 (x i:Nat):dg x (i+1)=dg (x / 4294967296) i:=by
 unfold dg
 rw [Nat.pow_succ,Nat.mul_comm,Nat.div_div_eq_div_mul]
theorem zcA (x:Nat):dg x 0=x % 4294967296:=by simp [dg]
theorem zaT:dl 0=0:=by unfold dl; simp
theorem zeB {x:Nat} (h:x≠0):dl x=dl (x / 4294967296)+1:=by rw [dl]; simp [h]
theorem zdX (x:Nat):nv (dg x) (dl x)=x:=by
 induction x using Nat.strongRecOn with
 | _ x ih =>
  by_cases h:x=0
  ·subst h; rw [zaT]; rfl
  ·rw [zeB h,zi7,zcA]
   have:=ih (x / 4294967296) (Nat.div_lt_self (by omega) (by omega))
   rw [show (fun i=>dg x (i+1))=dg (x / 4294967296) from funext fun i=>ze2 x i,this]
   exact Nat.mod_add_div x 4294967296
theorem zi8 {x:Nat} (h:x≠0):dg x (dl x - 1)≠0:=by
 induction x using Nat.strongRecOn with
 | _ x ih =>
  rw [zeB h,Nat.add_sub_cancel]
  by_cases h1:x / 4294967296=0
  ·rw [h1,zaT,zcA]
   have:=Nat.mod_add_div x 4294967296
   rw [h1] at this
   omega
  ·have h2:=ih (x / 4294967296) (Nat.div_lt_self (by omega) (by omega)) h1
   have h3:=zeB h1
   rw [h3,Nat.add_sub_cancel] at h2;rw [h3,ze2]
   exact h2
theorem zcB {x:Nat}:dl x=0↔x=0:=by
 constructor
 ·intro h
  rcases Nat.eq_zero_or_pos x with h0 | h0
  ·exact h0
  ·rw [zeB (by omega)] at h; omega
 ·intro h; rw [h]; exact zaT
theorem ze3 (x:Nat):x<4294967296 ^ dl x:=by
 have:=zi5 (f:=dg x) (n:=dl x) fun i _=>zip x i
 rwa [zdX] at this
theorem zhk {x:Nat} (h:x≠0):4294967296 ^ (dl x - 1)<=x:=by
 have h1:dl x≠0:=fun e=>h (zcB.1 e)
 have:=zjL (f:=dg x) (n:=dl x) (k:=dl x - 1) (by omega) (zi8 h)
 rwa [zdX] at this
theorem zhe {x n:Nat} (h:x<4294967296 ^ n):dl x<=n:=by
 by_cases h0:x=0
 ·rw [h0,zaT]; omega
 ·have h1:=zhk h0
  have h2:4294967296 ^ (dl x - 1)<4294967296 ^ n:=by omega
  have:=(Nat.pow_lt_pow_iff_right (a:=4294967296) (by omega)).1 h2
  omega
theorem zjM {f:Nat->Nat} {n:Nat} (h:∀ i,i<n->f i<4294967296):∀ i,i<n->dg (nv f n) i=f i:=by
 induction n generalizing f with
 | zero=>intro i hi; omega
 | succ n ih =>
  intro i hi
  rw [zi7]
  have h0:=h 0 (by omega)
  cases i with
  | zero =>
   rw [zcA,Nat.add_mul_mod_self_left,Nat.mod_eq_of_lt h0]
  | succ i =>
   rw [ze2,Nat.add_mul_div_left _ _ (by omega),Nat.div_eq_of_lt h0,Nat.zero_add]
   exact ih (f:=fun i=>f (i+1)) (fun i hi=>h (i+1) (by omega)) i (by omega)
theorem zjA {f:Nat->Nat} {n m:Nat} (hnm:n<=m) (h:∀ i,i<m->f i<4294967296) (hz:∀ i,n<=i->i<m->f i=0) (hl:n=0∨f (n - 1)≠0):dl (nv f m)=n/\∀ i,i<n->dg (nv f m) i=f i:=by
 have hv:=zeA hnm hz
 rw [hv]
 refine ⟨?_,zjM fun i hi=>h i (by omega)⟩
 have h1:=zhe (zi5 (f:=f) (n:=n) fun i hi=>h i (by omega))
 rcases hl with h0 | h0
 ·omega
 ·rcases Nat.eq_zero_or_pos n with e | e
  ·omega
  ·have h2:=zjL (f:=f) (n:=n) (k:=n - 1) (by omega) h0
   have h3:=ze3 (nv f n)
   have h4:4294967296 ^ (n - 1)<4294967296 ^ dl (nv f n):=by omega
   have:=(Nat.pow_lt_pow_iff_right (a:=4294967296) (by omega)).1 h4
   omega
theorem zcC {x y:Nat} (h:x<=y):dl x<=dl y:=zhe (Nat.lt_of_le_of_lt h (ze3 y))
def upd (f:Nat->Nat) (k v:Nat):Nat->Nat:=fun i=>if i=k then v else f i
theorem zcD (f:Nat->Nat) (k v:Nat):upd f k v k=v:=by simp [upd]
theorem zbl {f:Nat->Nat} {k v i:Nat} (h:i≠k):upd f k v i=f i:=by simp [upd,h]
theorem zcu {f:Nat->Nat} {k v n:Nat} (h:n<=k):nv (upd f k v) n=nv f n:=zdm fun i hi=>zbl (by omega)
theorem ziq {f:Nat->Nat} {k v n:Nat} (h:k<n):nv (upd f k v) n+f k*4294967296 ^ k=nv f n+v*4294967296 ^ k:=by
 induction n with
 | zero=>omega
 | succ n ih =>
  simp only [nv]
  by_cases e:k=n
  ·subst e
   rw [zcu (Nat.le_refl _),zcD]
   omega
  ·rw [zbl (by omega)]
   have:=ih (by omega)
   omega
theorem zf3 (s P:Nat) (n:Nat):(s % 4294967296)*4294967296 ^ n*P+(s / 4294967296)*4294967296 ^ (n+1)*P=s*4294967296 ^ n*P:=by
 have h:=Nat.mod_add_div s 4294967296
 have h2:s*4294967296 ^ n*P=(s % 4294967296+4294967296*(s / 4294967296))*4294967296 ^ n*P:=by rw [h]
 rw [h2,Nat.pow_succ]
 grind
theorem zb9 (s:Nat) (n:Nat):(s % 4294967296)*4294967296 ^ n+(s / 4294967296)*4294967296 ^ (n+1)=s*4294967296 ^ n:=by
 have:=zf3 s 1 n
 simpa using this
def hv (f:Nat->Nat) (i n:Nat):Nat:=nv (fun j=>f (i+j)) (n - i)
open Go.RowKit
def Lims (w:World) (B:Nat) (A:Option Addr) (n:Nat) (f:Nat->Nat):Prop:=Rd w B A n 1 (fun i _=>.int .u32 (f i:Nat))
def NatOk (w:World) (B:Nat) (A:Option Addr) (x:Nat):Prop:=Lims w B A (dl x) (dg x)
section
variable {w w':World} {B B' n i:Nat} {A:Option Addr} {f:Nat->Nat} {x:Nat}
theorem Lims.at (h:Lims w B A n f) (hi:i<n):∃ b off,A=some ⟨b,off,none⟩/\b<B/\w.cell? ⟨b,off+i,none⟩=some (.int .u32 (f i:Nat)):=Rd.at1 h hi
theorem Lims.on (h:Lims w w.heap.size A n f) (hb:Below w.heap.size w w'):Lims w' w'.heap.size A n f:=(Rd.below h hb (Nat.le_refl _)).mono hb.size
theorem NatOk.on (h:NatOk w w.heap.size A x) (hb:Below w.heap.size w w'):NatOk w' w'.heap.size A x:=Lims.on h hb
end
theorem zca {w:World} {b n:Nat} {t:TypeId} {f:Nat->Nat} (h:w.rowIs b t n (fun i=>.int .u32 (f i:Nat))):Lims w w.heap.size (some ⟨b,0,none⟩) n f:=zbk h
def NatPost (x:Nat) (w:World) (e:Ending) (w':World):Prop :=
 ∃ A c,e=.returned (.slice A (dl x) c)/\dl x<=c/\c<=maxLen/\NatOk w' w'.heap.size A x/\Below w.heap.size w w'
theorem zbU {P:Program} (w:World) (t ty e:TypeId) (i:TypeInfo) (ht:P.underlying t=some (.slice e)) (hi:P.info? e=some i) (A:Option Addr) (c:Nat) :
  (Builtin.append_ #[t,t] ty #[.slice none 0 0,.slice A 0 c]).run P w=.ok (.slice none 0 0) w:=by
 cases A with
 | none=>simp [Builtin.append_,run_underlying ht,sizeOf,typeInfo,hi,Builtin.lenOf,Builtin.firstCells]
 | some a=>simp [Builtin.append_,run_underlying ht,sizeOf,typeInfo,hi,Builtin.lenOf,Builtin.firstCells,loadCells,loadCellsFrom]
section
variable {P:Program} {w:World}
theorem zbv {ops:Array Oper} {rest:List Oper} {o:Oper} {a:Act} {Q:Exit->Act->World->Prop} (hgd:o.guard=none) (sl x:Operand) (t:TypeId)
  (ho:o.op=.call { callee:=.builtin .append,args:=#[sl,x],argTypes:=#[t,t] })
  (e:TypeId) (i:TypeInfo) (ht:P.underlying t=some (.slice e)) (hi:P.info? e=some i) (hv:a.eval sl=.slice none 0 0)
  (A:Option Addr) (c:Nat) (hx:a.eval x=.slice A 0 c)
  (h:wpList P ops Q rest (a.put o.dst (.slice none 0 0)) w):wpList P ops Q (o :: rest) a w:=by
 refine wpList_plain hgd fun K hK=>?_
 have hrun:=zbU (P:=P) w t o.type e i ht hi A c
 unfold Oper.wp execOp
 simp only [ho,resolve,invoke,builtin,Sem.run_bind,Sem.run_pure,Result.andThen_ok,List.map_toArray,List.map_cons,List.map_nil,hv,hx,hrun]
 exact hK _ _ h
theorem zal {ops:Array Oper} {rest:List Oper} {o:Oper} {a:Act} {Q:Exit->Act->World->Prop} (hgd:o.guard=none) (sl x:Operand) (t:TypeId)
  (ho:o.op=.call { callee:=.builtin .append,args:=#[sl,x],argTypes:=#[t,t] })
  (e:TypeId) (i:TypeInfo) (z:Value) (s bytes:Nat) (ht:P.underlying t=some (.slice e)) (hi:P.info? e=some i) (hz:i.zero=some z)
  (hsize:i.size=s) (hby:i.bytes=bytes) (hzs:z.cells.size=s) (hs:0<s) (A0:Option Addr) (hv:a.eval sl=.slice A0 0 0)
  (A:Option Addr) (m c:Nat) (f:Nat->Nat->Value) (hx:a.eval x=.slice A m c) (hsrc:Rd w w.heap.size A m s f) (hm:0<m) (h1:∀ k,k<m->∀ j,j<s->(f k j).oneCell'=true)
  (h63:m<=maxLen) (hbytes:m*bytes<=140737488355328)
  (h:∀ cap cur,m<=cap->cap<=maxLen->cap*s<=cur.size->(∀ k,k<m->∀ j,j<s->cur[k*s+j]?=some (f k j))->wpList P ops Q rest (a.put o.dst (.slice (some ⟨w.heap.size,0,none⟩) m cap)) (w.drew.alloc (.cells cur e))) :
  wpList P ops Q (o :: rest) a w:=by
 refine wpList_plain hgd fun K hK=>?_
 obtain ⟨cap,cur,hrun,h2,h3,h4,h5⟩:=za5 (P:=P) w t o.type e i z s bytes ht hi hz hsize hby hzs hs A0 A m c f hsrc hm h1 h63 hbytes
 unfold Oper.wp execOp
 simp only [ho,resolve,invoke,builtin,Sem.run_bind,Sem.run_pure,Result.andThen_ok,List.map_toArray,List.map_cons,List.map_nil,hv,hx,hrun]
 exact hK _ _ (h cap cur h2 h3 h4 h5)
end
theorem Tryz.infoU32:(Tryz.prog.info? 110).map (fun i=>(i.zero,i.size,i.bytes))=some (some (.int .u32 0),1,4):=by kernel_rfl
theorem zcv (A:Option Addr) (n c:Nat) (f:Nat->Nat) (w:World) (h:Lims w w.heap.size A n f) (hf:Hid (∀ i,i<n->f i<4294967296)) (hc:n<=c) (hm:c<=maxLen) :
  Calls Tryz.prog 149 #[.slice A n c] w fun e w'=>e=.returned (.slice A (dl (nv f n)) (dl (nv f n)))/\NatOk w w.heap.size A (nv f n)/\w=w':=by
 have hm9:c<=9223372036854775807:=by unfold maxLen at hm; omega
 go_enter Tryz.func149, Tryz.ntmps149
 go_wp2
 go_loopg [3] n (fun g kv wx=>∃ k:Nat,k<=n/\k<=g/\kv=.int .i64 (k:Nat)/\Hid (∀ i,k<=i->i<n->f i=0)/\w=wx)
 case atStart=>exact ⟨n,by omega,by omega,rfl,hid fun i h1 h2=>absurd h1 (by omega),rfl⟩
 case round =>
  obtain ⟨k,hk,hkg,rfl,hz,rfl⟩:=hrel
  by_cases h0:0<k
  ·obtain ⟨b,o,rfl,hb,e0⟩:=h.at (i:=k - 1) (by omega)
   have h0':(0:Int)<(k:Int):=by omega
   have hw2:((k:Int) - 1).toNat=k - 1:=by omega
   by_cases hz0:f (k - 1)=0
   ·rw [hz0] at e0
    have HN:Hid (∀ i,k - 1<=i->i<n->f i=0):=fun i h1 h2=>by
     by_cases e:i=k - 1
     ·rw [e]; exact hz0
     ·exact hz.out i (by omega) h2
    clear hz0
    go_wp2
    go_roundg (gk - 1)
    case measure=>omega
    case rel=>exact ⟨k - 1,by omega,by omega,by congr 1; omega,HN,rfl⟩
   ·obtain ⟨d1,d2⟩:=zjA (f:=f) hk hf.out hz.out (.inr hz0)
    obtain ⟨v,hv⟩:∃ v:Int,v=(f (k - 1):Nat):=⟨_,rfl⟩
    rw [<-hv] at e0
    have hv2:(v == 0)=false:=by simp; omega
    have D1:=hid d1
    have hR:NatOk w w.heap.size (some ⟨b,o,none⟩) (nv f n):=by
     unfold NatOk Lims
     rw [d1]
     exact fun i hi=>by
      obtain ⟨b',o',e,hb',hc'⟩:=h i (by omega)
      exact ⟨b',o',e,hb',fun j hj=>by show _=some (Value.int .u32 (dg (nv f n) i:Nat)); rw [d2 i hi]; exact hc' j hj⟩
    clear hv d1 d2 hz0
    go_wp2
    go_ret
    exact ⟨by rw [D1.out]; rfl,hR,rfl⟩
  ·obtain rfl:k=0:=by omega
   obtain ⟨d1,d2⟩:=zjA (f:=f) hk hf.out hz.out (.inl rfl)
   have D1:=hid d1
   have hR:NatOk w w.heap.size A (nv f n):=by
    unfold NatOk Lims
    rw [d1]
    exact fun i hi=>absurd hi (by omega)
   clear d1 d2
   cases A with
   | none =>
    go_wp2
    go_ret
    exact ⟨by rw [D1.out]; rfl,hR,rfl⟩
   | some a =>
    go_wp2
    go_ret
    exact ⟨by rw [D1.out]; rfl,hR,rfl⟩
theorem zf4 (A:Option Addr) (n c:Nat) (f:Nat->Nat) (w:World) (h:Lims w w.heap.size A n f) (hf:Hid (∀ i,i<n->f i<4294967296)) (hc:n<=c) (hm:c<=maxLen) (hn:n<=1073741824) :
  Calls Tryz.prog 192 #[.slice A n c] w (NatPost (nv f n) w):=by
 obtain ⟨i0,qi0,qz0,qz1,qz2⟩:=info_parts Tryz.infoU32
 have hl:dl (nv f n)<=n:=zhe (zi5 hf.out)
 obtain ⟨x,hx⟩:∃ x,nv f n=x:=⟨_,rfl⟩
 have HX:=hid hx
 rw [hx] at hl ⊢;clear hx
 go_enter Tryz.func192, Tryz.ntmps192
 go_wp2_with fail
 refine (zcv A n c f w h hf hc hm).mono ?_
 rintro e w1 ⟨rfl,hR,rfl⟩
 rw [HX.out] at hR ⊢
 rcases Nat.eq_zero_or_pos (dl x) with h0 | h0
 ·have H0:=hid h0
  rw [h0];clear h0
  go_wp2_with (first | (at_builtin; (refine zbv rfl (.const (.slice none 0 0)) (.tmp 4) _ rfl 110 i0 Tryz.underlying47 qi0 rfl A 0 rfl ?_)))
  go_ret
  exact ⟨none,0,by rw [H0.out]; rfl,by have:=H0.out; omega,by unfold maxLen; omega,fun i hi=>absurd hi (by have:=H0.out; omega),Below.refl _ _⟩
 ·have n3:Hid (dl x<=maxLen):=by show _<=_; unfold maxLen; omega
  have n4:Hid (dl x*4<=140737488355328):=by show _<=_; omega
  go_wp2_with (first | (at_builtin; (refine zal rfl (.const (.slice none 0 0)) (.tmp 4) _ rfl 110 i0 _ 1 4 Tryz.underlying47 qi0 qz0 qz1 qz2 rfl (by omega) none rfl A (dl x) (dl x) (fun i _=>.int .u32 (dg x i:Nat)) rfl hR h0 (fun _ _ _ _=>rfl) n3.out n4.out ?_); intro cap cur k1 k2 k3 k4))
  go_ret
  have hO:=Own.new (w:=w) (base:=w.heap.size) (e := 110) (Nat.le_refl _) k1 k2 k3 k4
  exact ⟨_,cap,rfl,k1,k2,hO.drew.rd rfl,(((Below.refl _ _).alloc (Nat.le_refl _) _).drew)⟩
def two (x:Nat) (i:Nat):Nat:=if i=0 then x % 4294967296 else x / 4294967296
theorem zi9 (x:Nat):nv (two x) 2=x:=by
 simp only [nv,two]
 have:=Nat.mod_add_div x 4294967296
 simp
 omega
theorem zcw (x:Nat) (w:World) (hx:x<18446744073709551616) :
  Calls Tryz.prog 121 #[.int .u64 (x:Nat)] w (NatPost x w):=by
 have hL:Lims (w.alloc (Obj.cells #[Value.int .u32 ((x:Int) % 4294967296),Value.int .u32 ((x:Int) / 4294967296)] 110)) (w.alloc (Obj.cells #[Value.int .u32 ((x:Int) % 4294967296),Value.int .u32 ((x:Int) / 4294967296)] 110)).heap.size (some ⟨w.heap.size,0,none⟩) 2 (two x):=by
  refine zca (t := 110) ⟨_,heap_alloc_new _ _,rfl,fun i hi=>?_⟩
  match i,hi with
  | 0,_=>simp [two]
  | 1,_=>simp [two]
 have H2:Hid (∀ i,i<2->two x i<4294967296):=fun i hi=>by
  unfold two
  split <;> omega
 go_enter Tryz.func121, Tryz.ntmps121
 go_wp2_with fail
 refine (zf4 _ 2 2 (two x) _ hL H2 (Nat.le_refl _) (by unfold maxLen; omega) (by omega)).mono ?_
 rintro e w2 ⟨A,c,rfl,g1,g2,g3,g4⟩
 rw [zi9] at g1 g3 ⊢
 have hB:=onS ((Below.refl _ _).alloc (Nat.le_refl _) _) g4
 clear g4 hL
 go_wp2
 go_ret
 exact ⟨A,c,rfl,g1,g2,g3,hB⟩
def padded (g:Nat->Nat) (m:Nat) (i:Nat):Nat:=if i<m then g i else 0
theorem zdn (g:Nat->Nat) {m n:Nat} (h:m<=n):nv (padded g m) n=nv g m:=by
 rw [zeA h fun i h1 _=>by unfold padded; rw [if_neg (by omega)]]
 exact zdm fun i hi=>by unfold padded; rw [if_pos hi]
theorem ze4 {g:Nat->Nat} {m:Nat} (h:∀ i,i<m->g i<4294967296) (i:Nat):padded g m i<4294967296:=by
 unfold padded
 split
 ·exact h i ‹_›
 ·omega
theorem zir (A A2:Option Addr) (n c n2 c2:Nat) (f f2:Nat->Nat) (w:World) (h:Lims w w.heap.size A n f) (h2:Lims w w.heap.size A2 n2 f2) (hf:Hid (∀ i,i<n->f i<4294967296)) (hf2:Hid (∀ i,i<n2->f2 i<4294967296)) (hn:n<=536870912) (hn2:n2<=536870912) :
  Calls Tryz.prog 252 #[.slice A n c,.slice A2 n2 c2] w (NatPost (nv f n+nv f2 n2) w):=by
 have hmk:=fun (x:Int) (h0:0<=x) (h1:x<=1073741824) W=>zaf (P:=Tryz.prog) 47 110 _ 4 Tryz.underlying47 Tryz.infoU32 rfl x h0 (by omega) (by omega) W
 go_enter Tryz.func252, Tryz.ntmps252
 go_upto_if 13 with fail
 go_cut [0,1] (fun v0 v1 wx=>∃ B m d,∃ g:Nat->Nat,∃ B2 m2 d2,∃ g2:Nat->Nat,v0=.slice B m d/\v1=.slice B2 m2 d2/\m2<=m/\m<=536870912/\Lims w w.heap.size B m g/\Lims w w.heap.size B2 m2 g2/\Hid (∀ i,i<m->g i<4294967296)/\Hid (∀ i,i<m2->g2 i<4294967296)/\Hid (nv f n+nv f2 n2=nv g m+nv g2 m2)/\w=wx)
 case first =>
  by_cases hlt:n<n2
  ·go_wp2
   go_meet
   exact ⟨A2,n2,c2,f2,A,n,c,f,rfl,rfl,by omega,hn2,h2,h,hf2,hf,Nat.add_comm _ _,rfl⟩
  ·go_wp2
   go_meet
   exact ⟨A,n,c,f,A2,n2,c2,f2,rfl,rfl,by omega,hn,h,h2,hf,hf2,rfl,rfl⟩
 case rest =>
  obtain ⟨B,m,d,g,B2,m2,d2,g2,rfl,rfl,hm,hmb,hg,hg2,hgb,hgb2,hsum,rfl⟩:=hcut
  clear h h2 hf hf2
  have hmk2:=fun W=>hmk ((m:Int)+1) (by omega) (by omega) W
  have e1:((m:Int)+1).toNat=m+1:=by omega
  have hrow0:=World.rowIs_made w (.int .u32 0) (m+1) 110
  clear hmk
  go_wp2
  go_loopg [22,6] m (fun gg iv cv wx=>∃ k cc:Nat,∃ o:Nat->Nat,iv=.int .i64 (k:Nat)/\cv=.int .u64 (cc:Nat)/\k<=m/\m<=k+gg/\cc<=1/\Below w.heap.size w wx/\wx.rowIs w.heap.size 110 (m+1) (fun i=>.int .u32 (o i:Nat))/\Hid (∀ i,o i<4294967296)/\Hid (nv o k+cc*4294967296 ^ k=nv g k+nv (padded g2 m2) k))
  case atStart=>exact ⟨0,0,fun _=>0,rfl,rfl,by omega,by omega,by omega,(Below.refl _ _).alloc (Nat.le_refl _) _,hrow0,hid fun _=>by show 0<_; omega,hid rfl⟩
  case round =>
   clear hrow0 hmk2
   obtain ⟨k,cc,o,rfl,rfl,hk,hkg,hcc,hB,hrow,HO,HV⟩:=hrel
   have hz:=hrow.lt
   by_cases hlt:k<m
   ·obtain ⟨b,o1,rfl,hb,e0⟩:=(hg.on hB).at hlt
    have q1:=hgb.out k hlt
    have y0:=hrow.cell (i:=k) (by omega)
    have z0:=hrow.frozen k
    have hlt':(k:Int)<(m:Int):=by omega
    have key:∀ t:Nat,t=padded g2 m2 k->Hid (nv (upd o k ((g k+cc+t) % 4294967296)) (k+1)+(g k+cc+t) / 4294967296*4294967296 ^ (k+1)=nv g (k+1)+nv (padded g2 m2) (k+1)):=fun t ht=>by
     show _=_
     simp only [nv]
     rw [zcu (Nat.le_refl _),zcD]
     have hv:=HV.out
     have hc:=zb9 (g k+cc+t) k
     rw [<-ht]
     grind
    have hrw:∀ s:Nat,∀ v:Int,v=((s % 4294967296:Nat):Int)->Hid ((wr.setCell ⟨w.heap.size,k,none⟩ (.int .u32 v)).rowIs w.heap.size 110 (m+1) (fun i=>.int .u32 (upd o k (s % 4294967296) i:Nat))):=fun s v hv=>by
     refine (hrow.set k _).congr fun i _=>?_
     unfold upd
     by_cases e:i=k
     ·rw [if_pos e,if_pos e,hv]
     ·rw [if_neg e,if_neg e]
    have hob:∀ s:Nat,Hid (∀ i,upd o k (s % 4294967296) i<4294967296):=fun s i=>by
     unfold upd
     split
     ·omega
     ·exact HO.out i
    by_cases hlt2:k<m2
    ·obtain ⟨b2,o2,rfl,hb2,e2⟩:=(hg2.on hB).at hlt2
     have q2:=hgb2.out k hlt2
     have hlt3:(k:Int)<(m2:Int):=by omega
     obtain ⟨x,hx⟩:∃ x,x=g k:=⟨_,rfl⟩
     obtain ⟨y,hy⟩:∃ y,y=g2 k:=⟨_,rfl⟩
     have K1:=key y (by rw [hy]; unfold padded; rw [if_pos hlt2])
     have K2:=hid (hrw (x+cc+y) (((x:Int)+cc+y) % 4294967296) (by omega))
     have K3:=hob (x+cc+y)
     rw [<-hx] at e0 q1 K1;rw [<-hy] at e2 q2;clear key hrw hob hx hy
     go_wp2
     go_roundg (gk - 1)
     case measure=>omega
     case rel=>exact ⟨k+1,(x+cc+y) / 4294967296,_,by go_num,by congr 1 <;> omega,by omega,by omega,by omega,hB.setCell (Nat.le_refl _) _,K2.out,K3,K1⟩
    ·have hlt3:¬ (k:Int)<(m2:Int):=by omega
     obtain ⟨x,hx⟩:∃ x,x=g k:=⟨_,rfl⟩
     have K1:=key 0 (by unfold padded; rw [if_neg hlt2])
     have K2:=hid (hrw (x+cc+0) (((x:Int)+cc) % 4294967296) (by omega))
     have K3:=hob (x+cc+0)
     rw [<-hx] at e0 q1 K1;clear key hrw hob hx
     go_wp2
     go_roundg (gk - 1)
     case measure=>omega
     case rel=>exact ⟨k+1,(x+cc+0) / 4294967296,_,by go_num,by congr 1 <;> omega,by omega,by omega,by omega,hB.setCell (Nat.le_refl _) _,K2.out,K3,K1⟩
   ·obtain rfl:k=m:=by omega
    have y0:=hrow.cell (i:=k) (by omega)
    have z0:=hrow.frozen k
    have e2:(k:Int)<(k:Int)+1:=by omega
    have HS:Hid (nv f n+nv f2 n2=nv (upd o k cc) (k+1)):=by
     show _=_
     simp only [nv]
     rw [zcu (Nat.le_refl _),zcD,HV.out,zdn g2 hm,hsum.out]
    have hrow2:(wr.setCell ⟨w.heap.size,k,none⟩ (.int .u32 (cc:Nat))).rowIs w.heap.size 110 (k+1) (fun i=>.int .u32 (upd o k cc i:Nat)):=by
     refine (hrow.set k _).congr fun i _=>?_
     unfold upd
     by_cases e:i=k
     ·rw [if_pos e,if_pos e]
     ·rw [if_neg e,if_neg e]
    have hob:Hid (∀ i,i<k+1->upd o k cc i<4294967296):=fun i _=>by
     unfold upd
     split
     ·omega
     ·exact HO.out i
    have hB2:Below w.heap.size w (wr.setCell ⟨w.heap.size,k,none⟩ (.int .u32 (cc:Nat))):=hB.setCell (Nat.le_refl _) _
    go_wp2_with fail
    refine (zcv (some ⟨w.heap.size,0,none⟩) (k+1) (k+1) (upd o k cc) _ (zca hrow2) hob (Nat.le_refl _) (by unfold maxLen; omega)).mono ?_
    rintro e w1 ⟨rfl,hR,rfl⟩
    rw [<-HS.out] at hR ⊢
    have hdl:dl (nv f n+nv f2 n2)<=k+1:=by rw [HS.out]; exact zhe (zi5 hob.out)
    clear hrow hrow2 hB HV HO y0 z0
    go_wp2
    go_ret
    exact ⟨_,_,rfl,Nat.le_refl _,by unfold maxLen; omega,hR,hB2⟩
def NatTab (w:World) (B:Nat) (T:Option Addr) (m:Nat) (x:Nat->Nat):Prop :=
 ∀ v,v<m->∃ b off A c,T=some ⟨b,off,none⟩/\b<B/\w.cell? ⟨b,off+v,none⟩=some (.slice A (dl (x v)) c)/\dl (x v)<=c/\c<=maxLen/\NatOk w B A (x v)
theorem NatTab.on {w w':World} {T:Option Addr} {m:Nat} {x:Nat->Nat} (h:NatTab w w.heap.size T m x) (hb:Below w.heap.size w w'):NatTab w' w'.heap.size T m x:=fun v hv=>by
 obtain ⟨b,off,A,c,e,h1,h2,h3,h4,h5⟩:=h v hv
 have:=hb.size
 exact ⟨b,off,A,c,e,by omega,by rw [hb.cell (by simp; omega)]; exact h2,h3,h4,h5.on hb⟩
def sumN (x:Nat->Nat):Nat->Nat
 | 0=>0
 | k+1=>sumN x k+x k
theorem zcE (x:Nat):Hid (∀ i,i<dl x->dg x i<4294967296):=fun i _=>zip x i
theorem zis (A A2:Option Addr) (c c2 x y:Nat) (w:World) (h:NatOk w w.heap.size A x) (h2:NatOk w w.heap.size A2 y) (hn:dl x<=536870912) (hn2:dl y<=536870912) :
  Calls Tryz.prog 252 #[.slice A (dl x) c,.slice A2 (dl y) c2] w (NatPost (x+y) w):=by
 have:=zir A A2 (dl x) c (dl y) c2 (dg x) (dg y) w h h2 (zcE x) (zcE y) hn hn2
 rwa [zdX,zdX] at this
theorem zbC (A:Option Addr) (c x:Nat) (w:World) (h:NatOk w w.heap.size A x) (hc:dl x<=c) (hm:c<=maxLen) :
  Calls Tryz.prog 149 #[.slice A (dl x) c] w fun e w'=>e=.returned (.slice A (dl x) (dl x))/\w=w':=by
 refine (zcv A (dl x) c (dg x) w h (zcE x) hc hm).mono ?_
 rintro e w' ⟨he,_,hw⟩
 rw [zdX] at he
 exact ⟨he,hw⟩
theorem zeC (A:Option Addr) (c x:Nat) (w:World) (h:NatOk w w.heap.size A x) (hc:dl x<=c) (hm:c<=maxLen) (hn:dl x<=1073741824) :
  Calls Tryz.prog 192 #[.slice A (dl x) c] w (NatPost x w):=by
 have:=zf4 A (dl x) c (dg x) w h (zcE x) hc hm hn
 rwa [zdX] at this
theorem zf5 (T:Option Addr) (m c:Nat) (x:Nat->Nat) (w:World) (h:NatTab w w.heap.size T m x) (hm:m<=1048576) (hs:Hid (∀ k,k<=m->dl (sumN x k)<=536870912)) (hx:Hid (∀ k,k<m->dl (x k)<=536870912)) :
  Calls Tryz.prog 221 #[.slice T m c] w (NatPost (sumN x m) w):=by
 go_enter Tryz.func221, Tryz.ntmps221
 go_wp2
 go_loopg [8,3] m (fun g iv sv wx=>∃ k:Nat,∃ A c,iv=.int .i64 (k:Nat)/\sv=.slice A (dl (sumN x k)) c/\k<=m/\m<=k+g/\dl (sumN x k)<=c/\c<=maxLen/\NatOk wx wx.heap.size A (sumN x k)/\Below w.heap.size w wx)
 case atStart=>exact ⟨0,none,0,rfl,by simp [sumN,zaT],by omega,by omega,by simp [sumN,zaT],by omega,fun i hi=>absurd hi (by simp [sumN,zaT]),Below.refl _ _⟩
 case round =>
  obtain ⟨k,A,cA,rfl,rfl,hk,hkg,hc,hcm,hA,hB⟩:=hrel
  by_cases hlt:k<m
  ·obtain ⟨b,off,B,cB,rfl,hb,e0,hcB,hcB2,hBk⟩:=(h.on hB) k hlt
   have hlt':(k:Int)<(m:Int):=by omega
   have H1:=hs.out k hk
   have H2:=hx.out k hlt
   go_wp2_with fail
   refine (zbC B cB (x k) wr hBk hcB hcB2).mono ?_
   rintro e w1 ⟨rfl,rfl⟩
   go_wp2_with fail
   refine (zis A B cA (dl (x k)) (sumN x k) (x k) wr hA hBk H1 H2).mono ?_
   rintro e w1 ⟨A',c',rfl,g1,g2,g3,g4⟩
   have hB2:=onS hB g4
   clear g4 hA hB hBk e0
   go_wp2
   go_roundg (gk - 1)
   case measure=>omega
   case rel=>exact ⟨k+1,A',c',by go_num,rfl,by omega,by omega,g1,g2,g3,hB2⟩
  ·obtain rfl:k=m:=by omega
   have H1:=hs.out k (Nat.le_refl _)
   go_wp2_with fail
   refine (zeC A cA (sumN x k) wr hA hc hcm (by omega)).mono ?_
   rintro e w1 ⟨A',c',rfl,g1,g2,g3,g4⟩
   have hB2:=onS hB g4
   clear g4
   go_wp2
   go_ret
   exact ⟨A',c',rfl,g1,g2,g3,hB2⟩
theorem zdo {x y:Nat} (hx:x<4294967296) (hy:y<4294967296):x*y<=18446744065119617025:=by
 have:x*y<=4294967295*4294967295:=Nat.mul_le_mul (by omega) (by omega)
 omega
theorem zdY {o g:Nat->Nat} {N k j x cc y:Nat} {v:Nat} (hkj:k+j<N) (hv:nv o N+cc*4294967296 ^ (k+j)=v+x*nv g j*4294967296 ^ k) (hy:y=g j) :
  nv (upd o (k+j) ((x*y+o (k+j)+cc) % 4294967296)) N+(x*y+o (k+j)+cc) / 4294967296*4294967296 ^ (k+(j+1))=v+x*nv g (j+1)*4294967296 ^ k:=by
 have h1:=ziq (f:=o) (v:=(x*y+o (k+j)+cc) % 4294967296) hkj
 have h2:=zb9 (x*y+o (k+j)+cc) (k+j)
 have h3:(4294967296:Nat) ^ (k+j)=4294967296 ^ k*4294967296 ^ j:=Nat.pow_add _ _ _
 simp only [nv]
 rw [show k+(j+1)=k+j+1 by omega,<-hy]
 generalize (x*y+o (k+j)+cc) % 4294967296=r at *
 generalize (x*y+o (k+j)+cc) / 4294967296*4294967296 ^ (k+j+1)=q at *
 generalize nv (upd o (k+j) r) N=u at *
 grind
theorem zhl (A A2:Option Addr) (n c m c2:Nat) (f g:Nat->Nat) (w:World) (h:Lims w w.heap.size A n f) (h2:Lims w w.heap.size A2 m g) (hf:Hid (∀ i,i<n->f i<4294967296)) (hg:Hid (∀ i,i<m->g i<4294967296)) (hn:n<=536870912) (hm:m<=536870912) :
  Calls Tryz.prog 191 #[.slice A n c,.slice A2 m c2] w (NatPost (nv f n*nv g m) w):=by
 have hmk:=fun W=>zaf (P:=Tryz.prog) 47 110 _ 4 Tryz.underlying47 Tryz.infoU32 rfl ((n:Int)+(m:Int)) (by omega) (by omega) (by omega) W
 have e1:((n:Int)+(m:Int)).toNat=n+m:=by omega
 have hrow0:=World.rowIs_made w (.int .u32 0) (n+m) 110
 go_enter Tryz.func191, Tryz.ntmps191
 go_wp2
 go_loopg [20] n (fun gg iv wx=>∃ k:Nat,∃ o:Nat->Nat,iv=.int .i64 (k:Nat)/\k<=n/\n<=k+gg/\Below w.heap.size w wx/\wx.rowIs w.heap.size 110 (n+m) (fun i=>.int .u32 (o i:Nat))/\Hid (∀ i,o i<4294967296)/\Hid (∀ i,k+m<=i->o i=0)/\Hid (nv o (n+m)=nv f k*nv g m))
 case atStart=>exact ⟨0,fun _=>0,rfl,by omega,by omega,(Below.refl _ _).alloc (Nat.le_refl _) _,hrow0,hid fun _=>by show 0<_; omega,hid fun _ _=>rfl,hid (by rw [zh2 fun _ _=>rfl]; simp [nv])⟩
 case round =>
  clear hrow0 hmk e1
  obtain ⟨k,o,rfl,hk,hkg,hB,hrow,HO,HZ,HV⟩:=hrel
  by_cases hlt:k<n
  ·obtain ⟨b,o1,rfl,hb,e0⟩:=(h.on hB).at hlt
   have q1:=hf.out k hlt
   have hlt':(k:Int)<(n:Int):=by omega
   obtain ⟨x,hx⟩:∃ x,x=f k:=⟨_,rfl⟩
   rw [<-hx] at e0 q1
   have HX:=hid hx
   obtain ⟨wo,rfl⟩:∃ wo:World,wo=wr:=⟨_,rfl⟩
   obtain ⟨K,rfl⟩:∃ K:Nat,K=gk:=⟨_,rfl⟩
   clear hx
   go_wp2
   go_loopg [27,8] m (fun gg jv cv wx=>∃ j cc:Nat,∃ o':Nat->Nat,jv=.int .i64 (j:Nat)/\cv=.int .u64 (cc:Nat)/\j<=m/\m<=j+gg/\cc<4294967296/\Below w.heap.size w wx/\wx.rowIs w.heap.size 110 (n+m) (fun i=>.int .u32 (o' i:Nat))/\Hid (∀ i,o' i<4294967296)/\Hid (∀ i,k+m<=i->o' i=0)/\Hid (nv o' (n+m)+cc*4294967296 ^ (k+j)=nv o (n+m)+x*nv g j*4294967296 ^ k))
   case atStart=>exact ⟨0,0,o,rfl,rfl,by omega,by omega,by omega,hB,hrow,HO,HZ,hid (by simp [nv])⟩
   case round =>
    clear hB hrow e0
    obtain ⟨j,cc,o',rfl,rfl,hj,hjg,hcc,hB,hrow,HO',HZ',HV'⟩:=hrel
    have hz:=hrow.lt
    by_cases hjlt:j<m
    ·obtain ⟨b2,o2,rfl,hb2,e2⟩:=(h2.on hB).at hjlt
     have q2:=hg.out j hjlt
     have hjlt':(j:Int)<(m:Int):=by omega
     have y0:=hrow.cell (i:=k+j) (by omega)
     have z0:=hrow.frozen (k+j)
     have q3:=HO'.out (k+j)
     have hix:((k:Int)+(j:Int)).toNat=k+j:=by omega
     obtain ⟨y,hy⟩:∃ y,y=g j:=⟨_,rfl⟩
     obtain ⟨u,hu⟩:∃ u,u=o' (k+j):=⟨_,rfl⟩
     rw [<-hy] at e2 q2
     have K1:=hid (zdY (y:=y) (show k+j<n+m by omega) HV'.out hy)
     rw [<-hu] at y0 q3 K1
     have p0:(0:Int)<=(x:Int)*(y:Int):=by rw [<-Int.natCast_mul]; omega
     have p1:(x:Int)*(y:Int)<=18446744065119617025:=by rw [<-Int.natCast_mul]; have:=zdo q1 q2; omega
     have p2:(x:Int)*(y:Int)=((x*y:Nat):Int):=by rw [Int.natCast_mul]
     have p3:=zdo q1 q2
     have K2:Hid ((wr.setCell ⟨w.heap.size,k+j,none⟩ (.int .u32 (((x:Int)*y+u+cc) % 4294967296))).rowIs w.heap.size 110 (n+m) (fun i=>.int .u32 (upd o' (k+j) ((x*y+u+cc) % 4294967296) i:Nat))):=by
      refine (hrow.set (k+j) _).congr fun i _=>?_
      unfold upd
      by_cases e:i=k+j
      ·rw [if_pos e,if_pos e]; congr 1 <;> omega
      ·rw [if_neg e,if_neg e]
     have K3:Hid (∀ i,upd o' (k+j) ((x*y+u+cc) % 4294967296) i<4294967296):=fun i=>by
      unfold upd
      split
      ·omega
      ·exact HO'.out i
     have K4:Hid (∀ i,k+m<=i->upd o' (k+j) ((x*y+u+cc) % 4294967296) i=0):=fun i hi=>by
      rw [zbl (by omega)]; exact HZ'.out i hi
     have K5:Hid ((((x:Int)*y+u+cc) / 4294967296)=(((x*y+u+cc) / 4294967296:Nat):Int)):=by show _=_; omega
     have K6:Hid ((x*y+u+cc) / 4294967296<4294967296):=by show _<_; omega
     clear hy hu p2 hrow
     go_wp2
     go_roundg (gk - 1)
     case measure=>omega
     case rel=>exact ⟨j+1,(x*y+u+cc) / 4294967296,_,by go_num,by rw [<-K5.out],by omega,by omega,K6.out,hB.setCell (Nat.le_refl _) _,K2.out,K3,K4,K1⟩
    ·obtain rfl:j=m:=by omega
     have y0:=hrow.cell (i:=k+j) (by omega)
     have z0:=hrow.frozen (k+j)
     have hix:((k:Int)+(j:Int)).toNat=k+j:=by omega
     have K1:Hid (nv (upd o' (k+j) cc) (n+j)=nv f (k+1)*nv g j):=by
      have h1:=ziq (f:=o') (v:=cc) (show k+j<n+j by omega)
      rw [HZ'.out (k+j) (Nat.le_refl _)] at h1
      have h3:=HV'.out
      rw [HV.out,HX.out] at h3
      show _=_
      simp only [nv]
      grind
     have K2:Hid ((wr.setCell ⟨w.heap.size,k+j,none⟩ (.int .u32 (cc:Nat))).rowIs w.heap.size 110 (n+j) (fun i=>.int .u32 (upd o' (k+j) cc i:Nat))):=by
      refine (hrow.set (k+j) _).congr fun i _=>?_
      unfold upd
      by_cases e:i=k+j
      ·rw [if_pos e,if_pos e]
      ·rw [if_neg e,if_neg e]
     have K3:Hid (∀ i,upd o' (k+j) cc i<4294967296):=fun i=>by
      unfold upd
      split
      ·omega
      ·exact HO'.out i
     have K4:Hid (∀ i,k+1+j<=i->upd o' (k+j) cc i=0):=fun i hi=>by
      rw [zbl (by omega)]; exact HZ'.out i (by omega)
     clear hrow
     go_wp2
     go_roundg (K - 1)
     case measure=>omega
     case rel=>exact ⟨k+1,_,by go_num,by omega,by omega,hB.setCell (Nat.le_refl _) _,K2.out,K3,K4,K1⟩
  ·obtain rfl:k=n:=by omega
   have hob:Hid (∀ i,i<k+m->o i<4294967296):=fun i _=>HO.out i
   go_wp2_with fail
   refine (zcv (some ⟨w.heap.size,0,none⟩) (k+m) (k+m) o wr (zca hrow) hob (Nat.le_refl _) (by unfold maxLen; omega)).mono ?_
   rintro e w1 ⟨rfl,hR,rfl⟩
   rw [HV.out] at hR ⊢
   have hdl:dl (nv f k*nv g m)<=k+m:=by rw [<-HV.out]; exact zhe (zi5 hob.out)
   clear hrow HO HZ
   go_wp2
   go_ret
   exact ⟨_,_,rfl,Nat.le_refl _,by unfold maxLen; omega,hR,hB⟩
theorem zbV (A A2:Option Addr) (c c2 x y:Nat) (w:World) (h:NatOk w w.heap.size A x) (h2:NatOk w w.heap.size A2 y) (hn:dl x<=536870912) (hn2:dl y<=536870912) :
  Calls Tryz.prog 191 #[.slice A (dl x) c,.slice A2 (dl y) c2] w (NatPost (x*y) w):=by
 have:=zhl A A2 (dl x) c (dl y) c2 (dg x) (dg y) w h h2 (zcE x) (zcE y) hn hn2
 rwa [zdX,zdX] at this
theorem zbK {x:Nat} (h:0<x) (h1:x<4294967296):dl x=1:=by
 rw [zeB (by omega),Nat.div_eq_of_lt h1,zaT]
theorem zit {x:Nat} (h1:x<4294967296):dg x 0=x:=by rw [zcA,Nat.mod_eq_of_lt h1]
theorem zbW {w:World} {x:Nat} (T:TypeId) (h:0<x) (h1:x<4294967296):NatOk (w.alloc (Obj.cells #[Value.int .u32 (x:Nat)] T)) (w.alloc (Obj.cells #[Value.int .u32 (x:Nat)] T)).heap.size (some ⟨w.heap.size,0,none⟩) x:=by
 refine zca (t:=T) ⟨_,heap_alloc_new _ _,by rw [zbK h h1]; rfl,fun i hi=>?_⟩
 rw [zbK h h1] at hi
 obtain rfl:i=0:=by omega
 show _=some (Value.int .u32 (dg x 0:Nat))
 rw [zit h1]
 rfl
def prodN (x:Nat->Nat):Nat->Nat
 | 0=>1
 | k+1=>prodN x k*x k
theorem zf6 (T:Option Addr) (m c:Nat) (x:Nat->Nat) (w:World) (h:NatTab w w.heap.size T m x) (hm:m<=1048576) (hs:Hid (∀ k,k<=m->dl (prodN x k)<=536870912)) (hx:Hid (∀ k,k<m->dl (x k)<=536870912)) :
  Calls Tryz.prog 168 #[.slice T m c] w (NatPost (prodN x m) w):=by
 have d1:Hid (dl (prodN x 0)=1):=zbK (by show 0<1; omega) (by show 1<_; omega)
 have hone:=zbW (w:=w) 110 (x:=1) (by omega) (by omega)
 go_enter Tryz.func168, Tryz.ntmps168
 go_wp2
 go_loopg [9,3] m (fun g iv sv wx=>∃ k:Nat,∃ A c,iv=.int .i64 (k:Nat)/\sv=.slice A (dl (prodN x k)) c/\k<=m/\m<=k+g/\dl (prodN x k)<=c/\c<=maxLen/\NatOk wx wx.heap.size A (prodN x k)/\Below w.heap.size w wx)
 case atStart=>exact ⟨0,_,1,rfl,by rw [d1.out],by omega,by omega,by rw [d1.out]; omega,by unfold maxLen; omega,hone,(Below.refl _ _).alloc (Nat.le_refl _) _⟩
 case round =>
  clear hone
  obtain ⟨k,A,cA,rfl,rfl,hk,hkg,hc,hcm,hA,hB⟩:=hrel
  by_cases hlt:k<m
  ·obtain ⟨b,off,B,cB,rfl,hb,e0,hcB,hcB2,hBk⟩:=(h.on hB) k hlt
   have hlt':(k:Int)<(m:Int):=by omega
   have H1:=hs.out k hk
   have H2:=hx.out k hlt
   go_wp2_with fail
   refine (zbC B cB (x k) wr hBk hcB hcB2).mono ?_
   rintro e w1 ⟨rfl,rfl⟩
   go_wp2_with fail
   refine (zbV A B cA (dl (x k)) (prodN x k) (x k) wr hA hBk H1 H2).mono ?_
   rintro e w1 ⟨A',c',rfl,g1,g2,g3,g4⟩
   have hB2:=onS hB g4
   clear g4 hA hB hBk e0
   go_wp2
   go_roundg (gk - 1)
   case measure=>omega
   case rel=>exact ⟨k+1,A',c',by go_num,rfl,by omega,by omega,g1,g2,g3,hB2⟩
  ·obtain rfl:k=m:=by omega
   have H1:=hs.out k (Nat.le_refl _)
   go_wp2_with fail
   refine (zeC A cA (prodN x k) wr hA hc hcm (by omega)).mono ?_
   rintro e w1 ⟨A',c',rfl,g1,g2,g3,g4⟩
   have hB2:=onS hB g4
   clear g4
   go_wp2
   go_ret
   exact ⟨A',c',rfl,g1,g2,g3,hB2⟩
open Go.Shelf
def Tryz.lays128_ren:Go.Shelf.Ren:=⟨fun | 128 => 150 | n=>n,fun | 51 => 110 | 3 => 3 | 4 => 4 | 46 => 206 | 5 => 5 | 9 => 9 | n=>n,fun | n=>n⟩
theorem Tryz.lays128:Go.Proofs.Lays.n128 Tryz.prog Tryz.lays128_ren:={
 mixed:=by kernel_rfl
 f128:=Tryz.func150.trans (congrArg some (by kernel_rfl))
 t3:=Tryz.underlying3
 a3:=Tryz.isAgg3
 z3:=Tryz.sizeOf3
 v3:=Tryz.zeroValue3
 t4:=Tryz.underlying4
 a4:=Tryz.isAgg4
 z4:=Tryz.sizeOf4
 v4:=Tryz.zeroValue4
 t5:=Tryz.underlying5
 a5:=Tryz.isAgg5
 z5:=Tryz.sizeOf5
 v5:=Tryz.zeroValue5
 t9:=Tryz.underlying9
 a9:=Tryz.isAgg9
 z9:=Tryz.sizeOf9
 v9:=Tryz.zeroValue9
 t46:=Tryz.underlying206
 a46:=Tryz.isAgg206
 z46:=Tryz.sizeOf206
 v46:=Tryz.zeroValue206
 t51:=Tryz.underlying110
 a51:=Tryz.isAgg110
 z51:=Tryz.sizeOf110
 v51:=Tryz.zeroValue110 }
theorem Tryz.bits_Len32 (x:Int) (w:World) (h0:0<=x) (h1:x<=4294967295) :
  Calls Tryz.prog 150 #[.int .u32 x] w fun e w'=>e=.returned (.int .i64 (Lib.bitLen x.toNat))/\w'=w:=Any.bits_Len32 Tryz.lays128 x w h0 h1
def nlen (x:Nat):Nat:=if h:x=0 then 0 else nlen (x / 2)+1
termination_by x
decreasing_by exact Nat.div_lt_self (by omega) (by omega)
theorem zaQ:nlen 0=0:=by unfold nlen; simp
theorem zbL {x:Nat} (h:x≠0):nlen x=nlen (x / 2)+1:=by rw [nlen]; simp [h]
theorem zbm {x:Nat}:nlen x=0↔x=0:=by
 constructor
 ·intro h
  rcases Nat.eq_zero_or_pos x with h0 | h0
  ·exact h0
  ·rw [zbL (by omega)] at h; omega
 ·intro h; rw [h]; exact zaQ
theorem ziu:nlen 1=1:=by rw [zbL (by omega)]; simp [zaQ]
theorem zcb {x:Nat}:nlen x=1↔x=1:=by
 constructor
 ·intro h
  have h0:x≠0:=fun e=>by rw [e,zaQ] at h; omega
  rw [zbL h0] at h
  have:=zbm.1 (show nlen (x / 2)=0 by omega)
  omega
 ·intro h; rw [h]; exact ziu
theorem ze5 {x k:Nat} (h:x<2 ^ k):nlen x<=k:=by
  induction k generalizing x with
  | zero => have : x = 0 := by simpa using h
            rw [this,zaQ]; omega
  | succ k ih =>
    by_cases h0:x=0
    · rw [h0,zaQ]; omega
    · rw [zbL h0]
      have:=ih (x:=x / 2) (by rw [Nat.pow_succ] at h; omega)
      omega
theorem zf7 (k:Nat) {x:Nat} (h:2 ^ k<=x):nlen x=k+nlen (x / 2 ^ k):=by
 induction k generalizing x with
 | zero=>simp
 | succ k ih =>
  have hp:0<2 ^ k:=Nat.pow_pos (by omega)
  rw [Nat.pow_succ] at h
  rw [zbL (by omega),ih (x:=x / 2) (by omega),Nat.pow_succ,Nat.mul_comm (2 ^ k) 2,<-Nat.div_div_eq_div_mul]
  omega
theorem zf8 {x:Nat} (h:x≠0):nlen x=32*(dl x - 1)+nlen (dg x (dl x - 1)):=by
 induction x using Nat.strongRecOn with
 | _ x ih =>
  rw [zeB h,Nat.add_sub_cancel]
  by_cases h1:x / 4294967296=0
  ·rw [h1,zaT,zcA]
   have:x<4294967296:=by omega
   rw [Nat.mod_eq_of_lt this]; omega
  ·have h2:=ih (x / 4294967296) (Nat.div_lt_self (by omega) (by omega)) h1
   have h3:=zeB h1
   have h4:dl (x / 4294967296)=dl (x / 4294967296) - 1+1:=by omega
   rw [zf7 32 (show 2 ^ 32<=x by omega),show (2:Nat) ^ 32=4294967296 from rfl,h2]
   rw [show dg x (dl (x / 4294967296))=dg (x / 4294967296) (dl (x / 4294967296) - 1) by rw [<-ze2,<-h4]]
   omega
theorem zfw {x:Nat} (h:x<2 ^ 64):Lib.bitLen x=nlen x:=by
 induction x using Nat.strongRecOn with
 | _ x ih =>
  by_cases h0:x=0
  ·rw [h0,zaQ]; rfl
  ·rw [Lib.bitLen_half x h0 h,zbL h0,ih (x / 2) (Nat.div_lt_self (by omega) (by omega)) (by omega)]
   omega
theorem zfx (A:Option Addr) (c x:Nat) (w:World) (h:NatOk w w.heap.size A x) (hc:dl x<=c) (hm:c<=maxLen) (hn:dl x<=1073741824) :
  Calls Tryz.prog 67 #[.slice A (dl x) c] w fun e w'=>e=.returned (.int .i64 (nlen x:Nat))/\w=w':=by
 go_enter Tryz.func67, Tryz.ntmps67
 go_wp2_with fail
 refine (zbC A c x w h hc hm).mono ?_
 rintro e w1 ⟨rfl,rfl⟩
 by_cases h0:x=0
 ·have hd:dl x=0:=by rw [h0]; exact zaT
  have H:=hid (show nlen x=0 by rw [h0]; exact zaQ)
  rw [hd];clear h0 hd
  go_wp2
  go_ret
  exact ⟨zah (by rw [H.out]; rfl),rfl⟩
 ·have hd:0<dl x:=by have:=mt zcB.1 h0; omega
  obtain ⟨b,o,rfl,hb,e0⟩:=Lims.at h (i:=dl x - 1) (by omega)
  have HL:=hid (zf8 h0)
  have hg:=zip x (dl x - 1)
  have HB:=hid (zfw (x:=dg x (dl x - 1)) (by omega))
  have hnl:=ze5 (x:=dg x (dl x - 1)) (k:=32) hg
  obtain ⟨n,hn'⟩:∃ n,n=dl x:=⟨_,rfl⟩
  obtain ⟨v,hv⟩:∃ v,v=dg x (dl x - 1):=⟨_,rfl⟩
  rw [<-hv] at hg HB hnl e0 HL;rw [<-hn'] at e0 hd HL hn hc ⊢
  have hw2:((n:Int) - 1).toNat=n - 1:=by omega
  have hn0:((n:Int) == 0)=false:=by simp; omega
  clear hn' hv h h0
  go_wp2_with fail
  refine (Tryz.bits_Len32 (v:Int) w (by omega) (by omega)).mono ?_
  rintro e w1 ⟨rfl,rfl⟩
  rw [Int.toNat_natCast,HB.out]
  go_wp2
  go_ret
  exact ⟨zah (by rw [HL.out]; omega),rfl⟩
section
variable {P:Program} {w:World}
theorem zaD {ops:Array Oper} {rest:List Oper} {o:Oper} {a:Act} {Q:Exit->Act->World->Prop} (hgd:o.guard=none) (sl x:Operand) (t:TypeId)
  (ho:o.op=.call { callee:=.builtin .append,args:=#[sl,x],argTypes:=#[t,t] })
  (e:TypeId) (i:TypeInfo) (ht:P.underlying t=some (.slice e)) (hi:P.info? e=some i) (b0 o0:Nat) (hv:a.eval sl=.slice (some ⟨b0,o0,none⟩) 0 0)
  (A:Option Addr) (c:Nat) (hx:a.eval x=.slice A 0 c)
  (h:wpList P ops Q rest (a.put o.dst (.slice (some ⟨b0,o0,none⟩) 0 0)) w):wpList P ops Q (o :: rest) a w:=by
 refine wpList_plain hgd fun K hK=>?_
 have hrun:=za4 (P:=P) w t o.type e i ht hi b0 o0 A c
 unfold Oper.wp execOp
 simp only [ho,resolve,invoke,builtin,Sem.run_bind,Sem.run_pure,Result.andThen_ok,List.map_toArray,List.map_cons,List.map_nil,hv,hx,hrun]
 exact hK _ _ h
end
theorem zdZ (X:World) (o:Obj):Below X.heap.size X (X.alloc o):=(Below.refl _ _).alloc (Nat.le_refl _) _
theorem zbD (A:Option Addr) (n c:Nat) (f:Nat->Nat) (w:World) (h:Lims w w.heap.size A n f) (hf:Hid (∀ i,i<n->f i<4294967296)) (hc:n<=c) (hm:c<=maxLen) (hn:n<=1073741824) :
  Calls Tryz.prog 156 #[.slice A n c] w (NatPost (nv f n) w):=by
 have hm9:c<=9223372036854775807:=by unfold maxLen at hm; omega
 obtain ⟨i0,qi0,qz0,qz1,qz2⟩:=info_parts Tryz.infoU32
 obtain ⟨x,hx⟩:∃ x,nv f n=x:=⟨_,rfl⟩
 have HX:=hid hx
 rw [hx];clear hx
 go_enter Tryz.func156, Tryz.ntmps156
 go_wp2
 go_loopg [3] n (fun g kv wx=>∃ k:Nat,k<=n/\k<=g/\kv=.int .i64 (k:Nat)/\Hid (∀ i,k<=i->i<n->f i=0)/\w=wx)
 case atStart=>exact ⟨n,by omega,by omega,rfl,hid fun i h1 h2=>absurd h1 (by omega),rfl⟩
 case round =>
  obtain ⟨k,hk,hkg,rfl,hz,rfl⟩:=hrel
  by_cases h0:0<k
  ·obtain ⟨b,o,rfl,hb,e0⟩:=h.at (i:=k - 1) (by omega)
   have h0':(0:Int)<(k:Int):=by omega
   have hw2:((k:Int) - 1).toNat=k - 1:=by omega
   by_cases hz0:f (k - 1)=0
   ·rw [hz0] at e0
    have HN:Hid (∀ i,k - 1<=i->i<n->f i=0):=fun i h1 h2=>by
     by_cases e:i=k - 1
     ·rw [e]; exact hz0
     ·exact hz.out i (by omega) h2
    clear hz0
    go_wp2
    go_roundg (gk - 1)
    case measure=>omega
    case rel=>exact ⟨k - 1,by omega,by omega,by rw [show ((k - 1:Nat):Int)=(k:Int) - 1 by omega],HN,rfl⟩
   ·obtain ⟨d1,d2⟩:=zjA (f:=f) hk hf.out hz.out (.inr hz0)
    obtain ⟨v,hv⟩:∃ v:Int,v=(f (k - 1):Nat):=⟨_,rfl⟩
    rw [<-hv] at e0
    have hv2:(v == 0)=false:=by simp; omega
    rw [HX.out] at d1 d2
    have D1:=hid d1
    have hR:Hid (∀ o1,Rd (w.alloc o1) (w.alloc o1).heap.size (some ⟨b,o,none⟩) k 1 (fun i _=>.int .u32 (dg x i:Nat))):=fun o1=>by
     have h1:Rd w w.heap.size (some ⟨b,o,none⟩) k 1 (fun i _=>.int .u32 (dg x i:Nat)):=fun i hi=>by
      obtain ⟨b',o',e,hb',hc'⟩:=h i (by omega)
      exact ⟨b',o',e,hb',fun j hj=>by show _=some (Value.int .u32 (dg x i:Nat)); rw [d2 i hi]; exact hc' j hj⟩
     exact (Rd.alloc h1 (Nat.le_refl _) o1).mono (by simp)
    have n3:Hid (k<=maxLen):=by show _<=_; unfold maxLen; omega
    have n4:Hid (k*4<=140737488355328):=by show _<=_; omega
    clear hv d1 d2 hz0
    go_wp2_with (first | (at_builtin; (refine zal rfl (.tmp 18) (.tmp 21) _ rfl 110 i0 _ 1 4 Tryz.underlying47 qi0 qz0 qz1 qz2 rfl (by omega) _ rfl (some ⟨b,o,none⟩) k c (fun i _=>.int .u32 (dg x i:Nat)) rfl (hR.out _) h0 (fun _ _ _ _=>rfl) n3.out n4.out ?_); intro cap cur k1 k2 k3 k4))
    go_ret
    have hO:=Own.new (w:=w.alloc (Obj.cells #[] 110)) (base:=w.heap.size) (e := 110) (by simp) k1 k2 k3 k4
    simp only [World.size_alloc] at hO
    refine ⟨_,cap,by rw [D1.out]; rfl,by rw [D1.out]; exact k1,k2,?_,(((Below.refl _ _).alloc (Nat.le_refl _) _).alloc (by simp) _).drew⟩
    unfold NatOk Lims
    rw [D1.out]
    exact hO.drew.rd rfl
  ·obtain rfl:k=0:=by omega
   obtain ⟨d1,d2⟩:=zjA (f:=f) hk hf.out hz.out (.inl rfl)
   rw [HX.out] at d1
   have D1:=hid d1
   clear d1 d2
   cases A with
   | none =>
    go_wp2_with (first | (at_builtin; (refine zaD rfl (.tmp 18) (.tmp 21) _ rfl 110 i0 Tryz.underlying47 qi0 w.heap.size 0 rfl none c rfl ?_)))
    go_ret
    exact ⟨_,0,by rw [D1.out]; rfl,by rw [D1.out]; omega,by unfold maxLen; omega,fun i hi=>absurd hi (by rw [D1.out]; omega),zdZ _ _⟩
   | some a =>
    go_wp2_with (first | (at_builtin; (refine zaD rfl (.tmp 18) (.tmp 21) _ rfl 110 i0 Tryz.underlying47 qi0 w.heap.size 0 rfl (some a) c rfl ?_)))
    go_ret
    exact ⟨_,0,by rw [D1.out]; rfl,by rw [D1.out]; omega,by unfold maxLen; omega,fun i hi=>absurd hi (by rw [D1.out]; omega),zdZ _ _⟩
theorem zc9 (A:Option Addr) (c x:Nat) (w:World) (h:NatOk w w.heap.size A x) (hc:dl x<=c) (hm:c<=maxLen) (hn:dl x<=1073741824) :
  Calls Tryz.prog 156 #[.slice A (dl x) c] w (NatPost x w):=by
 have:=zbD A (dl x) c (dg x) w h (zcE x) hc hm hn
 rwa [zdX] at this
theorem ze6 (x:Nat) (w:World) (hx:x<18446744073709551616) :
  Calls Tryz.prog 77 #[.int .u64 (x:Nat)] w (NatPost x w):=by
 have hL:Lims (w.alloc (Obj.cells #[Value.int .u32 ((x:Int) % 4294967296),Value.int .u32 ((x:Int) / 4294967296)] 110)) (w.alloc (Obj.cells #[Value.int .u32 ((x:Int) % 4294967296),Value.int .u32 ((x:Int) / 4294967296)] 110)).heap.size (some ⟨w.heap.size,0,none⟩) 2 (two x):=by
  refine zca (t := 110) ⟨_,heap_alloc_new _ _,rfl,fun i hi=>?_⟩
  match i,hi with
  | 0,_=>simp [two]
  | 1,_=>simp [two]
 have H2:Hid (∀ i,i<2->two x i<4294967296):=fun i hi=>by
  unfold two
  split <;> omega
 go_enter Tryz.func77, Tryz.ntmps77
 go_wp2_with fail
 refine (zbD _ 2 2 (two x) _ hL H2 (Nat.le_refl _) (by unfold maxLen; omega) (by omega)).mono ?_
 rintro e w2 ⟨A,c,rfl,g1,g2,g3,g4⟩
 rw [zi9] at g1 g3 ⊢
 have hB:=onS ((Below.refl _ _).alloc (Nat.le_refl _) _) g4
 clear g4 hL
 go_wp2
 go_ret
 exact ⟨A,c,rfl,g1,g2,g3,hB⟩
theorem zh3 (A:Option Addr) (n c i:Nat) (f:Nat->Nat) (w:World) (h:Lims w w.heap.size A n f) (hf:Hid (∀ i,i<n->f i<4294967296)) :
  Calls Tryz.prog 220 #[.slice A n c,.int .i64 (i:Nat)] w fun e w'=>e=.returned (.int .u64 (padded f n i:Nat))/\w=w':=by
 by_cases hlt:i<n
 ·obtain ⟨b,o,rfl,hb,e0⟩:=h.at hlt
  have hlt':(i:Int)<(n:Int):=by omega
  have q:=hf.out i hlt
  have HP:=hid (show padded f n i=f i by unfold padded; rw [if_pos hlt])
  obtain ⟨x,hx⟩:∃ x,x=f i:=⟨_,rfl⟩
  rw [<-hx] at e0 q HP;clear hx
  go_enter Tryz.func220, Tryz.ntmps220
  go_wp2
  go_ret
  exact ⟨zah (by simp [HP.out]),rfl⟩
 ·have hlt':¬ (i:Int)<(n:Int):=by omega
  have HP:=hid (show padded f n i=0 by unfold padded; rw [if_neg hlt])
  go_enter Tryz.func220, Tryz.ntmps220
  go_wp2
  go_ret
  exact ⟨zah (by simp [HP.out]),rfl⟩
theorem zfy {f g o:Nat->Nat} {n m k cc:Nat} (hv:nv o k+cc*4294967296 ^ k=nv (padded f n) k+nv (padded g m) k) :
  nv (upd o k ((padded f n k+padded g m k+cc) % 4294967296)) (k+1)+(padded f n k+padded g m k+cc) / 4294967296*4294967296 ^ (k+1)=nv (padded f n) (k+1)+nv (padded g m) (k+1):=by
 simp only [nv]
 rw [zcu (Nat.le_refl _),zcD]
 have hc:=zb9 (padded f n k+padded g m k+cc) k
 grind
theorem zf9 (A A2 : Option Addr) (n c m c2 : Nat) (f g : Nat → Nat) (w : World) (h : Lims w w.heap.size A n f) (h2 : Lims w w.heap.size A2 m g) (hf : Hid (∀ i, i < n → f i < 4294967296)) (hg : Hid (∀ i, i < m → g i < 4294967296)) (hn : n ≤ 268435456) (hm : m ≤ 268435456) :
    Calls Tryz.prog 162 #[.slice A n c,.slice A2 m c2] w (NatPost (nv f n+nv g m) w):=by
  obtain ⟨i0,qi0,qz0,qz1,qz2⟩:=info_parts Tryz.infoU32
  go_enter Tryz.func162, Tryz.ntmps162
  go_wp2
  go_loopg [7,5,6] (n+m+1) (fun gg iv ov cv wx=>∃ k cc:Nat,∃ o:Nat->Nat,iv=.int .i64 (k:Nat)/\cv=.int .u64 (cc:Nat)/\n+m+1<=k+gg/\k<=n+m+1/\(max n m<k->cc=0)/\cc<=1/\Below w.heap.size w wx/\Own wx w.heap.size 110 1 ov k (fun i _=>.int .u32 (o i:Nat))/\Hid (∀ i,o i<4294967296)/\Hid (nv o k+cc*4294967296 ^ k=nv (padded f n) k+nv (padded g m) k))
  case atStart=>exact ⟨0,0,fun _=>0,rfl,rfl,by omega,by omega,fun _=>rfl,by omega,Below.refl _ _,Own.nil _ _ _ _ _,hid fun _=>by show 0<_; omega,hid rfl⟩
  case round =>
    obtain ⟨k,cc,o,rfl,rfl,hkg,hk,hmx,hcc,hB,hO,HO,HV⟩:=hrel
    by_cases hgo:k<n∨k<m∨0<cc
    · have hkb : k ≤ max n m := by
        rcases hgo with h1 | h1 | h1
        · omega
        · omega
        · by_cases e:max n m<k
          · have:=hmx e; omega
          · omega
      have hkb2:k<=n+m:=by omega
      have hf1:=ze4 hf.out k
      have hg1:=ze4 hg.out k
      have K1:=hid (zfy HV.out)
      have hL1:=zh3 A n c k f wr (h.on hB) hf
      have hL2:=zh3 A2 m c2 k g wr (h2.on hB) hg
      have hzx:Hid (n<=k->m<=k->padded f n k+padded g m k=0):=fun h1 h2=>by unfold padded; rw [if_neg (by omega),if_neg (by omega)]
      obtain ⟨x,hx⟩:∃ x,x=padded f n k:=⟨_,rfl⟩
      obtain ⟨y,hy⟩:∃ y,y=padded g m k:=⟨_,rfl⟩
      rw [<-hx] at hf1 K1 hL1 hzx;rw [<-hy] at hg1 K1 hL2 hzx
      have HL1:=hid hL1
      have HL2:=hid hL2
      clear hx hy hL1 hL2
      have hO1:Own wr w.heap.size 110 1 u5 k (fun i _=>.int .u32 (upd o k ((x+y+cc) % 4294967296) i:Nat)):=hO.congr fun i hi _ _=>by rw [zbl (by omega)]
      have es:(((x:Int)+y+cc) % 4294967296)=(((x+y+cc) % 4294967296:Nat):Int):=by omega
      have N1:Hid (∀ j,j<1->(wr.alloc (Obj.cells #[Value.int .u32 (((x:Int)+y+cc) % 4294967296)] 110)).cell? ((⟨wr.heap.size,0,none⟩:Addr).add j)=some (.int .u32 (upd o k ((x+y+cc) % 4294967296) k:Nat))):=fun j hj=>by
        obtain rfl:j=0:=by omega
        rw [zcD,es]
        exact World.cell?_alloc_at _ _ _ _ rfl
      have N2:Hid (∀ j,j<1->(Value.int .u32 (upd o k ((x+y+cc) % 4294967296) k:Nat)).oneCell'=true):=fun _ _=>rfl
      have n3:Hid (k+1<=maxLen):=by show _<=_; unfold maxLen; omega
      have n4:Hid ((k+1)*4<=140737488355328):=by show _<=_; omega
      have hQb:Hid (∀ k,u5.ownBlock=some k->w.heap.size<=k):=fun k e=>(hO.lt k e).1
      have K3:Hid (∀ i,upd o k ((x+y+cc) % 4294967296) i<4294967296):=fun i=>by
        unfold upd
        split
        · omega
        · exact HO.out i
      have K5:Hid ((((x:Int)+y+cc) / 4294967296)=(((x+y+cc) / 4294967296:Nat):Int)):=by show _=_; omega
      have K6:Hid (max n m<k+1->(x+y+cc) / 4294967296=0):=fun hmk=>by
        have:=hzx.out (by omega) (by omega)
        omega
      have hsz:=hB.size
      have hBA:=hid (hB.alloc hB.size (Obj.cells #[Value.int .u32 (((x:Int)+y+cc) % 4294967296)] 110))
      clear es hO hmx
      have fin:True:=trivial
      by_cases c1:(k:Int)<(n:Int)
      all_goals by_cases c2:(k:Int)<(m:Int)
      all_goals by_cases c3:0<cc
      all_goals first
        | (exfalso; omega)
        | (have c4:(0:Int)<(cc:Int)∨¬ (0:Int)<(cc:Int):=by omega
           clear hgo
           go_wp2_with fail
           refine HL1.out.mono ?_
           rintro e w2 ⟨rfl,rfl⟩
           go_wp2_with fail
           refine HL2.out.mono ?_
           rintro e w2 ⟨rfl,rfl⟩
           go_wp2_with (first | (at_builtin; (refine zaK _ rfl (.tmp 34) (.tmp 38) _ rfl w.heap.size 110 i0 _ 1 4 Tryz.underlying47 qi0 qz0 qz1 qz2 rfl (by omega) u5 k _ rfl (hO1.alloc _) ⟨wr.heap.size,0,none⟩ 1 rfl N1.out N2.out n3.out n4.out (by simp; omega) ?_); intro v' w3 hown3 hg3 hat3))
           have hB3:=hBA.out.grown hg3 (by simp; omega) (fun q e=>hQb.out q e)
           go_roundg (gk - 1)
           case measure=>omega
           case rel=>exact ⟨k+1,(x+y+cc) / 4294967296,_,by go_num,by rw [K5.out],by omega,by omega,K6.out,by omega,hB3,hown3,K3,K1⟩)
    · have c1:¬ (k:Int)<(n:Int):=by omega
      have c2:¬ (k:Int)<(m:Int):=by omega
      have c3:cc=0:=by omega
      subst c3
      have HS:Hid (nv o k=nv f n+nv g m):=by
        have:=HV.out
        rw [zdn f (show n<=k by omega),zdn g (show m<=k by omega)] at this
        show _=_
        omega
      obtain ⟨oa,oc,rfl⟩:=hO.shape
      have hI:Lims wr wr.heap.size oa k o:=hO.rd rfl
      have hob:Hid (∀ i,i<k->o i<4294967296):=fun i _=>HO.out i
      have hcap:k<=oc/\oc<=maxLen:=by
        rcases Nat.eq_zero_or_pos k with e | e
        · subst e
          rcases hO with ⟨e1,_⟩ | ⟨g1,o1,cap,cur,e1,_,_,h3,h4,_⟩
          · injection e1 with _ _ e3; subst e3; exact ⟨by omega,by unfold maxLen; omega⟩
          · injection e1 with _ _ e3; subst e3; exact ⟨h3,h4⟩
        · obtain ⟨g1,o1,cap,e1,_,_,h3,h4,_⟩:=hO.form e
          injection e1 with _ _ e3; subst e3; exact ⟨h3,h4⟩
      clear hgo
      go_wp2_with fail
      refine (zbD oa k oc o wr hI hob hcap.1 hcap.2 (by omega)).mono ?_
      rintro e w2 ⟨A',c',rfl,g1,g2,g3,g4⟩
      rw [HS.out] at g1 g3 ⊢
      have hB2:=onS hB g4
      clear g4 hI hO hB
      go_wp2
      go_ret
      exact ⟨A',c',rfl,g1,g2,g3,hB2⟩
theorem zd0 (A A2:Option Addr) (c c2 x y:Nat) (w:World) (h:NatOk w w.heap.size A x) (h2:NatOk w w.heap.size A2 y) (hn:dl x<=268435456) (hn2:dl y<=268435456) :
  Calls Tryz.prog 162 #[.slice A (dl x) c,.slice A2 (dl y) c2] w (NatPost (x+y) w):=by
 have:=zf9 A A2 (dl x) c (dl y) c2 (dg x) (dg y) w h h2 (zcE x) (zcE y) hn hn2
 rwa [zdX,zdX] at this
theorem zfz (A:Option Addr) (c x:Nat) (w:World) (h:NatOk w w.heap.size A x) (hc:dl x<=c) (hm:c<=maxLen) (hn:dl x<=1073741824) :
  Calls Tryz.prog 226 #[.slice A (dl x) c] w fun e w'=>e=.returned (.int .i64 (nlen x:Nat))/\Below w.heap.size w w':=by
 go_enter Tryz.func226, Tryz.ntmps226
 go_wp2_with fail
 refine (zc9 A c x w h hc hm hn).mono ?_
 rintro e w1 ⟨A2,c2,rfl,g1,g2,g3,g4⟩
 by_cases h0:x=0
 ·have hd:dl x=0:=by rw [h0]; exact zaT
  have H:=hid (show nlen x=0 by rw [h0]; exact zaQ)
  rw [hd];clear h0 hd g1 g3
  go_wp2
  go_ret
  exact ⟨zah (by rw [H.out]; rfl),g4⟩
 ·have hd:0<dl x:=by have:=mt zcB.1 h0; omega
  obtain ⟨b,o,rfl,hb,e0⟩:=Lims.at g3 (i:=dl x - 1) (by omega)
  have HL:=hid (zf8 h0)
  have hg:=zip x (dl x - 1)
  obtain ⟨n,hn'⟩:∃ n,n=dl x:=⟨_,rfl⟩
  obtain ⟨v,hv⟩:∃ v,v=dg x (dl x - 1):=⟨_,rfl⟩
  rw [<-hv] at hg e0 HL;rw [<-hn'] at e0 hd HL hn g1 ⊢
  have hw2:((n:Int) - 1).toNat=n - 1:=by omega
  have hn0:((n:Int) == 0)=false:=by simp; omega
  have hlen:=ze5 (x:=v) (k:=32) hg
  clear hn' hv h h0 g3
  go_wp2
  go_loopg [3,4] (nlen v) (fun gg nv tv wx=>∃ j u:Nat,nv=.int .i64 (32*((n:Int) - 1)+(j:Nat))/\tv=.int .u32 (u:Nat)/\Hid (j+nlen u=nlen v)/\nlen u<=gg/\j<=32/\u<4294967296/\w1=wx)
  case atStart=>exact ⟨0,v,by simp,rfl,hid (by omega),Nat.le_refl _,by omega,hg,rfl⟩
  case round =>
   obtain ⟨j,u,rfl,rfl,hj,hgg,hj2,hu,rfl⟩:=hrel
   by_cases hu0:u=0
   ·have HJ:Hid (j=nlen v):=by
     have:=hj.out
     rw [hu0,zaQ] at this
     show _=_
     omega
    subst hu0
    go_wp2
    go_ret
    exact ⟨zah (by rw [HL.out,<-HJ.out]; omega),g4⟩
   ·have hp:=zbL hu0
    have hj3:=hj.out
    have hu1:(0:Int)<(u:Int):=by omega
    have hu2:((u:Int) / 2)=((u / 2:Nat):Int):=by omega
    have HU:=hid hu2
    have HN:Hid (j+1+nlen (u / 2)=nlen v):=by show _=_; omega
    have hgg2:nlen (u / 2)<gk:=by omega
    have hj4:j+1<=32:=by omega
    clear hu2 hp hj3
    go_wp2
    go_roundg (nlen (u / 2))
    case measure=>omega
    case rel=>exact ⟨j+1,u / 2,by congr 1 <;> omega,by rw [HU.out],HN,Nat.le_refl _,hj4,by omega,rfl⟩
theorem zga (A A2:Option Addr) (n c m c2:Nat) (f g:Nat->Nat) (w:World) (h:Lims w w.heap.size A n f) (h2:Lims w w.heap.size A2 m g) (hf:Hid (∀ i,i<n->f i<4294967296)) (hg:Hid (∀ i,i<m->g i<4294967296)) (hn:n<=536870912) (hm:m<=536870912) :
  Calls Tryz.prog 161 #[.slice A n c,.slice A2 m c2] w (NatPost (nv f n*nv g m) w):=by
 have hmk:=fun W=>zaf (P:=Tryz.prog) 47 110 _ 4 Tryz.underlying47 Tryz.infoU32 rfl ((n:Int)+(m:Int)) (by omega) (by omega) (by omega) W
 have e1:((n:Int)+(m:Int)).toNat=n+m:=by omega
 have hrow0:=World.rowIs_made w (.int .u32 0) (n+m) 110
 go_enter Tryz.func161, Tryz.ntmps161
 go_wp2
 go_loopg [6] n (fun gg iv wx=>∃ k:Nat,∃ o:Nat->Nat,iv=.int .i64 (k:Nat)/\k<=n/\n<=k+gg/\Below w.heap.size w wx/\wx.rowIs w.heap.size 110 (n+m) (fun i=>.int .u32 (o i:Nat))/\Hid (∀ i,o i<4294967296)/\Hid (∀ i,k+m<=i->o i=0)/\Hid (nv o (n+m)=nv f k*nv g m))
 case atStart=>exact ⟨0,fun _=>0,rfl,by omega,by omega,(Below.refl _ _).alloc (Nat.le_refl _) _,hrow0,hid fun _=>by show 0<_; omega,hid fun _ _=>rfl,hid (by rw [zh2 fun _ _=>rfl]; simp [nv])⟩
 case round =>
  clear hrow0 hmk e1
  obtain ⟨k,o,rfl,hk,hkg,hB,hrow,HO,HZ,HV⟩:=hrel
  by_cases hlt:k<n
  ·have q1:=hf.out k hlt
   have hlt':(k:Int)<(n:Int):=by omega
   obtain ⟨x,hx⟩:∃ x,x=f k:=⟨_,rfl⟩
   rw [<-hx] at q1
   have HX:=hid hx
   obtain ⟨wo,rfl⟩:∃ wo:World,wo=wr:=⟨_,rfl⟩
   obtain ⟨K,rfl⟩:∃ K:Nat,K=gk:=⟨_,rfl⟩
   clear hx
   go_wp2
   go_loopg [8,7] m (fun gg jv cv wx=>∃ j cc:Nat,∃ o':Nat->Nat,jv=.int .i64 (j:Nat)/\cv=.int .u64 (cc:Nat)/\j<=m/\m<=j+gg/\cc<4294967296/\Below w.heap.size w wx/\wx.rowIs w.heap.size 110 (n+m) (fun i=>.int .u32 (o' i:Nat))/\Hid (∀ i,o' i<4294967296)/\Hid (∀ i,k+m<=i->o' i=0)/\Hid (nv o' (n+m)+cc*4294967296 ^ (k+j)=nv o (n+m)+x*nv g j*4294967296 ^ k))
   case atStart=>exact ⟨0,0,o,rfl,rfl,by omega,by omega,by omega,hB,hrow,HO,HZ,hid (by simp [nv])⟩
   case round =>
    clear hB hrow
    obtain ⟨j,cc,o',rfl,rfl,hj,hjg,hcc,hB,hrow,HO',HZ',HV'⟩:=hrel
    have hz:=hrow.lt
    by_cases hjlt:j<m
    ·obtain ⟨b,o1,rfl,hb,e0⟩:=(h.on hB).at hlt
     rw [<-HX.out] at e0
     obtain ⟨b2,o2,rfl,hb2,e2⟩:=(h2.on hB).at hjlt
     have hk0:(0:Int)<=(k:Int):=by omega
     have hj0:(0:Int)<=(j:Int):=by omega
     have hkj0:(0:Int)<=(k:Int)+(j:Int):=by omega
     have hkj1:(k:Int)+(j:Int)<(n:Int)+(m:Int):=by omega
     have hkj2:IntKind.i64.wrap ((k:Int)+(j:Int))=(k:Int)+(j:Int):=IntWalk.i64_in _ (by omega)
     have q2:=hg.out j hjlt
     have hjlt':(j:Int)<(m:Int):=by omega
     have y0:=hrow.cell (i:=k+j) (by omega)
     have z0:=hrow.frozen (k+j)
     have q3:=HO'.out (k+j)
     have hix:((k:Int)+(j:Int)).toNat=k+j:=by omega
     obtain ⟨y,hy⟩:∃ y,y=g j:=⟨_,rfl⟩
     obtain ⟨u,hu⟩:∃ u,u=o' (k+j):=⟨_,rfl⟩
     rw [<-hy] at e2 q2
     have K1:=hid (zdY (y:=y) (show k+j<n+m by omega) HV'.out hy)
     rw [<-hu] at y0 q3 K1
     have p0:(0:Int)<=(x:Int)*(y:Int):=by rw [<-Int.natCast_mul]; omega
     have p1:(x:Int)*(y:Int)<=18446744065119617025:=by rw [<-Int.natCast_mul]; have:=zdo q1 q2; omega
     have p2:(x:Int)*(y:Int)=((x*y:Nat):Int):=by rw [Int.natCast_mul]
     have p3:=zdo q1 q2
     have K2:Hid ((wr.setCell ⟨w.heap.size,k+j,none⟩ (.int .u32 (((x:Int)*y+u+cc) % 4294967296))).rowIs w.heap.size 110 (n+m) (fun i=>.int .u32 (upd o' (k+j) ((x*y+u+cc) % 4294967296) i:Nat))):=by
      refine (hrow.set (k+j) _).congr fun i _=>?_
      unfold upd
      by_cases e:i=k+j
      ·rw [if_pos e,if_pos e]; congr 1 <;> omega
      ·rw [if_neg e,if_neg e]
     have K3:Hid (∀ i,upd o' (k+j) ((x*y+u+cc) % 4294967296) i<4294967296):=fun i=>by
      unfold upd
      split
      ·omega
      ·exact HO'.out i
     have K4:Hid (∀ i,k+m<=i->upd o' (k+j) ((x*y+u+cc) % 4294967296) i=0):=fun i hi=>by
      rw [zbl (by omega)]; exact HZ'.out i hi
     have K5:Hid ((((x:Int)*y+u+cc) / 4294967296)=(((x*y+u+cc) / 4294967296:Nat):Int)):=by show _=_; omega
     have K6:Hid ((x*y+u+cc) / 4294967296<4294967296):=by show _<_; omega
     have p4:IntKind.u64.wrap ((x:Int)*(y:Int))=(x:Int)*(y:Int):=IntWalk.u64_in _ (by omega)
     have p5:IntKind.u64.wrap ((x:Int)*(y:Int)+(u:Int))=(x:Int)*(y:Int)+(u:Int):=IntWalk.u64_in _ (by omega)
     have p6:IntKind.u64.wrap ((x:Int)*(y:Int)+(u:Int)+(cc:Int))=(x:Int)*(y:Int)+(u:Int)+(cc:Int):=IntWalk.u64_in _ (by omega)
     have KD:Hid (∀ dn,((wr.drewN dn).setCell ⟨w.heap.size,k+j,none⟩ (.int .u32 (((x:Int)*y+u+cc) % 4294967296))).rowIs w.heap.size 110 (n+m) (fun i=>.int .u32 (upd o' (k+j) ((x*y+u+cc) % 4294967296) i:Nat))):=fun dn=>K2.out
     clear hy hu p2 hrow
     go_wp2
     go_quiet (fail)
     go_wp2
     go_roundg (gk - 1)
     case measure=>omega
     case rel=>exact ⟨j+1,(x*y+u+cc) / 4294967296,_,by go_num,by rw [<-K5.out],by omega,by omega,K6.out,(zac hB _).setCell (Nat.le_refl _) _,KD.out _,K3,K4,K1⟩
    ·obtain rfl:j=m:=by omega
     have y0:=hrow.cell (i:=k+j) (by omega)
     have z0:=hrow.frozen (k+j)
     have hix:((k:Int)+(j:Int)).toNat=k+j:=by omega
     have K1:Hid (nv (upd o' (k+j) cc) (n+j)=nv f (k+1)*nv g j):=by
      have h1:=ziq (f:=o') (v:=cc) (show k+j<n+j by omega)
      rw [HZ'.out (k+j) (Nat.le_refl _)] at h1
      have h3:=HV'.out
      rw [HV.out,HX.out] at h3
      show _=_
      simp only [nv]
      grind
     have K2:Hid ((wr.setCell ⟨w.heap.size,k+j,none⟩ (.int .u32 (cc:Nat))).rowIs w.heap.size 110 (n+j) (fun i=>.int .u32 (upd o' (k+j) cc i:Nat))):=by
      refine (hrow.set (k+j) _).congr fun i _=>?_
      unfold upd
      by_cases e:i=k+j
      ·rw [if_pos e,if_pos e]
      ·rw [if_neg e,if_neg e]
     have K3:Hid (∀ i,upd o' (k+j) cc i<4294967296):=fun i=>by
      unfold upd
      split
      ·omega
      ·exact HO'.out i
     have K4:Hid (∀ i,k+1+j<=i->upd o' (k+j) cc i=0):=fun i hi=>by
      rw [zbl (by omega)]; exact HZ'.out i (by omega)
     clear hrow
     go_wp2
     go_roundg (K - 1)
     case measure=>omega
     case rel=>exact ⟨k+1,_,by go_num,by omega,by omega,hB.setCell (Nat.le_refl _) _,K2.out,K3,K4,K1⟩
  ·obtain rfl:k=n:=by omega
   have hob:Hid (∀ i,i<k+m->o i<4294967296):=fun i _=>HO.out i
   go_wp2_with fail
   refine (zbD (some ⟨w.heap.size,0,none⟩) (k+m) (k+m) o wr (zca hrow) hob (Nat.le_refl _) (by unfold maxLen; omega) (by omega)).mono ?_
   rintro e w1 ⟨A',c',rfl,g1,g2,g3,g4⟩
   rw [HV.out] at g1 g3 ⊢
   have hB2:=onS hB g4
   clear hrow HO HZ hB g4
   go_wp2
   go_ret
   exact ⟨A',c',rfl,g1,g2,g3,hB2⟩
theorem zbX (A A2:Option Addr) (c c2 x y:Nat) (w:World) (h:NatOk w w.heap.size A x) (h2:NatOk w w.heap.size A2 y) (hn:dl x<=536870912) (hn2:dl y<=536870912) :
  Calls Tryz.prog 161 #[.slice A (dl x) c,.slice A2 (dl y) c2] w (NatPost (x*y) w):=by
 have:=zga A A2 (dl x) c (dl y) c2 (dg x) (dg y) w h h2 (zcE x) (zcE y) hn hn2
 rwa [zdX,zdX] at this
def sig:Nat->(Nat->Int)->Int
 | 0,_=>0
 | n+1,f=>sig n f+f n
theorem zag {n:Nat} {f g:Nat->Int} (h:∀ i,i<n->f i=g i):sig n f=sig n g:=by
 induction n with
 | zero=>rfl
 | succ n ih=>show sig n f+f n=sig n g+g n; rw [ih fun i hi=>h i (by omega),h n (by omega)]
theorem zd1 (n:Nat) (f g:Nat->Int):sig n (fun i=>f i+g i)=sig n f+sig n g:=by
 induction n with
 | zero=>rfl
 | succ n ih=>show sig n _+(f n+g n)=sig n f+f n+(sig n g+g n); rw [ih]; omega
theorem zcF (n:Nat) (c:Int) (f:Nat->Int):sig n (fun i=>c*f i)=c*sig n f:=by
 induction n with
 | zero=>show (0:Int)=c*0; omega
 | succ n ih=>show sig n _+_=c*(sig n f+f n); rw [ih,Int.mul_add]
theorem zdp (n:Nat) (c:Int):sig n (fun _=>c)=n*c:=by
 induction n with
 | zero=>show (0:Int)=((0:Nat):Int)*c; simp
 | succ n ih=>show sig n _+c=_; rw [ih]; grind
theorem zbg (n:Nat):sig n (fun _=>0)=0:=by rw [zdp]; simp
theorem zjC {n:Nat} {f g:Nat->Int} (h:∀ i,i<n->f i<=g i):sig n f<=sig n g:=by
 induction n with
 | zero=>exact Int.le_refl _
 | succ n ih=>show sig n f+f n<=sig n g+g n; have:=ih fun i hi=>h i (by omega); have:=h n (by omega); omega
theorem zgb (n m:Nat) (f:Nat->Nat->Int):sig n (fun i=>sig m (fun j=>f i j))=sig m (fun j=>sig n (fun i=>f i j)):=by
 induction n with
 | zero=>show (0:Int)=sig m (fun j=>0); rw [zbg]
 | succ n ih=>show sig n _+sig m _=sig m (fun j=>sig n _+f n j); rw [ih,zd1]
theorem zbI {n:Nat} {f:Nat->Int} {k:Nat} (hk:k<n) (h:∀ i,i<n->i≠k->f i=0):sig n f=f k:=by
 induction n with
 | zero=>omega
 | succ n ih =>
  show sig n f+f n=f k
  by_cases e:k=n
  ·subst e
   have:sig k f=0:=by rw [zag (g:=fun _=>0) fun i hi=>h i (by omega) (by omega),zbg]
   rw [this]; omega
  ·rw [ih (by omega) fun i hi hne=>h i (by omega) hne,h n (by omega) (by omega)]; omega
def ind (p:Prop) [Decidable p]:Int:=if p then 1 else 0
theorem zja (p:Prop) [Decidable p]:0<=ind p:=by unfold ind; split <;> omega
theorem ziv {n:Nat} {p:Nat->Prop} [∀ i,Decidable (p i)] (h:∀ i k,i<n->k<n->p i->p k->i=k):sig n (fun i=>ind (p i))<=1:=by
 by_cases e:∃ k,k<n/\p k
 ·obtain ⟨k,hk,hp⟩:=e
  rw [zbI hk fun i hi hne=>by unfold ind; rw [if_neg fun hpi=>hne (h i k hi hk hpi hp)]]
  unfold ind; split <;> omega
 ·rw [zag (g:=fun _=>0) fun i hi=>by unfold ind; rw [if_neg fun hp=>e ⟨i,hi,hp⟩],zbg]; omega
theorem pigeon {M N:Nat} {f:Nat->Nat} (hf:∀ i,i<M->f i<N) (hi:∀ i k,i<M->k<M->f i=f k->i=k):M<=N:=by
 have h1:sig N (fun v=>sig M (fun i=>ind (f i=v)))<=sig N (fun _=>1):=zjC fun v _=>ziv fun i k h1 h2 e1 e2=>hi i k h1 h2 (e1.trans e2.symm)
 rw [zgb,zdp,zag (g:=fun _=>1) fun i hi'=>by
  rw [zbI (hf i hi') fun v _ hne=>by unfold ind; rw [if_neg fun e=>hne e.symm]]
  unfold ind; rw [if_pos rfl],zdp] at h1
 omega
def code (q:Nat) (a:Nat->Nat):Nat->Nat
 | 0=>0
 | k+1=>code q a k+a k*q ^ k
theorem zgc {q:Nat} {a:Nat->Nat} {k:Nat} (h:∀ j,j<k->a j<q):code q a k<q ^ k:=by
 induction k with
 | zero=>show 0<1; omega
 | succ k ih =>
  show code q a k+a k*q ^ k<q ^ (k+1)
  have h1:=ih fun j hj=>h j (by omega)
  have h2:(a k+1)*q ^ k<=q*q ^ k:=Nat.mul_le_mul_right _ (h k (by omega))
  rw [Nat.pow_succ,Nat.mul_comm (q ^ k) q];rw [Nat.add_mul,Nat.one_mul] at h2
  omega
theorem ziw {q:Nat} {a b:Nat->Nat} {k:Nat} (ha:∀ j,j<k->a j<q) (hb:∀ j,j<k->b j<q) (e:code q a k=code q b k):∀ j,j<k->a j=b j:=by
 induction k with
 | zero=>intro j hj; omega
 | succ k ih =>
  have h1:=zgc (k:=k) fun j hj=>ha j (by omega)
  have h2:=zgc (k:=k) fun j hj=>hb j (by omega)
  have e':code q a k+a k*q ^ k=code q b k+b k*q ^ k:=e
  have hp:0<q ^ k:=by omega
  have e1:(code q a k+a k*q ^ k) / q ^ k=a k:=by rw [Nat.add_mul_div_right _ _ hp,Nat.div_eq_of_lt h1,Nat.zero_add]
  have e2:(code q b k+b k*q ^ k) / q ^ k=b k:=by rw [Nat.add_mul_div_right _ _ hp,Nat.div_eq_of_lt h2,Nat.zero_add]
  have ek:a k=b k:=by rw [<-e1,<-e2,e']
  intro j hj
  by_cases hjk:j=k
  ·rw [hjk]; exact ek
  ·refine ih (fun j hj=>ha j (by omega)) (fun j hj=>hb j (by omega)) ?_ j (by omega)
   rw [ek] at e'; omega
theorem zhm (a b:Nat) (f:Nat->Int):sig (a+b) f=sig a f+sig b (fun j=>f (a+j)):=by
 induction b with
 | zero=>show sig a f=sig a f+0; omega
 | succ b ih=>show sig (a+b) f+f (a+b)=sig a f+(sig b _+f (a+b)); rw [ih]; omega
def cg (P:Nat) (a b:Int):Prop:=∃ k:Int,a=b+P*k
section
variable {P:Nat} {a b c d:Int}
theorem zaq (a:Int):cg P a a:=⟨0,by simp⟩
theorem zbH (h:a=b):cg P a b:=h ▸ zaq a
theorem cg.symm (h:cg P a b):cg P b a:=by obtain ⟨k,rfl⟩:=h; exact ⟨-k,by rw [Int.mul_neg]; omega⟩
theorem cg.trans (h:cg P a b) (g:cg P b c):cg P a c:=by obtain ⟨k,rfl⟩:=h; obtain ⟨l,rfl⟩:=g; exact ⟨l+k,by rw [Int.mul_add]; omega⟩
theorem cg.add (h:cg P a b) (g:cg P c d):cg P (a+c) (b+d):=by obtain ⟨k,rfl⟩:=h; obtain ⟨l,rfl⟩:=g; exact ⟨k+l,by rw [Int.mul_add]; omega⟩
theorem cg.neg (h:cg P a b):cg P (-a) (-b):=by obtain ⟨k,rfl⟩:=h; exact ⟨-k,by rw [Int.mul_neg]; omega⟩
theorem cg.mul (h:cg P a b) (g:cg P c d):cg P (a*c) (b*d):=by
 obtain ⟨k,rfl⟩:=h; obtain ⟨l,rfl⟩:=g
 exact ⟨b*l+k*d+P*k*l,by grind⟩
theorem cg.mulL (x:Int) (g:cg P c d):cg P (x*c) (x*d):=(zaq x).mul g
theorem zfA (a:Int):cg P (a % P) a:=⟨-(a / P),by have:=Int.emod_add_mul_ediv a P; rw [Int.mul_neg]; omega⟩
theorem zd2 (a:Nat):cg P ((a % P:Nat):Int) a:=by rw [Int.natCast_emod]; exact zfA _
theorem zgd {a b:Nat} (h:cg P a b) (ha:a<P) (hb:b<P):a=b:=by
 obtain ⟨k,hk⟩:=h
 have h1:k=0:=by
  rcases Int.lt_trichotomy k 0 with h | h | h
  ·have:(P:Int)*k<=P*(-1):=Int.mul_le_mul_of_nonneg_left (by omega) (by omega)
   omega
  ·exact h
  ·have:(P:Int)*1<=P*k:=Int.mul_le_mul_of_nonneg_left (by omega) (by omega)
   omega
 subst h1
 omega
theorem zjb {n:Nat} {f g:Nat->Int} (h:∀ i,i<n->cg P (f i) (g i)):cg P (sig n f) (sig n g):=by
 induction n with
 | zero=>exact zaq _
 | succ n ih=>exact (ih fun i hi=>h i (by omega)).add (h n (by omega))
end
theorem ze7 (n:Nat) (f g:Nat->Int):sig n (fun i=>f i - g i)=sig n f - sig n g:=by
 induction n with
 | zero=>rfl
 | succ n ih=>show sig n _+(f n - g n)=sig n f+f n - (sig n g+g n); rw [ih]; omega
theorem zh4 (n:Nat) (f:Nat->Int):sig n (fun i => - f i) = - sig n f:=by
 induction n with
 | zero=>rfl
 | succ n ih=>show sig n _+(- f n) = - (sig n f+f n); rw [ih]; omega
theorem zh5 {n k:Nat} {f:Nat->Int} (hk:k<=n) (h:∀ i,k<=i->i<n->f i=0):sig n f=sig k f:=by
  induction n with
  | zero => have : k = 0 := by omega
            subst this; rfl
  | succ n ih =>
    by_cases e:k=n+1
    · subst e; rfl
    · show sig n f+f n=_
      rw [ih (by omega) fun i h1 h2=>h i h1 (by omega),h n (by omega) (by omega)]; omega
theorem zbY (n k:Nat) (x y:Nat->Int) (F:Nat->Nat->Int):sig n (fun i=>x i*sig k (fun j=>y j*F i j))=sig k (fun j=>y j*sig n (fun i=>x i*F i j)):=by
 have h1:sig n (fun i=>x i*sig k (fun j=>y j*F i j))=sig n (fun i=>sig k (fun j=>x i*(y j*F i j))):=zag fun i _=>(zcF _ _ _).symm
 have h2:sig k (fun j=>y j*sig n (fun i=>x i*F i j))=sig k (fun j=>sig n (fun i=>y j*(x i*F i j))):=zag fun i _=>(zcF _ _ _).symm
 rw [h1,h2,zgb]
 exact zag fun j _=>zag fun i _=>by rw [<-Int.mul_assoc,<-Int.mul_assoc,Int.mul_comm (x i)]
theorem zh6 (n k:Nat) (x:Nat->Int) (W:Nat->Nat->Int) (F:Nat->Int):sig n (fun a=>sig k (fun i=>x i*W i a)*F a)=sig k (fun i=>x i*sig n (fun a=>W i a*F a)):=by
 have h1:sig n (fun a=>sig k (fun i=>x i*W i a)*F a)=sig n (fun a=>F a*sig k (fun i=>x i*W i a)):=zag fun a _=>Int.mul_comm _ _
 rw [h1,zbY]
 exact zag fun i _=>by congr 1; exact zag fun a _=>Int.mul_comm _ _
def pwX (M:Nat) (m:Nat->Nat):Nat->Nat->Int
 | 0,j=>if j=0 then 1 else 0
 | n+1,j=>if j<M then (if j=0 then 0 else pwX M m n (j - 1)) - m j*pwX M m n (M - 1) else 0
def one0 (j:Nat):Int:=if j=0 then 1 else 0
section
variable {M:Nat} {m:Nat->Nat}
theorem zjc (hM:1<=M) {n j:Nat} (hj:M<=j):pwX M m n j=0:=by
 cases n with
 | zero=>show (if j=0 then (1:Int) else 0)=0; rw [if_neg (by omega)]
 | succ n=>show (if j<M then _ else (0:Int))=0; rw [if_neg (by omega)]
theorem zbr:∀ {t:Nat},t<M->∀ j,pwX M m t j=if j=t then 1 else 0:=by
 intro t
 induction t with
 | zero=>exact fun _ _=>rfl
 | succ t ih =>
  intro ht j
  show (if j<M then (if j=0 then 0 else pwX M m t (j - 1)) - m j*pwX M m t (M - 1) else 0)=_
  rw [ih (by omega),ih (by omega),if_neg (show ¬ M - 1=t by omega)]
  by_cases e:j=t+1
  ·rw [if_pos e,if_pos (by omega),if_neg (by omega),if_pos (by omega)]; omega
  ·rw [if_neg e]
   by_cases e1:j<M
   ·rw [if_pos e1]
    by_cases e2:j=0
    ·rw [if_pos e2]; omega
    ·rw [if_neg e2,if_neg (by omega)]; omega
   ·rw [if_neg e1]
theorem zjd (hM:1<=M) (j:Nat):pwX M m M j=if j<M then -(m j:Int) else 0:=by
 obtain ⟨k,rfl⟩:∃ k,M=k+1:=⟨M - 1,by omega⟩
 show (if j<k+1 then (if j=0 then 0 else pwX (k+1) m k (j - 1)) - m j*pwX (k+1) m k (k+1 - 1) else 0)=_
 rw [zbr (by omega),zbr (by omega),if_pos (show k+1 - 1=k by omega)]
 by_cases e1:j<k+1
 ·rw [if_pos e1,if_pos e1]
  by_cases e2:j=0
  ·rw [if_pos e2]; omega
  ·rw [if_neg e2,if_neg (by omega)]; omega
 ·rw [if_neg e1,if_neg e1]
theorem zh7 (hM:1<=M):∀ b n j,sig M (fun a=>pwX M m n a*pwX M m (a+b) j)=pwX M m (n+b) j:=by
 intro b
 induction b with
 | zero =>
  intro n j
  by_cases e:j<M
  ·rw [zbI e fun i hi hne=>by rw [Nat.add_zero,zbr hi,if_neg (by omega)]; omega,Nat.add_zero,zbr e,if_pos rfl,Nat.add_zero]; omega
  ·rw [zag (g:=fun _=>0) fun i hi=>by rw [zjc hM (show M<=j by omega)]; omega,zbg,zjc hM (by omega)]
 | succ b ih =>
  intro n j
  show sig M (fun a=>pwX M m n a*(if j<M then (if j=0 then 0 else pwX M m (a+b) (j - 1)) - m j*pwX M m (a+b) (M - 1) else 0))=(if j<M then (if j=0 then 0 else pwX M m (n+b) (j - 1)) - m j*pwX M m (n+b) (M - 1) else 0)
  by_cases e:j<M
  ·simp only [if_pos e]
   have h1:∀ a,pwX M m n a*((if j=0 then 0 else pwX M m (a+b) (j - 1)) - m j*pwX M m (a+b) (M - 1))=(if j=0 then 0 else pwX M m n a*pwX M m (a+b) (j - 1)) - m j*(pwX M m n a*pwX M m (a+b) (M - 1)):=fun a=>by
    split <;> grind
   rw [zag fun a _=>h1 a,ze7,zcF,ih]
   by_cases e2:j=0
   ·simp only [if_pos e2]; rw [zbg]
   ·simp only [if_neg e2]; rw [ih]
  ·simp only [if_neg e]
   rw [zag (g:=fun _=>0) fun i hi=>by omega,zbg]
theorem zh8 (hM:1<=M) {i:Nat} (hi:M<=i) (q:Nat):pwX M m i q = - sig M (fun k=>m k*pwX M m (i - M+k) q):=by
 have h:=zh7 (m:=m) hM (i - M) M q
 rw [show M+(i - M)=i by omega] at h
 rw [<-h,<-zh4]
 exact zag fun k hk=>by
  rw [zjd hM,if_pos hk,Int.neg_mul,show k+(i - M)=i - M+k by omega]
end
def mulI (M:Nat) (m:Nat->Nat) (x y:Nat->Int) (j:Nat):Int:=sig M fun i=>x i*sig M fun k=>y k*pwX M m (i+k) j
section
variable {M P:Nat} {m:Nat->Nat} {x y z x' y':Nat->Int}
theorem zaW (x y:Nat->Int):mulI M m x y=mulI M m y x:=funext fun j=>by
 show sig M (fun i=>x i*sig M fun k=>y k*pwX M m (i+k) j)=sig M (fun i=>y i*sig M fun k=>x k*pwX M m (i+k) j)
 rw [zbY]
 exact zag fun k _=>by congr 1; exact zag fun i _=>by rw [Nat.add_comm]
theorem zbw (hx:∀ i,i<M->cg P (x i) (x' i)) (hy:∀ i,i<M->cg P (y i) (y' i)) (j:Nat):cg P (mulI M m x y j) (mulI M m x' y' j) :=
 zjb fun i hi=>(hx i hi).mul (zjb fun k hk=>(hy k hk).mul (zaq _))
def mul3 (M:Nat) (m:Nat->Nat) (x y z:Nat->Int) (j:Nat):Int:=sig M fun i=>x i*sig M fun k=>y k*sig M fun l=>z l*pwX M m (i+k+l) j
theorem ze8 (hM:1<=M) (x y z:Nat->Int) (j:Nat):mulI M m (mulI M m x y) z j=mul3 M m x y z j:=by
 show sig M (fun a=>sig M (fun i=>x i*sig M fun k=>y k*pwX M m (i+k) a)*sig M fun l=>z l*pwX M m (a+l) j)=_
 rw [zh6]
 refine zag fun i _=>?_
 congr 1
 rw [zh6]
 refine zag fun k _=>?_
 congr 1
 rw [zbY]
 exact zag fun l _=>by rw [zh7 hM]
theorem zhn (x y z:Nat->Int) (j:Nat):mul3 M m x y z j=mul3 M m y z x j:=by
 show sig M (fun i=>x i*sig M fun k=>y k*sig M fun l=>z l*pwX M m (i+k+l) j)=sig M (fun k=>y k*sig M fun l=>z l*sig M fun i=>x i*pwX M m (k+l+i) j)
 rw [zbY]
 refine zag fun k _=>?_
 congr 1
 rw [zbY]
 refine zag fun l _=>?_
 congr 1
 exact zag fun i _=>by rw [show i+k+l=k+l+i by omega]
theorem zbZ (hM:1<=M) (x y z:Nat->Int):mulI M m (mulI M m x y) z=mulI M m x (mulI M m y z):=funext fun j=>by
 rw [zaW x (mulI M m y z),ze8 hM,ze8 hM,zhn]
theorem zho (x y z:Nat->Int) (j:Nat):mulI M m x (fun k=>y k+z k) j=mulI M m x y j+mulI M m x z j:=by
 unfold mulI
 rw [<-zd1]
 refine zag fun i _=>?_
 rw [<-Int.mul_add,<-zd1]
 congr 1
 exact zag fun k _=>by rw [Int.add_mul]
theorem zdq (c:Int) (x y:Nat->Int) (j:Nat):mulI M m (fun k=>c*x k) y j=c*mulI M m x y j:=by
 unfold mulI
 rw [<-zcF]
 exact zag fun i _=>by rw [Int.mul_assoc]
theorem zdr (x:Nat->Int) {j:Nat} (hj:j<M):mulI M m one0 x j=x j:=by
 unfold mulI
 rw [zbI (k:=0) (by omega) fun i _ hne=>by unfold one0; rw [if_neg hne]; omega]
 rw [zbI (k:=j) hj fun i hi hne=>by rw [Nat.zero_add,zbr hi,if_neg (by omega)]; omega]
 rw [Nat.zero_add,zbr hj,if_pos rfl]
 unfold one0
 rw [if_pos rfl]; omega
end
def evX (M:Nat) (m:Nat->Nat) (N:Nat) (c:Nat->Nat) (q:Nat):Int:=sig N fun t=>(c t:Int)*pwX M m t q
theorem ze9 {M N s v q:Nat} {m c:Nat->Nat} (hs:s<N):evX M m N (fun t=>if t=s then v else c t) q=evX M m N c q+((v:Int) - c s)*pwX M m s q:=by
 have h:sig N (fun t=>if t=s then ((v:Int) - c s)*pwX M m s q else 0)=((v:Int) - c s)*pwX M m s q:=by
  rw [zbI hs fun i _ hne=>by rw [if_neg hne],if_pos rfl]
 rw [<-h]
 unfold evX
 rw [<-zd1]
 refine zag fun t _=>?_
 simp only
 by_cases e:t=s
 ·subst e; rw [if_pos rfl,if_pos rfl]; grind
 ·rw [if_neg e,if_neg e]; omega
theorem za6 {p:Nat}:∀ {n:Nat} {f:Nat->Nat},(∀ i,i<n->f i<p)->∀ j,j<n->dig p (valN p f n) j=f j
 | 0,_,_,j,hj=>by omega
 | n + 1, f, h, j, hj => by
  have h0:=h 0 (by omega)
  show dig p (f 0+p*valN p (fun i=>f (i+1)) n) j=f j
  cases j with
  | zero=>rw [zct,Nat.add_mul_mod_self_left]; exact Nat.mod_eq_of_lt h0
  | succ j =>
   rw [zdj,Nat.add_mul_div_left _ _ (by omega),Nat.div_eq_of_lt h0,Nat.zero_add]
   exact za6 (fun i hi=>h (i+1) (by omega)) j (by omega)
theorem zd3 {p M x y:Nat} (hp:0<p) (hx:x<p ^ M) (hy:y<p ^ M) (h:∀ j,j<M->dig p x j=dig p y j):x=y:=by
 rw [<-zez hp M x hx,<-zez hp M y hy]
 exact zaP h
def dgt (p x j:Nat):Int:=(dig p x j:Nat)
theorem zbs {p M x y:Nat} (hp:0<p) (hx:x<p ^ M) (hy:y<p ^ M) (h:∀ j,j<M->cg p (dgt p x j) (dgt p y j)):x=y :=
 zd3 hp hx hy fun j hj=>zgd (h j hj) (zbT hp _ _) (zbT hp _ _)
theorem zix {P M:Nat} (hP:0<P) (x y:Nat) {j:Nat} (hj:j<M):cg P (dgt P (addF P M x y) j) (dgt P x j+dgt P y j):=by
 unfold dgt addF
 rw [za6 (fun _ _=>Nat.mod_lt _ hP) j hj]
 exact (zd2 _).trans (zbH (by simp))
section
variable {P M:Nat} {m:Nat->Nat} {a b c:Nat->Nat}
theorem zjD {N i:Nat} (q:Nat):∀ j,j<M+1->i+j<N+1->cg P (evX M m N (mIn P a b i c j) q) (evX M m N c q+a i*sig j fun k=>b k*pwX M m (i+k) q):=by
 intro j
 induction j with
 | zero=>intro _ _; exact zbH (by show evX M m N c q=evX M m N c q+a i*0; omega)
 | succ j ih =>
  intro hj hjN
  have h1:evX M m N (mIn P a b i c (j+1)) q=evX M m N (mIn P a b i c j) q+((((mIn P a b i c j (i+j)+a i*b j) % P:Nat):Int) - mIn P a b i c j (i+j))*pwX M m (i+j) q:=ze9 (by omega)
  rw [h1]
  refine ((ih (by omega) (by omega)).add ((((zd2 _).add (zaq _))).mul (zaq _))).trans (zbH ?_)
  show _=_+(a i:Int)*(sig j (fun k=>b k*pwX M m (i+k) q)+b j*pwX M m (i+j) q)
  simp only [Int.natCast_add,Int.natCast_mul]
  grind
theorem zje (hM:1<=M) (q:Nat):∀ i,i<M+1->cg P (evX M m (2*M - 1) (mOut P a b M i) q) (sig i fun i=>a i*sig M fun k=>b k*pwX M m (i+k) q):=by
 intro i
 induction i with
 | zero =>
  intro _
  refine zbH ?_
  show sig _ (fun t=>(((0:Nat):Int))*_)=0
  rw [zag (g:=fun _=>0) fun t _=>by simp,zbg]
 | succ i ih =>
  intro hi
  exact (zjD q M (by omega) (by omega)).trans ((ih (by omega)).add (zaq _))
theorem zjE (i j t:Nat) (h:t<i - M∨i - M+j<=t):rIn P M m i c j t=c t:=by
 induction j with
 | zero=>rfl
 | succ j ih =>
  show (if t=i - M+j then _ else _)=_
  rw [if_neg (by omega)]
  exact ih (by omega)
theorem zjF {i:Nat} (hM:M<=i) (hc:c i<=P) (q:Nat):∀ j,j<M+1->cg P (evX M m i (rIn P M m i c j) q) (evX M m i c q - c i*sig j fun k=>m k*pwX M m (i - M+k) q):=by
 intro j
 induction j with
 | zero=>intro _; exact zbH (by show evX M m i c q=evX M m i c q - c i*0; omega)
 | succ j ih =>
  intro hj
  have h1:evX M m i (rIn P M m i c (j+1)) q=evX M m i (rIn P M m i c j) q+((((rIn P M m i c j (i - M+j)+(P - rIn P M m i c j i)*m j) % P:Nat):Int) - rIn P M m i c j (i - M+j))*pwX M m (i - M+j) q:=ze9 (by omega)
  rw [h1,zjE i j i (by omega)]
  refine ((ih (by omega)).add ((((zd2 _).add (zaq _))).mul (zaq _))).trans ?_
  show cg P _ (_ - (c i:Int)*(sig j (fun k=>m k*pwX M m (i - M+k) q)+m j*pwX M m (i - M+j) q))
  refine ⟨m j*pwX M m (i - M+j) q,?_⟩
  simp only [Int.natCast_add,Int.natCast_mul,Int.natCast_sub hc]
  grind
theorem zjf (hP:0<P) (hM:1<=M) (hc:∀ t,c t<P) (q:Nat):∀ s,s+1<=M->cg P (evX M m (2*M - 1 - s) (rOut P M m c s) q) (evX M m (2*M - 1) c q):=by
 intro s
 induction s with
 | zero=>intro _; exact zaq _
 | succ s ih =>
  intro hs
  have hl:=zdW (M:=M) (m:=m) hP hc s (2*M - 2 - s)
  refine Go.Proofs.YtioagplajkoohaaGreat.cg.trans ?_ (ih (by omega))
  have e1:2*M - 1 - s=(2*M - 2 - s)+1:=by omega
  have e2:2*M - 1 - (s+1)=2*M - 2 - s:=by omega
  rw [e1,e2]
  have h:=zjF (P:=P) (m:=m) (i:=2*M - 2 - s) (c:=rOut P M m c s) (show M<=2*M - 2 - s by omega) (by omega) q M (by omega)
  refine h.trans (zbH ?_)
  show _=evX M m (2*M - 2 - s) (rOut P M m c s) q+(rOut P M m c s (2*M - 2 - s):Int)*pwX M m (2*M - 2 - s) q
  rw [zh8 hM (show M<=2*M - 2 - s by omega),Int.mul_neg]
  omega
theorem zds (hP:0<P) (hM:1<=M) (x y:Nat) {j:Nat} (hj:j<M):cg P (dgt P (mulF P M m x y) j) (mulI M m (dgt P x) (dgt P y) j):=by
 have hl:=ze1 (a:=dig P x) (b:=dig P y) (M:=M) hP M
 unfold dgt mulF
 rw [za6 (fun i _=>zdW hP hl (M - 1) i) j hj]
 have h1:evX M m M (rOut P M m (mOut P (dig P x) (dig P y) M M) (M - 1)) j=(rOut P M m (mOut P (dig P x) (dig P y) M M) (M - 1) j:Nat):=by
  unfold evX
  rw [zbI hj fun t ht hne=>by rw [zbr ht,if_neg (by omega)]; omega,zbr hj,if_pos rfl]
  omega
 rw [<-h1]
 have h2:=zjf (m:=m) hP hM hl j (M - 1) (by omega)
 rw [show 2*M - 1 - (M - 1)=M by omega] at h2
 exact h2.trans (zje hM j M (by omega))
theorem zaU (hP:0<P) (x y:Nat):mulF P M m x y<P ^ M:=za9 fun _ _=>zdW hP (ze1 hP M) _ _
end
def dIn (P d:Nat) (low:Nat->Nat) (i c:Nat) (r:Nat->Nat):Nat->Nat->Nat
 | 0=>r
 | j+1=>fun t=>if t=i - d+j then (dIn P d low i c r j (i - d+j)+(P - c)*low j) % P else dIn P d low i c r j t
def dOut (P d:Nat) (low:Nat->Nat) (M:Nat) (r:Nat->Nat):Nat->Nat->Nat
 | 0=>r
 | s+1=>fun t=>if t=M - s then 0 else dIn P d low (M - s) (dOut P d low M r s (M - s)) (dOut P d low M r s) d t
def modR (M:Nat) (m:Nat->Nat) (t:Nat):Nat:=if t<M then m t else 1
def DivB (P M:Nat) (m:Nat->Nat) (d:Nat) (low:Nat->Nat):Prop:=∀ t,t<M+1->dOut P d low M (modR M m) (M+1 - d) t=0
def IrrB (P M:Nat) (m:Nat->Nat):Prop:=∀ d,1<=d->2*d<=M->∀ v,v<P ^ d->¬ DivB P M m d (dig P v)
theorem zjg {P d:Nat} (hP:0<P) {low r:Nat->Nat} {i c:Nat} (hr:∀ t,r t<P):∀ j t,dIn P d low i c r j t<P:=by
 intro j
 induction j with
 | zero=>exact hr
 | succ j ih =>
  intro t
  show (if t=i - d+j then _ else _)<P
  split
  ·exact Nat.mod_lt _ hP
  ·exact ih t
theorem zfa {P d M:Nat} (hP:0<P) {low r:Nat->Nat} (hr:∀ t,r t<P):∀ s t,dOut P d low M r s t<P:=by
 intro s
 induction s with
 | zero=>exact hr
 | succ s ih =>
  intro t
  show (if t=M - s then 0 else _)<P
  split
  ·exact hP
  ·exact zjg hP ih d t
theorem zjh {P d:Nat} {low r:Nat->Nat} {i c:Nat} (j t:Nat) (h:t<i - d∨i - d+j<=t):dIn P d low i c r j t=r t:=by
 induction j with
 | zero=>rfl
 | succ j ih =>
  show (if t=i - d+j then _ else _)=_
  rw [if_neg (by omega)]
  exact ih (by omega)
theorem zfb {P d M:Nat} {low r:Nat->Nat} (hd:d<=M):∀ s,s<=M+1 - d->∀ t,M<t+s->t<=M->dOut P d low M r s t=0:=by
 intro s
 induction s with
 | zero=>intro _ t h1 h2; omega
 | succ s ih =>
  intro hs t h1 h2
  show (if t=M - s then 0 else _)=0
  by_cases e:t=M - s
  ·rw [if_pos e]
  ·rw [if_neg e,zjh d t (by omega)]
   exact ih (by omega) t (by omega) h2
def hD (P d:Nat) (low:Nat->Nat) (M:Nat) (r:Nat->Nat):Nat->Nat->Int
 | 0=>fun _=>0
 | s+1=>fun t=>if t=M - s - d then (dOut P d low M r s (M - s):Nat) else hD P d low M r s t
def lead (d:Nat) (low:Nat->Nat) (k:Nat):Int:=if k<d then (low k:Nat) else if k=d then 1 else 0
section
variable {P M d:Nat} {m low:Nat->Nat}
theorem zjG (hd:d<=M):∀ s,s<=M+1 - d->∀ t,t+s<=M - d->hD P d low M (modR M m) s t=0:=by
 intro s
 induction s with
 | zero=>exact fun _ _ _=>rfl
 | succ s ih =>
  intro hs t ht
  show (if t=M - s - d then _ else _)=(0:Int)
  rw [if_neg (by omega)]
  exact ih (by omega) t (by omega)
theorem zh9 (hd:d<=M):∀ s,s<=M+1 - d->∀ t,M - d<t->hD P d low M (modR M m) s t=0:=by
 intro s
 induction s with
 | zero=>exact fun _ _ _=>rfl
 | succ s ih =>
  intro hs t ht
  show (if t=M - s - d then _ else _)=(0:Int)
  rw [if_neg (by omega)]
  exact ih (by omega) t ht
theorem zji (hd:d<=M):∀ s,s+1<=M+1 - d->hD P d low M (modR M m) (s+1) (M - d)=1:=by
 intro s
 induction s with
 | zero =>
  intro _
  show (if M - d=M - 0 - d then ((modR M m (M - 0):Nat):Int) else _)=1
  rw [if_pos (by omega)]
  unfold modR
  rw [if_neg (by omega)]; rfl
 | succ s ih =>
  intro hs
  show (if M - d=M - (s+1) - d then _ else _)=(1:Int)
  rw [if_neg (by omega)]
  exact ih (by omega)
theorem zjH {i c:Nat} {r:Nat->Nat} (hid:d<=i) (hiM:i<=M) (hc:c<=P) (q:Nat):∀ j,j<d+1->cg P (evX M m (M+1) (dIn P d low i c r j) q) (evX M m (M+1) r q - c*sig j fun k=>low k*pwX M m (i - d+k) q):=by
 intro j
 induction j with
 | zero=>intro _; exact zbH (by show evX M m (M+1) r q=evX M m (M+1) r q - c*0; omega)
 | succ j ih =>
  intro hj
  have h1:evX M m (M+1) (dIn P d low i c r (j+1)) q=evX M m (M+1) (dIn P d low i c r j) q+((((dIn P d low i c r j (i - d+j)+(P - c)*low j) % P:Nat):Int) - dIn P d low i c r j (i - d+j))*pwX M m (i - d+j) q:=ze9 (by omega)
  rw [h1]
  refine ((ih (by omega)).add ((((zd2 _).add (zaq _))).mul (zaq _))).trans ?_
  show cg P _ (_ - (c:Int)*(sig j (fun k=>low k*pwX M m (i - d+k) q)+low j*pwX M m (i - d+j) q))
  refine ⟨low j*pwX M m (i - d+j) q,?_⟩
  simp only [Int.natCast_add,Int.natCast_mul,Int.natCast_sub hc]
  grind
theorem ziy (t q:Nat):sig (d+1) (fun k=>lead d low k*pwX M m (t+k) q)=sig d (fun k=>low k*pwX M m (t+k) q)+pwX M m (t+d) q:=by
 show sig d _+_=_
 have h1:sig d (fun k=>lead d low k*pwX M m (t+k) q)=sig d (fun k=>low k*pwX M m (t+k) q):=zag fun k hk=>by unfold lead; rw [if_pos hk]
 have h2:lead d low d=1:=by unfold lead; rw [if_neg (by omega),if_pos rfl]
 rw [h1]
 show _+lead d low d*pwX M m (t+d) q=_
 rw [h2]; omega
theorem zjj (hP:0<P) (hP1:1<P) (hm:∀ t,t<M->m t<P) (hM:1<=M) (hd:d<=M) (q:Nat):∀ s,s<=M+1 - d->cg P (evX M m (M+1) (dOut P d low M (modR M m) s) q) (- sig (M+1) fun t=>hD P d low M (modR M m) s t*sig (d+1) fun k=>lead d low k*pwX M m (t+k) q):=by
 intro s
 have hr:∀ t,modR M m t<P:=fun t=>by unfold modR; split; exact hm t (by assumption); exact hP1
 induction s with
 | zero =>
  intro _
  refine zbH ?_
  show sig M (fun t=>((modR M m t:Nat):Int)*pwX M m t q)+((modR M m M:Nat):Int)*pwX M m M q = - sig (M+1) (fun t=>0*_)
  rw [zag (n:=M+1) (g:=fun _=>0) fun t _=>by rw [Int.zero_mul],zbg]
  rw [zag (n:=M) (g:=fun t=>(m t:Int)*pwX M m t q) fun t ht=>by unfold modR; rw [if_pos ht]]
  unfold modR
  rw [if_neg (by omega),zh8 hM (Nat.le_refl M),Nat.sub_self]
  simp only [Nat.zero_add]
  omega
 | succ s ih =>
  intro hs
  obtain ⟨c,hcd⟩:∃ c,c=dOut P d low M (modR M m) s (M - s):=⟨_,rfl⟩
  have hc:c<P:=by rw [hcd]; exact zfa hP hr s _
  have h0:=zjG (P:=P) (m:=m) (low:=low) hd s (by omega) (M - s - d) (by omega)
  have h1:evX M m (M+1) (dOut P d low M (modR M m) (s+1)) q=evX M m (M+1) (dIn P d low (M - s) c (dOut P d low M (modR M m) s) d) q+(((0:Nat):Int) - dIn P d low (M - s) c (dOut P d low M (modR M m) s) d (M - s))*pwX M m (M - s) q:=by
   rw [hcd]; exact ze9 (by omega)
  have h2:=zjH (P:=P) (M:=M) (m:=m) (low:=low) (i:=M - s) (c:=c) (r:=dOut P d low M (modR M m) s) (show d<=M - s by omega) (by omega) (by omega) q d (by omega)
  rw [h1,zjh d (M - s) (by omega),<-hcd]
  refine (h2.add (zaq _)).trans ?_
  refine (((ih (by omega)).add (zaq _)).add (zaq _)).trans (zbH ?_)
  have h3:sig (M+1) (fun t=>hD P d low M (modR M m) (s+1) t*sig (d+1) fun k=>lead d low k*pwX M m (t+k) q)=sig (M+1) (fun t=>hD P d low M (modR M m) s t*sig (d+1) fun k=>lead d low k*pwX M m (t+k) q)+sig (M+1) (fun t=>if t=M - s - d then (c:Int)*sig (d+1) (fun k=>lead d low k*pwX M m (t+k) q) else 0):=by
   rw [<-zd1]
   refine zag fun t _=>?_
   show (if t=M - s - d then ((dOut P d low M (modR M m) s (M - s):Nat):Int) else hD P d low M (modR M m) s t)*_=_
   rw [<-hcd]
   by_cases e:t=M - s - d
   ·rw [if_pos e,if_pos e,e,h0]; omega
   ·rw [if_neg e,if_neg e]; omega
  have h4:sig (M+1) (fun t=>if t=M - s - d then (c:Int)*sig (d+1) (fun k=>lead d low k*pwX M m (t+k) q) else 0)=(c:Int)*sig (d+1) (fun k=>lead d low k*pwX M m (M - s - d+k) q):=by
   rw [zbI (k:=M - s - d) (by omega) fun t _ hne=>by rw [if_neg hne],if_pos rfl]
  rw [h3,h4,ziy,show M - s - d+d=M - s by omega]
  grind
theorem zia (hP1:1<P) (hm:∀ t,t<M->m t<P) (hd1:1<=d) (hd:d<M) {q:Nat} (hq:q<M):cg P (mulI M m (hD P d low M (modR M m) (M+1 - d)) (lead d low) q) (- (dOut P d low M (modR M m) (M+1 - d) q:Nat)):=by
 have h:=zjj (low:=low) (by omega) hP1 hm (by omega) (show d<=M by omega) q (M+1 - d) (Nat.le_refl _)
 have hz:=zfb (P:=P) (low:=low) (r:=modR M m) (show d<=M by omega) (M+1 - d) (Nat.le_refl _)
 have h1:evX M m (M+1) (dOut P d low M (modR M m) (M+1 - d)) q=(dOut P d low M (modR M m) (M+1 - d) q:Nat):=by
  unfold evX
  rw [zbI (k:=q) (by omega) fun t ht hne=>by
   by_cases e:t<M
   ·rw [zbr e,if_neg (by omega)]; omega
   ·rw [hz t (by omega) (by omega)]; omega]
  rw [zbr hq,if_pos rfl]; omega
 rw [h1] at h
 have h2:mulI M m (hD P d low M (modR M m) (M+1 - d)) (lead d low) q=sig (M+1) fun t=>hD P d low M (modR M m) (M+1 - d) t*sig (d+1) fun k=>lead d low k*pwX M m (t+k) q:=by
  unfold mulI
  rw [zh5 (n:=M+1) (k:=M) (by omega) fun t h1 h2=>by rw [zh9 (by omega) _ (Nat.le_refl _) t (by omega)]; omega]
  refine zag fun t _=>?_
  congr 1
  exact zh5 (by omega) fun k h1 h2=>by unfold lead; rw [if_neg (by omega),if_neg (by omega)]; omega
 rw [h2]
 have:=h.neg
 exact (zbH (by omega)).trans this.symm
end
theorem zhp {P:Nat} (hP:PrimeB P):∀ c,0<c->c<P->∃ u:Int,cg P (u*c) 1:=by
 intro c
 induction c using Nat.strongRecOn with
 | ind c ih =>
  intro h0 hc
  by_cases h1:c=1
  ·exact ⟨1,zbH (by rw [h1]; rfl)⟩
  ·have hr:P % c≠0:=hP c (by omega) hc
   have hl:P % c<c:=Nat.mod_lt _ h0
   obtain ⟨u,k,hu⟩:=ih (P % c) hl (by omega) (by omega)
   have hdiv:((P % c:Nat):Int)=P - c*(P / c:Nat):=by
    have:=Nat.mod_add_div P c
    have h2:((P % c+c*(P / c):Nat):Int)=P:=by rw [this]
    rw [Int.natCast_add,Int.natCast_mul] at h2
    omega
   rw [hdiv] at hu
   refine ⟨-u*(P / c:Nat),k - u,?_⟩
   grind
section
variable {P M:Nat} {m:Nat->Nat}
theorem zjk (hP1:1<P) (hp:PrimeB P) (hM:1<=M) (hm:M=1∨∀ t,t<M->m t<P) (hi:IrrB P M m):∀ d,d<M->∀ A:Nat->Int,(∀ k,d<k->k<M->cg P (A k) 0)->¬ cg P (A d) 0->∃ B:Nat->Int,∀ j,j<M->cg P (mulI M m A B j) (one0 j):=by
 have hunit:∀ x:Int,¬ cg P x 0->∃ u:Int,cg P (u*x) 1:=fun x hx=>by
  have h0:0<=x % P:=Int.emod_nonneg _ (by omega)
  have h1:x % P<P:=Int.emod_lt_of_pos _ (by omega)
  obtain ⟨c,hc⟩:=Int.eq_ofNat_of_zero_le h0
  have hc0:c≠0:=fun e=>hx (((zfA x).symm).trans (zbH (by rw [hc,e]; rfl)))
  obtain ⟨u,hu⟩:=zhp hp c (by omega) (by omega)
  refine ⟨u,(Go.Proofs.YtioagplajkoohaaGreat.cg.mulL u ?_).trans hu⟩
  rw [<-hc]
  exact (zfA x).symm
 have hne1:¬ cg P 1 0:=fun h=>by
  have:=zgd (P:=P) (a:=1) (b:=0) h (by omega) (by omega)
  omega
 intro d
 induction d using Nat.strongRecOn with
 | ind d ih =>
  intro hd A hA hAd
  obtain ⟨u,hu⟩:=hunit _ hAd
  by_cases hd0:d=0
  ·subst hd0
   refine ⟨fun k=>u*one0 k,fun j hj=>?_⟩
   rw [zaW,zdq]
   have h1:cg P (mulI M m one0 A j) (A j):=zbH (zdr A hj)
   refine (Go.Proofs.YtioagplajkoohaaGreat.cg.mulL u h1).trans ?_
   unfold one0
   by_cases e:j=0
   ·subst e; rw [if_pos rfl]; exact hu
   ·rw [if_neg e]
    exact (Go.Proofs.YtioagplajkoohaaGreat.cg.mulL u (hA j (by omega) hj)).trans (zbH (by omega))
  ·have hm':∀ t,t<M->m t<P:=hm.resolve_left (by omega)
   obtain ⟨low,hlow⟩:∃ low:Nat->Nat,low=fun k=>((u*A k) % P).toNat:=⟨_,rfl⟩
   have hlc:∀ k,(low k:Int)=(u*A k) % P:=fun k=>by
    rw [hlow]
    have:=Int.emod_nonneg (u*A k) (show (P:Int)≠0 by omega)
    simp only; omega
   have hll:∀ k,low k<P:=fun k=>by
    have:=Int.emod_lt_of_pos (u*A k) (show (0:Int)<P by omega)
    have:=hlc k; omega
   obtain ⟨low',hlow'⟩:∃ l,l=dig P (valN P low d):=⟨_,rfl⟩
   have hlq:∀ k,k<d->low' k=low k:=fun k hk=>by rw [hlow']; exact za6 (fun i _=>hll i) k hk
   have hlead:∀ k,k<M->cg P (lead d low' k) (u*A k):=fun k hk=>by
    unfold lead
    by_cases e:k<d
    ·rw [if_pos e,hlq k e,hlc]; exact zfA _
    ·rw [if_neg e]
     by_cases e2:k=d
     ·rw [if_pos e2,e2]; exact hu.symm
     ·rw [if_neg e2]
      exact ((Go.Proofs.YtioagplajkoohaaGreat.cg.mulL u (hA k (by omega) hk)).trans (zbH (by omega))).symm
   obtain ⟨h,hh⟩:∃ h,h=hD P d low' M (modR M m) (M+1 - d):=⟨_,rfl⟩
   obtain ⟨r,hr⟩:∃ r,r=dOut P d low' M (modR M m) (M+1 - d):=⟨_,rfl⟩
   have hmul:∀ q,q<M->cg P (mulI M m h (lead d low') q) (- (r q:Nat)):=fun q hq=>by
    rw [hh,hr]; exact zia hP1 hm' (by omega) hd hq
   have hrl:∀ t,r t<P:=fun t=>by
    rw [hr]
    exact zfa (by omega) (fun t=>by unfold modR; split; exact hm' t (by assumption); exact hP1) _ t
   have hrz:∀ t,d<=t->t<=M->r t=0:=fun t h1 h2=>by rw [hr]; exact zfb (by omega) _ (Nat.le_refl _) t (by omega) h2
   -- from an inverse of u A to one of A
   have key:∀ X:Nat->Int,(∀ j,j<M->cg P (mulI M m (lead d low') X j) (one0 j))->∃ B:Nat->Int,∀ j,j<M->cg P (mulI M m A B j) (one0 j):=fun X hX=>by
    refine ⟨fun k=>u*X k,fun j hj=>?_⟩
    refine Go.Proofs.YtioagplajkoohaaGreat.cg.trans ?_ (hX j hj)
    rw [zaW A,zdq,zaW X,<-zdq]
    exact zbw (fun i hi=>(hlead i hi).symm) (fun i _=>zaq _) j
   by_cases hz:∀ t,t<d->r t=0
   ·have hr0:∀ t,t<M+1->r t=0:=fun t ht=>by
     by_cases e:t<d
     ·exact hz t e
     ·exact hrz t (by omega) (by omega)
    by_cases h2d:2*d<=M
    ·exact absurd (show DivB P M m d (dig P (valN P low d)) by rw [<-hlow']; unfold DivB; rw [<-hr]; exact hr0) (hi d (by omega) h2d _ (za9 fun i _=>hll i))
    ·obtain ⟨B,hB⟩:=ih (M - d) (by omega) (by omega) h (fun k h1 h2=>by rw [hh,zh9 (by omega) _ (Nat.le_refl _) k h1]; exact zaq _) (by rw [hh,show M+1 - d=(M - d)+1 by omega,zji (by omega) (M - d) (by omega)]; exact hne1)
     exfalso
     apply hne1
     have e1:lead d low' d=1:=by unfold lead; rw [if_neg (by omega),if_pos rfl]
     rw [<-e1]
     have h1:cg P (mulI M m one0 (lead d low') d) (mulI M m (mulI M m h B) (lead d low') d):=zbw (fun i hi=>(hB i hi).symm) (fun i _=>zaq _) d
     have h2:mulI M m (mulI M m h B) (lead d low')=mulI M m (mulI M m h (lead d low')) B:=by rw [zaW h B,zbZ hM,zaW B]
     have h3:cg P (mulI M m (mulI M m h (lead d low')) B d) (mulI M m (fun _=>0) B d):=zbw (fun i hi'=>(hmul i hi').trans (zbH (by rw [hr0 i (by omega)]; rfl))) (fun i _=>zaq _) d
     have h4:mulI M m (fun _=>0) B d=0:=by
      unfold mulI
      rw [zag (g:=fun _=>0) fun i _=>by rw [Int.zero_mul],zbg]
     rw [zdr _ hd,h2] at h1
     exact h1.trans (h3.trans (zbH h4))
   ·-- the greatest index with a remainder that is not 0
    have hex:∃ t,t<d/\r t≠0/\∀ k,t<k->k<d->r k=0:=by
     have : ∀ n, n ≤ d → (∀ t, n ≤ t → t < d → r t = 0) ∨ ∃ t, n ≤ t ∧ t < d ∧ r t ≠ 0 ∧ ∀ k, t < k → k < d → r k = 0 := by
      intro n
      induction hk:d - n generalizing n with
      | zero=>intro hn; exact .inl fun t h1 h2=>by omega
      | succ k ihk =>
       intro hn
       rcases ihk (n+1) (by omega) (by omega) with h | ⟨t,h1,h2,h3,h4⟩
       ·by_cases e:r n=0
        ·exact .inl fun t h1 h2=>by
          by_cases e2:t=n
          ·rw [e2]; exact e
          ·exact h t (by omega) h2
        ·exact .inr ⟨n,Nat.le_refl _,by omega,e,fun k h1 h2=>h k (by omega) h2⟩
       ·exact .inr ⟨t,by omega,h2,h3,h4⟩
     rcases this 0 (by omega) with h | ⟨t,_,h2,h3,h4⟩
     ·exact absurd (fun t ht=>h t (by omega) ht) hz
     ·exact ⟨t,h2,h3,h4⟩
    obtain ⟨t,ht,hrt,hrk⟩:=hex
    obtain ⟨B,hB⟩:=ih t ht (by omega) (fun k => - (r k:Int)) (fun k h1 h2=>by
     have:r k=0:=by
      by_cases e:k<d
      ·exact hrk k h1 e
      ·exact hrz k (by omega) (by omega)
     exact zbH (by rw [this]; rfl)) (fun h=>by
     have h':=h.neg
     rw [Int.neg_neg] at h'
     exact hrt (zgd (P:=P) (a:=r t) (b:=0) (h'.trans (zbH rfl)) (hrl t) (by omega)))
    refine key (mulI M m h B) fun j hj=>?_
    have e1:mulI M m (lead d low') (mulI M m h B)=mulI M m (mulI M m h (lead d low')) B:=by rw [<-zbZ hM,zaW (lead d low') h]
    rw [e1]
    exact (zbw (fun i hi'=>hmul i hi') (fun i _=>zaq _) j).trans (hB j hj)
end
structure FieldLaws (q:Nat) (add mul:Nat->Nat->Nat):Prop where
 two:2<=q
 addLt:∀ x y,add x y<q
 mulLt:∀ x y,mul x y<q
 addComm:∀ x y,add x y=add y x
 addAssoc:∀ x y z,x<q->y<q->z<q->add (add x y) z=add x (add y z)
 zeroAdd:∀ x,x<q->add 0 x=x
 neg:∀ x,x<q->∃ y,y<q/\add x y=0
 mulComm:∀ x y,x<q->y<q->mul x y=mul y x
 mulAssoc:∀ x y z,x<q->y<q->z<q->mul (mul x y) z=mul x (mul y z)
 oneMul:∀ x,x<q->mul 1 x=x
 distrib:∀ x y z,x<q->y<q->z<q->mul x (add y z)=add (mul x y) (mul x z)
 inv:∀ x,x<q->x≠0->∃ y,y<q/\mul x y=1
def FieldOk (P M:Nat) (m:Nat->Nat):Prop:=FldOk P M/\PrimeB P/\(M=1∨∀ t,t<M->m t<P)/\IrrB P M m
theorem fieldLaws {P M : Nat} {m : Nat → Nat} (h : FieldOk P M m) : FieldLaws (P ^ M) (addF P M) (mulF P M m) := by
 obtain ⟨⟨hP2,hM,_,_⟩,hp,hm,hi⟩:=h
 have hP0:0<P:=by omega
 have hq:P<=P ^ M:=by
  have:=Nat.pow_le_pow_right hP0 hM
  simpa using this
 have one:∀ j,dgt P 1 j=one0 j:=fun j=>by
  unfold dgt one0
  cases j with
  | zero=>rw [zct,Nat.mod_eq_of_lt (by omega)]; rfl
  | succ j=>rw [zdj,Nat.div_eq_of_lt (by omega),zbJ]; rfl
 have aD:=fun (x y j:Nat) (hj:j<M)=>zix (P:=P) hP0 x y hj
 have mD:=fun (x y j:Nat) (hj:j<M)=>zds (P:=P) (m:=m) hP0 hM x y hj
 have val:∀ B:Nat->Int,∃ y,y<P ^ M/\∀ j,j<M->cg P (dgt P y j) (B j):=fun B=>by
  have hl:∀ j,(((B j) % P).toNat:Int)=B j % P:=fun j=>by
   have:=Int.emod_nonneg (B j) (show (P:Int)≠0 by omega)
   omega
  have hlt:∀ j,((B j) % P).toNat<P:=fun j=>by
   have:=Int.emod_lt_of_pos (B j) (show (0:Int)<P by omega)
   have:=hl j; omega
  refine ⟨valN P (fun j=>((B j) % P).toNat) M,za9 fun i _=>hlt i,fun j hj=>?_⟩
  unfold dgt
  rw [za6 (fun i _=>hlt i) j hj,hl]
  exact zfA _
 refine ⟨by omega,fun x y=>zc8 hP0 x y,fun x y=>zaU hP0 x y,zhj P M,fun x y z hx hy hz=>?_,fun x hx=>zhi hP0 hx,fun x hx=>?_,fun x y hx hy=>?_,fun x y z hx hy hz=>?_,fun x hx=>?_,fun x y z hx hy hz=>?_,fun x hx h0=>?_⟩
 ·refine zbs hP0 (zc8 hP0 _ _) (zc8 hP0 _ _) fun j hj=>?_
  refine (aD _ _ j hj).trans (((aD _ _ j hj).add (zaq _)).trans ?_)
  exact (zbH (by omega)).trans ((aD _ _ j hj).trans ((zaq _).add (aD _ _ j hj))).symm
 ·obtain ⟨y,hy,hB⟩:=val fun j => - dgt P x j
  refine ⟨y,hy,zbs hP0 (zc8 hP0 _ _) (Nat.pow_pos hP0) fun j hj=>?_⟩
  refine (aD _ _ j hj).trans (((zaq _).add (hB j hj)).trans (zbH ?_))
  unfold dgt; rw [zbJ]; omega
 ·refine zbs hP0 (zaU hP0 _ _) (zaU hP0 _ _) fun j hj=>?_
  exact (mD _ _ j hj).trans ((zbH (by rw [zaW])).trans (mD _ _ j hj).symm)
 ·refine zbs hP0 (zaU hP0 _ _) (zaU hP0 _ _) fun j hj=>?_
  refine (mD _ _ j hj).trans ((zbw (fun i hi=>mD _ _ i hi) (fun i _=>zaq _) j).trans ?_)
  rw [zbZ hM]
  exact ((mD _ _ j hj).trans (zbw (fun i _=>zaq _) (fun i hi=>mD _ _ i hi) j)).symm
 ·refine zbs hP0 (zaU hP0 _ _) hx fun j hj=>?_
  refine (mD _ _ j hj).trans (zbH ?_)
  rw [show dgt P 1=one0 from funext one,zdr _ hj]
 ·refine zbs hP0 (zaU hP0 _ _) (zc8 hP0 _ _) fun j hj=>?_
  refine (mD _ _ j hj).trans ((zbw (fun i _=>zaq _) (fun i hi=>aD _ _ i hi) j).trans ?_)
  rw [zho]
  exact ((aD _ _ j hj).trans ((mD _ _ j hj).add (mD _ _ j hj))).symm
 ·-- the leading digit
  have hex:∃ d,d<M/\dig P x d≠0/\∀ k,d<k->k<M->dig P x k=0:=by
   have : ∀ n, n ≤ M → (∀ t, n ≤ t → t < M → dig P x t = 0) ∨ ∃ t, n ≤ t ∧ t < M ∧ dig P x t ≠ 0 ∧ ∀ k, t < k → k < M → dig P x k = 0 := by
    intro n
    induction hk:M - n generalizing n with
    | zero=>intro hn; exact .inl fun t h1 h2=>by omega
    | succ k ihk =>
     intro hn
     rcases ihk (n+1) (by omega) (by omega) with h | ⟨t,h1,h2,h3,h4⟩
     ·by_cases e:dig P x n=0
      ·exact .inl fun t h1 h2=>by
        by_cases e2:t=n
        ·rw [e2]; exact e
        ·exact h t (by omega) h2
      ·exact .inr ⟨n,Nat.le_refl _,by omega,e,fun k h1 h2=>h k (by omega) h2⟩
     ·exact .inr ⟨t,by omega,h2,h3,h4⟩
   rcases this 0 (by omega) with h | ⟨t,_,h2,h3,h4⟩
   ·exact absurd (zd3 hP0 hx (Nat.pow_pos hP0) fun j hj=>by rw [h j (by omega) hj,zbJ]) h0
   ·exact ⟨t,h2,h3,h4⟩
  obtain ⟨d,hd,hnz,hk⟩:=hex
  obtain ⟨B,hB⟩:=zjk (by omega) hp hM hm hi d hd (dgt P x) (fun k h1 h2=>zbH (by unfold dgt; rw [hk k h1 h2]; rfl)) (fun h=>hnz (zgd (P:=P) (b:=0) h (zbT hP0 _ _) hP0))
  obtain ⟨y,hy,hyB⟩:=val B
  refine ⟨y,hy,zbs hP0 (zaU hP0 _ _) (by omega) fun j hj=>?_⟩
  refine (mD _ _ j hj).trans ((zbw (fun i _=>zaq _) (fun i hi'=>hyB i hi') j).trans ((hB j hj).trans (zbH (one j).symm)))
end Go.Proofs.YtioagplajkoohaaGreat