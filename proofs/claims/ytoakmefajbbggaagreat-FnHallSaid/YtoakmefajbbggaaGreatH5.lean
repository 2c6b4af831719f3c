/- Merged from templates. -/
import Derived.Test.YtoakmefajbbggaaGreatH4
import Derived.ArgAppend
set_option maxRecDepth 100000
set_option maxHeartbeats 8000000
namespace Go.Proofs.YtoakmefajbbggaaGreat
open Go.RowKit
def numTo (o x:List Int):Nat->Int
 | 0=>0
 | k+1=>numTo o x k*gt o k+gt x k
def num (P:Pr) (x:List Int):Int:=numTo P.orders x P.orders.length
theorem numTo_bd {P:Pr}(hP:Valid P) {x:List Int}(hx:Vec P.orders x) (k:Nat) (hk:k<=P.orders.length):0<=numTo P.orders x k/\numTo P.orders x k+1<=prodTo P.orders k:=by
 induction k with
 | zero=>simp[numTo,prodTo]
 | succ k a=>
  obtain⟨h1,h2⟩:=a (by omega);have e:=hP.pos k (by omega);have i:=hx.2 k (by omega);have j:0<=numTo P.orders x k*gt P.orders k:=Int.mul_nonneg h1 (by omega);have b:(numTo P.orders x k+1)*gt P.orders k<=prodTo P.orders k*gt P.orders k:=Int.mul_le_mul_of_nonneg_right h2 (by omega);rw[Int.add_mul,Int.one_mul] at b;simp only[numTo,prodTo];omega
theorem num_bd {P:Pr}(hP:Valid P) {x:List Int}(hx:Vec P.orders x):0<=num P x/\num P x<ordP P:=by
 have:=numTo_bd hP hx P.orders.length (Nat.le_refl _);unfold num ordP;omega
theorem numberOf_ok (P:Pr) (hP:Valid P) (w:World) (p x:Value) (X:List Int) (u y:Nat->Prop) (m:PresP u w p P) (hx:Ints y w x X) (a:Vec P.orders X) :
  Calls Tryz.prog 90 #[p,x] w λe w'=>e=.returned (.int .i64 (num P X))/\w=w':=by
 have z:=hP.n6;have A:X.length<=P.orders.length/\P.orders.length<=X.length:=by rw[a.1];omega
 obtain⟨pb,po,rfl⟩:=m.shape;obtain⟨E,capx,rfl,_,_⟩:=hx.shape;obtain⟨F,capo,hco,hoi⟩:=m.ordAt;go_enter Tryz.func90,Tryz.ntmps90;go_wp2;go_loop [5,10] (λB i=>∃k:Nat,i=.int .i64 k/\B=.int .i64 (numTo P.orders X k)/\k<=X.length) (λ_ i=>X.length-(intOf i).toNat)
 case atStart=>exact⟨0,rfl,rfl,by omega⟩
 case round=>
  obtain⟨k,rfl,rfl,hk⟩:=hrel;by_cases j:k<X.length
  ·obtain ⟨b,off,rfl,_,_,hc⟩:=Ints.at hx k j
   obtain⟨b2,off2,rfl,_,_,hc2⟩:=Ints.at hoi k (by omega);have h1:=numTo_bd hP a (k+1) (by omega);have C:=hP.pre (k+1) (by omega);have q:=a.2 k (by omega);have r:=numTo_bd hP a k (by omega);have D:=hP.ord7 k (by omega);have G:0<=numTo P.orders X k*gt P.orders k:=Int.mul_nonneg r.1 (by omega);have H:numTo P.orders X k*gt P.orders k<=729:=by simp only[numTo] at h1;omega
   have I:0<=gt X k:=q.1;have J:gt X k<=7:=by omega
   clear h1 C q r D;go_wp2;go_round
   case rel=>exact⟨k+1,by go_num,rfl,by omega⟩
   case measure=>simp[intOf];omega
  ·have l:k=P.orders.length:=by omega
   subst l;go_wp2;go_ret;exact⟨rfl,rfl⟩
def elTo (o:List Int) (N:Nat) (m:Int):Nat->List Int × Int
 | 0=>(List.replicate N 0,m)
 | k+1=>
  let s:=elTo o N m k
  (s.1.set (N-1-k) (s.2%gt o (N-1-k)),s.2/gt o (N-1-k))
def elAt (P:Pr) (m:Int):List Int:=(elTo P.orders P.orders.length m P.orders.length).1
theorem elTo_inv {P:Pr}(hP:Valid P) (m:Int) (b:0<=m) (k:Nat) (hk:k<=P.orders.length) :
  Vec P.orders (elTo P.orders P.orders.length m k).1/\0<=(elTo P.orders P.orders.length m k).2/\(elTo P.orders P.orders.length m k).2<=m:=by
 induction k with
 | zero=>
  refine⟨⟨by simp[elTo],λi e => ?_⟩,b,Int.le_refl _⟩;have:=hP.ord7 i e;simp only[elTo];rw[gt_replicate];omega
 | succ k j=>
  obtain⟨h1,a,l⟩:=j (by omega);have p:=hP.ord7 (P.orders.length-1-k) (by omega);refine⟨h1.set _ _ ⟨Int.emod_nonneg _ (by omega),λ_=>Int.emod_lt_of_pos _ (by omega)⟩,Int.ediv_nonneg a (by omega),?_⟩;exact Int.le_trans (Int.ediv_le_self _ a) l
theorem elAt_vec {P:Pr}(hP:Valid P) (m:Int) (a:0<=m):Vec P.orders (elAt P m):=(elTo_inv hP m a _ (Nat.le_refl _)).1
theorem l10One_ok (P:Pr) (hP:Valid P) (w:World) (pv:Value) (e:Nat->Prop) (i:PresV e w pv P) :
  Calls Tryz.prog 215 #[pv] w (Ret w λw' v=>Own w.heap.size w' v (zeros P.orders.length)):=by
 obtain⟨vo,vp,vc,rfl,h3⟩:=i;have j:=hP.n6;have hB:=PresP.box h3 28;obtain⟨k,capo,hco,hoi⟩:=hB.ordAt;go_enter Tryz.func215,Tryz.ntmps215;go_wp2_with (at_make;refine wp_make_ints rfl _ _ rfl (w.heap.size+1) P.orders.length (w.heap.size+1) (by simp) _ rfl rfl rfl (by omega) (by simp) ?_;intro l a b _)
 go_ret;exact⟨_,rfl,grown_trans (World.grownBy_alloc _ _ _) b,a.weak (by omega)⟩
theorem elementAt_ok (P:Pr) (hP:Valid P) (w:World) (p:Value) (m:Int) (J:Nat->Prop) (C:PresP J w p P) (K:0<=m) (N:m<=1000000000) :
  Calls Tryz.prog 136 #[p,.int .i64 m] w (Ret w λw' v=>Own w.heap.size w' v (elAt P m)):=by
 have O:=hP.n6;obtain⟨pb,po,rfl⟩:=C.shape;obtain⟨U,capo,hco0,hoi⟩:=C.ordAt;have l:=hco0;go_enter Tryz.func136,Tryz.ntmps136;go_wp2_with (at_make;refine wp_make_ints rfl _ _ rfl w.heap.size P.orders.length w.heap.size rfl _ rfl rfl rfl (by omega) (by simp) ?_;intro V u y _)
 clear l;have q:=Lib.hid hco0;clear hco0
 go_loopw [1,6] (λQ i wr=>∃k:Nat,i=.int .i64 ((P.orders.length:Int)-1-k)/\Q=.int .i64 (elTo P.orders P.orders.length m k).2/\k<=P.orders.length/\Ext w wr /\
   Own w.heap.size wr (.slice (some ⟨w.heap.size,0,none⟩) P.orders.length P.orders.length) (elTo P.orders P.orders.length m k).1) (λ_ i _=>(intOf i+1).toNat)
 case atStart=>exact⟨0,by simp,rfl,by omega,y,u⟩
 case round=>
  obtain⟨k,rfl,rfl,hk,hg,hO⟩:=hrel;obtain⟨R,hm0,hm1⟩:=elTo_inv hP m K k hk;by_cases z:k<P.orders.length
  ·obtain ⟨b2,off2,rfl,_,_,hc20⟩:=Ints.at hoi (P.orders.length-1-k) (by omega)
   have l:=hg.cell q.out (by simp);have S:=hg.cell hc20 (by simp);have b:=hP.ord7 (P.orders.length-1-k) (by omega);have W:=hO.cell (P.orders.length-1-k) (by rw[R.1];omega);have X:=hO.frozen (P.orders.length-1-k);have a:elTo P.orders P.orders.length m (k+1)=((elTo P.orders P.orders.length m k).1.set (P.orders.length-1-k) ((elTo P.orders P.orders.length m k).2%gt P.orders (P.orders.length-1-k)),(elTo P.orders P.orders.length m k).2/gt P.orders (P.orders.length-1-k)):=rfl;have r:=Lib.hid a;clear a;obtain⟨A,hg2⟩:=hO.store (P.orders.length-1-k) ((elTo P.orders P.orders.length m k).2%gt P.orders (P.orders.length-1-k));have e:Ext w (wr.setCell ⟨w.heap.size,P.orders.length-1-k,none⟩ (.int .i64 ((elTo P.orders P.orders.length m k).2%gt P.orders (P.orders.length-1-k)))):=grown_own hg hg2 (λj T z=>by cases T;omega);have D:=e.cell q.out (by simp);have E:=e.cell hc20 (by simp);clear hc20;have F:((P.orders.length:Int)-1-k).toNat=P.orders.length-1-k:=by omega
   generalize G:P.orders.length-1-k=i at *;generalize (elTo P.orders P.orders.length m k).1=L at *;generalize (elTo P.orders P.orders.length m k).2=M at *;have H:2<=gt P.orders i:=b.1;have I:gt P.orders i<=7:=b.2;have Y:=Lib.hid G;clear G b;go_wp2;go_roundw
   case rel=>exact⟨k+1,by congr 1;omega,by rw[r.out],by omega,e,by rw[r.out];exact A⟩
   case measure=>simp[intOf];omega
  ·have B:k=P.orders.length:=by omega
   subst B;go_wp2;go_ret;exact⟨_,rfl,hg,hO⟩
theorem l10At_ok (P:Pr) (hP:Valid P) (w:World) (pv:Value) (m:Int) (W:Nat->Prop) (E:PresV W w pv P) (X:0<=m) (Y:m<=1000000000) :
  Calls Tryz.prog 170 #[pv,.int .i64 m] w (Ret w λw' v=>Own w.heap.size w' v (elAt P m)):=by
 have Z:=hP.n6;obtain⟨vo,vp,vc,rfl,h3⟩:=E;have O:=PresP.box h3 28;have F:Ext w (w.alloc (.cells #[vo,vp,vc] 28)):=World.grownBy_alloc _ _ _;obtain⟨aa,vp9,vc9,_,_,hc0,hc1,A,h39⟩:=O.at;obtain⟨ao,capo,p,hoi⟩:=O.ordAt;go_enter Tryz.func170,Tryz.ntmps170;go_wp2_with fail
 have B:(w.alloc (.cells #[vo,vp,vc] 28)).heap.size=w.heap.size+1:=by simp
 have HS:=Lib.hid B;clear B;clear hc0 hc1 A;have C:=Lib.hid p;clear p;generalize G:w.alloc (.cells #[vo,vp,vc] 28)=w0 at *;clear G;refine Calls.mono (l10One_ok P hP w0 _ Any ⟨_,_,_,rfl,h39⟩) ?_;rintro e1 w1 ⟨r,rfl,hg1,a⟩;have q:=a.ints (by simp[zeros];omega);obtain⟨H,b,rfl,_,_⟩:=q.shape;have l:(zeros P.orders.length).length=P.orders.length:=by simp[zeros]
 rw[l] at q;have a:Own w0.heap.size w1 (.slice H P.orders.length b) (zeros P.orders.length):=by rw[l] at a;exact a
 simp only[l];clear l q;go_wp2
 go_loopw [1,6] (λmv i wr=>∃k:Nat,i=.int .i64 ((P.orders.length:Int)-1-k)/\mv=.int .i64 (elTo P.orders P.orders.length m k).2/\k<=P.orders.length/\Ext w0 wr /\
   Own w0.heap.size wr (.slice H P.orders.length b) (elTo P.orders P.orders.length m k).1) (λ_ i _=>(intOf i+1).toNat)
 case atStart=>exact⟨0,by simp,rfl,by omega,hg1,a⟩
 case round=>
  clear a;obtain⟨k,rfl,rfl,hk,hg,hO⟩:=hrel;obtain⟨I,hm0,hm1⟩:=elTo_inv hP m X k hk;by_cases J:k<P.orders.length
  ·obtain ⟨g,capg,u,hgb,hgs⟩:=hO.form (by rw[I.1];omega)
   rw[I.1] at u;obtain⟨rfl,_⟩:H=some ⟨g,0,none⟩/\b=capg:=by cases u;exact⟨rfl,rfl⟩
   clear u;obtain⟨b2,off2,rfl,_,_,hc20⟩:=Ints.at hoi (P.orders.length-1-k) (by omega);have p:=hg.cell C.out (by simp);have A:=hg.cell hc20 (by simp);have y:=hP.ord7 (P.orders.length-1-k) (by omega);have hc:=hO.cell (P.orders.length-1-k) (by rw[I.1];omega);have hf:=hO.frozen (P.orders.length-1-k);have e:elTo P.orders P.orders.length m (k+1)=((elTo P.orders P.orders.length m k).1.set (P.orders.length-1-k) ((elTo P.orders P.orders.length m k).2%gt P.orders (P.orders.length-1-k)),(elTo P.orders P.orders.length m k).2/gt P.orders (P.orders.length-1-k)):=rfl;have D:=Lib.hid e;clear e;obtain⟨K,hg2⟩:=hO.store (P.orders.length-1-k) ((elTo P.orders P.orders.length m k).2%gt P.orders (P.orders.length-1-k));have z:Ext w0 (wr.setCell ⟨g,P.orders.length-1-k,none⟩ (.int .i64 ((elTo P.orders P.orders.length m k).2%gt P.orders (P.orders.length-1-k)))):=grown_own hg hg2 (λj hj J=>by cases hj;omega);have Q:=z.cell C.out (by simp);have R:=z.cell hc20 (by simp);clear hc20;have S:((P.orders.length:Int)-1-k).toNat=P.orders.length-1-k:=by omega
   generalize T:P.orders.length-1-k=i at *;generalize (elTo P.orders P.orders.length m k).1=L at *;generalize (elTo P.orders P.orders.length m k).2=M at *;have U:2<=gt P.orders i:=y.1;have V:gt P.orders i<=7:=y.2;have HI:=Lib.hid T;clear T y;go_wp2;go_roundw
   case rel=>exact⟨k+1,by congr 1;omega,by rw[D.out],by omega,z,by rw[D.out];exact K⟩
   case measure=>simp[intOf];omega
  ·have N:k=P.orders.length:=by omega
   subst N;go_wp2;go_ret;exact⟨_,rfl,grown_trans F hg,hO.weak (by have:=HS.out;omega)⟩
theorem und_rows:Tryz.prog.underlying 25=some (.slice 24):=by kernel_rfl
theorem Tryz.infoRow:(Tryz.prog.info? 24).map (λi=>(i.zero,i.size,i.bytes))=some (some (.slice none 0 0),1,24):=by kernel_rfl
theorem wp_app_row {j:Array Oper}{rest:List Oper}{o:Oper}{a:Act}{Q:Exit->Act->World->Prop}{w:World}(m:o.guard=none) (s x:Operand)
  (q:o.op=Op.call { callee:=Callee.builtin Builtin.append,args := #[s,x],argTypes := #[25,25] }) (B:Nat) (e i:World) (v u:Value) (xs:List (List Int)) (y:List Int) (r:a.eval s=v) (k:RowsO B e v xs)
  (z:Ext e i) (A:OwnIn (From e.heap.size) i u y) (C:w=i.alloc (.cells #[u] 24)) (hx:a.eval x=.slice (some ⟨i.heap.size,0,none⟩) 1 1) (l:xs.length<=1000000) (b:B<=e.heap.size)
  (h:∀p w',RowsO B w' p (xs++[y])->e.grownBy w' v.ownBlock->i.grownBy w' v.ownBlock->wpList Tryz.prog j Q rest (a.put o.dst p) w') :
  wpList Tryz.prog j Q (o :: rest) a w:=
 wp_app_one rdOwn 25 24 (.slice none 0 0) 24 und_rows Tryz.infoRow rfl (by decide) m s x q B e i v u xs y r k z A C hx l b h
theorem SlO.lt {α:Type} [Inhabited α] {El:(Nat->Prop)->World->Value->α->Prop}{E B:Nat}{w:World}{v:Value}{xs:List α}(h:SlO El E B w v xs) (k:Nat) (hk:v.ownBlock=some k):B<=k/\k<w.heap.size:=by
 obtain⟨a,G,_,hO,_⟩:=h;exact hO.lt k hk
theorem SlO.extw {α:Type} [Inhabited α] {El:(Nat->Prop)->World->Value->α->Prop}{E B:Nat}{w a b:World}{v:Value}{xs:List α}(h:SlO El E B a v xs) (e:Ext w a) (hB:w.heap.size<=B) (k:a.grownBy b v.ownBlock):Ext w b:=
 grown_own e k (λj i l=>by have:=(h.lt j i).1;omega)
def allEl (P:Pr):List (List Int):=(List.range (ordP P).toNat).map (λk:Nat=>elAt P (k:Int))
theorem range_map_succ {α:Type}(f:Nat->α) (k:Nat):(List.range (k+1)).map f=(List.range k).map f++[f k]:=by
 rw[List.range_succ,List.map_append];rfl
theorem allElements_ok (P:Pr) (hP:Valid P) (w:World) (p:Value) (l:Nat->Prop) (z:PresP l w p P) :
  Calls Tryz.prog 88 #[p] w (Ret w λw' v=>RowsO w.heap.size w' v (allEl P)):=by
 have A:ordP P<=729:=hP.le729;have B:=hP.ordP_pos;go_enter Tryz.func88,Tryz.ntmps88;go_wp2_with (go_at_call 87;refine(orderOf_ok _ _ P l hP z).mono ?_;rintro H I ⟨rfl,rfl⟩)
 go_loopw [3,7] (λv i wr=>∃k:Nat,i=.int .i64 k/\k<=(ordP P).toNat/\Ext w wr/\RowsO w.heap.size wr v ((List.range k).map (λk:Nat=>elAt P (k:Int)))) (λ_ i _=>(ordP P).toNat-(intOf i).toNat)
 case atStart=>exact⟨0,rfl,by omega,Ext.refl _,SlO.nil _ _ _ _⟩
 case round=>
  obtain⟨k,rfl,hk,e,hO⟩:=hrel;by_cases E:(k:Int)<ordP P
  ·go_wp2_with fail
   refine Calls.mono (elementAt_ok P hP wr p k l (z.ext e) (by omega) (by omega)) ?_;rintro J C ⟨r,rfl,m,hR⟩;have D:=elAt_vec hP (k:Int) (by omega);have a:OwnIn (From wr.heap.size) C r (elAt P k):=OwnIn.of hR (by rw[D.1];have:=hP.n6;omega) (λj F _=>F);clear D;obtain⟨K,capr,rfl,_,_⟩:=a.ints.shape;go_wp2_with (at_builtin;go_must (refine wp_app_row rfl _ _ rfl w.heap.size wr C _ _ _ (elAt P k) rfl hO m a rfl rfl (by simp;omega) e.size ?_);intro L M b q G)
   have u:=hO.extw e (Nat.le_refl _) q;rw[<-range_map_succ (λk:Nat=>elAt P (k:Int))] at b;go_roundw
   case rel=>exact⟨k+1,by go_num,by omega,u,b⟩
   case measure=>simp[intOf];omega
  ·have y:k=(ordP P).toNat:=by omega
   subst y;go_wp2;go_ret;exact⟨_,rfl,e,hO⟩
theorem gtMem {α:Type} [Inhabited α] {l:List α}{i:Nat}(h:i<l.length):gt l i∈l:=by rw[gt_eq l i h];exact List.getElem_mem h
theorem nzClosure_ok (x:Int) (w:World):Calls Tryz.prog 219 #[.int .i64 x] w λe w'=>e=.returned (.bool (x != 0))/\w=w':=by
 go_enter Tryz.func219,Tryz.ntmps219;go_wp2;exact bodyPost_ret (v := .bool (x != 0)) (by simp[results,Tryz.results219,go_sem]) rfl ⟨rfl,rfl⟩
theorem idxNz_ok (v:Value) (X:List Int) (w:World) (S:Nat->Prop) (h:Ints S w v X) (q:dep X<X.length) :
  Calls Tryz.prog 218 #[v,.func (.func 219) #[] #[]] w λe w'=>e=.returned (.int .i64 (dep X))/\w=w':=by
 obtain⟨a,cap,rfl,_,_⟩:=h.shape;have r:=Lib.hid q;clear q;go_enter Tryz.func218,Tryz.ntmps218;go_wp2;go_loopw [8] (λv wr=>∃k:Nat,v=.int .i64 k/\k<=dep X/\w=wr) (λv _=>X.length-(intOf v).toNat)
 case atStart=>exact⟨0,rfl,by omega,rfl⟩
 case round=>
  obtain⟨k,rfl,hk,rfl⟩:=hrel;have l:k<X.length:=by have:=r.out;omega
  have u:(k:Int)<X.length:=by omega
  obtain⟨b,off,rfl,_,_,hc⟩:=Ints.at h k l;by_cases hx:gt X k=0
  ·have m:k≠dep X:=λe=>dep_ne r.out (by rw[<-e];exact hx)
   have i:=nzClosure_ok (gt X k) w;rw[show(gt X k != 0)=false by simp[hx]] at i;have p:=Lib.hid (And.intro hx m);clear hx m;go_wp2_with fail
   refine Calls.mono i ?_;rintro z A ⟨rfl,rfl⟩;clear i;go_wp2;go_roundw
   case rel=>exact⟨k+1,by go_num,by have:=p.out.2;omega,trivial⟩
   case measure=>simp[intOf];omega
  ·have y:dep X=k:=dep_eq l (λj B=>dep_zero (by omega)) hx
   have i:=nzClosure_ok (gt X k) w;rw[show(gt X k != 0)=true by simp[hx]] at i;have p:=Lib.hid y;clear hx y;go_wp2_with fail
   refine Calls.mono i ?_;rintro z A ⟨rfl,rfl⟩;clear i;go_wp2;exact bodyPost_ret (v := .int .i64 k) (by simp[results,Tryz.results218,go_sem]) rfl ⟨by rw[p.out],rfl⟩
theorem wp_app_val (T E:Nat) (z:Value) (bytes:Nat) (C:Tryz.prog.underlying T=some (.slice E)) (D:(Tryz.prog.info? E).map (λi=>(i.zero,i.size,i.bytes))=some (some z,1,bytes))
  (p:z.cells.size=1) (q:bytes<=64) {e:Array Oper}{rest:List Oper}{o:Oper}{a:Act}{Q:Exit->Act->World->Prop}{w:World}(r:o.guard=none) (s x:Operand)
  (F:o.op=Op.call { callee:=Callee.builtin Builtin.append,args := #[s,x],argTypes := #[T,T] }) (B:Nat) (v u:Value) (xs:List Value) (G:a.eval s=v) (w0:World) (k:OwnV B E w0 v xs) (H:w=w0.alloc (.cells #[u] E)) (h1:u.oneCell'=true)
  (hx:a.eval x=.slice (some ⟨w0.heap.size,0,none⟩) 1 1) (A:xs.length<=1000000) (y:B<=w0.heap.size)
  (h:∀m w',OwnV B E w' m (xs++[u])->w0.grownBy w' v.ownBlock->wpList Tryz.prog e Q rest (a.put o.dst m) w') :
  wpList Tryz.prog e Q (o :: rest) a w:=by
 subst H;have b:Ext w0 (w0.alloc (.cells #[u] E)):=World.grownBy_alloc _ _ _;refine wp_app T E z bytes C D p q r s x F B v xs G (k.kept b (by cases K:v.ownBlock<;>simp)) (some ⟨w0.heap.size,0,none⟩) 1 1 [u] hx rfl (by simp) ?_ ?_ (by simp;omega) (by have:=b.size;omega) ?_
 ·intro j L
  have:j=0:=by omega
  subst this;exact⟨_,_,rfl,by rw[World.cell?_alloc_at _ _ _ _ rfl];rfl⟩
 ·intro M l
  simp at l;subst l;exact h1
 ·intro m w' I J _ _
  exact h m w' I (grown_trans (grown_of_ext _ b) J)
theorem und_intsG:Tryz.prog.underlying 171=some (.slice 3):=by kernel_rfl
theorem Tryz.infoIntG:(Tryz.prog.info? 3).map (λi=>(i.zero,i.size,i.bytes))=some (some (.int .i64 0),1,8):=by kernel_rfl
def depV (U:List (List Int)):List Value:=U.map (λz => .int .i64 (dep z))
theorem pivots_ok (v:Value) (U:List (List Int)) (w:World) (S:Nat->Prop) (h:Rows2 S w v U) (E:∀z∈U,dep z<z.length) (Q:U.length<=100000) :
  Calls Tryz.prog 162 #[v] w (Ret w λw' r=>OwnV w.heap.size 3 w' r (depV U)):=by
 obtain⟨a,cap,rfl,_,_⟩:=Sl.shape h;have H:=Lib.hid E;clear E;go_enter Tryz.func162,Tryz.ntmps162;go_wp2;go_loopw [3,8] (λI p wr=>∃(k:Nat) (v4:Value),v4=I/\p=.int .i64 k/\k<=U.length/\Ext w wr/\OwnV w.heap.size 3 wr v4 (depV (U.take k))) (λ_ p _=>U.length-(intOf p).toNat)
 case atStart=>exact⟨0,_,rfl,rfl,by omega,Ext.refl _,World.ownsRow_nil _ _ _ _⟩
 case round=>
  obtain⟨k,v4,rfl,rfl,hk,m,hO⟩:=hrel;by_cases i:k<U.length
  ·obtain ⟨b,off,a2,cap2,rfl,_,_,hc,J⟩:=Rows2.at (Rows2.ext h m) k i
   have e:depV (U.take (k+1))=depV (U.take k)++[.int .i64 (dep (gt U k))]:=by unfold depV;rw[take_succ_gt U k i,List.map_append];rfl
   have q:(depV (U.take k)).length<=1000000:=by unfold depV;rw[List.length_map,List.length_take];omega
   have K:=Lib.hid e;clear e;have F:(k:Int)<U.length:=by omega
   go_wp2_with fail
   refine Calls.mono (idxNz_ok _ (gt U k) wr _ J (H.out _ (gtMem i))) ?_;rintro R T ⟨rfl,rfl⟩;go_wp2_with (first|(at_builtin;refine wp_app_val 171 3 (.int .i64 0) 8 und_intsG Tryz.infoIntG rfl (by decide) rfl _ _ rfl w.heap.size v4 _ (depV (U.take k)) rfl wr hO rfl rfl rfl q m.size ?_;intro L M u y)|fail)
   have A:Ext w M:=grown_own m y (λj N i=>by have:=(hO.lt j N).1;omega);go_roundw
   case rel=>exact⟨k+1,L,rfl,by go_num,by omega,A,by rw[K.out];exact u⟩
   case measure=>simp[intOf];omega
  ·have B:k=U.length:=by omega
   subst B;rw[List.take_length] at hO
   have C:∃G l,v4=.slice G U.length l:=by
    rcases hO.form with⟨h1,D⟩|⟨g,cp,h1,_⟩
    ·have O:U.length=0:=by unfold depV at D;rw[List.map_eq_nil_iff] at D;rw[D];rfl
     exact⟨none,0,by rw[h1,O]⟩
    ·exact⟨_,_,by rw[h1];unfold depV;rw[List.length_map]⟩
   obtain⟨G,l,rfl⟩:=C;go_wp2;go_ret;exact⟨_,rfl,m,hO⟩
theorem Tryz.infoRows:(Tryz.prog.info? 25).map (λi=>(i.zero,i.size,i.bytes))=some (some (.slice none 0 0),1,24):=by kernel_rfl
theorem und_rows3:Tryz.prog.underlying 26=some (.slice 25):=by kernel_rfl
def Box3 (W:World) (b:Nat) (a e i:Value):Prop:=
 b<W.heap.size/\W.cell? ⟨b,0,none⟩=some a/\W.cell? ⟨b,1,none⟩=some e/\W.cell? ⟨b,2,none⟩=some i/\∀k,W.frozen? ⟨b,k,none⟩=false
theorem Box3.ext {W e:World}{b:Nat}{i j l:Value}(h:Box3 W b i j l) (a:Ext W e):Box3 e b i j l:=by
 obtain⟨m,h1,h2,h3,p⟩:=h;exact⟨Nat.lt_of_lt_of_le m a.size,a.cell h1 (by simp),a.cell h2 (by simp),a.cell h3 (by simp),λk=>(World.frozen?_of_block (w:=W) (a.block b m (by simp))).trans (p k)⟩
theorem Box3.put {W:World}{b:Nat}{a e i:Value}(h:Box3 W b a e i) (v:Value) :
  Box3 (W.setCell ⟨b,0,none⟩ v) b v e i/\Box3 (W.setCell ⟨b,1,none⟩ v) b a v i/\Box3 (W.setCell ⟨b,2,none⟩ v) b a e v:=by
 obtain⟨q,h1,m,p,j⟩:=h;have l:∀k,b<(W.setCell ⟨b,k,none⟩ v).heap.size:=λk=>by simpa [World.setCell] using q
 refine⟨⟨l 0,World.cell?_setCell_same _ _ _ h1,?_,?_,λk=>by simp[j]⟩,⟨l 1,?_,World.cell?_setCell_same _ _ _ m,?_,λk=>by simp[j]⟩,⟨l 2,?_,?_,World.cell?_setCell_same _ _ _ p,λk=>by simp[j]⟩⟩
 all_goals first
  | exact(World.cell?_setCell_other _ _ _ _ (by simp)).trans h1
  | exact(World.cell?_setCell_other _ _ _ _ (by simp)).trans m
  | exact(World.cell?_setCell_other _ _ _ _ (by simp)).trans p
theorem Box3.made (w:World) (T:Nat) (a b e:Value):Box3 (w.alloc (.cells #[a,b,e] T)) w.heap.size a b e:=by
 refine⟨by simp,?_,?_,?_,λk=>World.frozen?_alloc_at _ _ _ _ rfl⟩<;>(rw[World.cell?_alloc_at _ _ _ _ rfl];rfl)
structure Touch (F:Nat->Prop) (w w':World):Prop where
 os:w'.os=w.os
 tape:w'.tape=w.tape
 output:w'.output=w.output
 size:w.heap.size<=w'.heap.size
 block:∀k,k<w.heap.size->¬F k->w'.heap[k]? = w.heap[k]?
theorem Touch.of {F:Nat->Prop}{w w':World}{r:Option Nat}(h:w.grownBy w' r) (a:∀k,r=some k->F k):Touch F w w':=
 ⟨h.os,h.tape,h.output,h.size,λk hk hF=>h.block k hk (λe=>hF (a k e.symm))⟩
theorem Box3.keep {W a:World}{b:Nat}{i j l:Value}(h:Box3 W b i j l) (m:W.heap.size<=a.heap.size) (e:a.heap[b]? = W.heap[b]?):Box3 a b i j l:=by
 obtain⟨c0,c1,c2,c3,c4⟩:=h;exact⟨Nat.lt_of_lt_of_le c0 m,(World.cell?_of_block (w:=W) e).trans c1,(World.cell?_of_block (w:=W) e).trans c2,(World.cell?_of_block (w:=W) e).trans c3,λk=>(World.frozen?_of_block (w:=W) e).trans (c4 k)⟩
def QOwn (B E:Nat) (w:World) (v:Value) (b:List Value):Prop:=
 (v=.slice none 0 0/\b=[])\/∃g off cap a,v=.slice (some ⟨g,off,none⟩) b.length cap/\B<=g/\w.heap[g]? = some (.cells a E (0,0))/\b.length<=cap/\cap<=maxLen/\off+cap<=a.size/\∀i,i<b.length->a[off+i]? = some (gt b i)
theorem QOwn.nil (B E:Nat) (w:World):QOwn B E w (.slice none 0 0) [] := .inl ⟨rfl,rfl⟩
theorem QOwn.lt {B E:Nat}{w:World}{v:Value}{a:List Value}(h:QOwn B E w v a) (k:Nat) (hk:v.ownBlock=some k):B<=k/\k<w.heap.size:=by
 rcases h with⟨rfl,_⟩|⟨g,off,cap,cur,rfl,hb,b,_⟩
 ·simp[Value.ownBlock] at hk
 ·simp [Value.ownBlock] at hk
  subst hk;exact⟨hb,(Array.getElem?_eq_some_iff.1 b).1⟩
theorem QOwn.of {B E:Nat}{w:World}{v:Value}{b:List Value}(h:OwnV B E w v b):QOwn B E w v b:=by
 obtain⟨h1,h|⟨g,cap,a,hv,hg,hb,hnc,hcm,hsz,hx⟩⟩:=h
 ·exact .inl ⟨h.1,List.eq_nil_of_length_eq_zero h.2⟩
 ·refine .inr ⟨g,0,cap,a,hv,hg,hb,hnc,hcm,by omega,λi j => ?_⟩
  have e:(a.toList.take (b.length*1))[i]? = b[i]? :=by rw[hx]
  rw[List.getElem?_take_of_lt (by omega)] at e;rw[Nat.zero_add,<-Array.getElem?_toList,e];simp[gt,j]
theorem QOwn.kept {B E:Nat}{w w':World}{v:Value}{a:List Value}(h:QOwn B E w v a) (b:∀k,v.ownBlock=some k->w'.heap[k]? = w.heap[k]?):QOwn B E w' v a:=by
 rcases h with h|⟨g,off,cap,cur,rfl,h1,h2,r⟩
 ·exact .inl h
 ·exact .inr ⟨g,off,cap,cur,rfl,h1,by rw[b g rfl];exact h2,r⟩
theorem QOwn.weak {B B' E:Nat}{w:World}{v:Value}{a:List Value}(h:QOwn B E w v a) (b:B'<=B):QOwn B' E w v a:=by
 rcases h with h|⟨g,off,cap,cur,hv,h1,r⟩
 ·exact .inl h
 ·exact .inr ⟨g,off,cap,cur,hv,Nat.le_trans b h1,r⟩
theorem QOwn.shape {B E:Nat}{w:World}{v:Value}{b:List Value}(h:QOwn B E w v b):∃a cap,v=.slice a b.length cap/\b.length<=maxLen:=by
 rcases h with⟨rfl,rfl⟩|⟨g,off,cap,cur,rfl,_,_,h1,h2,_⟩
 ·exact⟨none,0,rfl,by simp⟩
 ·exact⟨_,_,rfl,Nat.le_trans h1 h2⟩
theorem QOwn.at {B E n cap:Nat}{w:World}{a:Option Addr}{b:List Value}(h:QOwn B E w (.slice a n cap) b) (i:Nat) (e:i<b.length):∃g off,a=some ⟨g,off,none⟩/\B<=g/\g<w.heap.size/\w.cell? ⟨g,off+i,none⟩=some (gt b i):=by
 rcases h with⟨_,rfl⟩|⟨g,off,cap',cur,hv,hb,j,h1,h2,h3,h4⟩
 ·simp at e
 ·cases hv
  refine⟨g,off,rfl,hb,(Array.getElem?_eq_some_iff.1 j).1,?_⟩;simp only[World.cell?,j,Option.isSome_none,Bool.false_eq_true,if_false];exact h4 i e
theorem QOwn.tail {B E n cap:Nat}{w:World}{a:Option Addr}{x:Value}{b:List Value}(h:QOwn B E w (.slice a n cap) (x :: b)):QOwn B E w (subSl (.slice a n cap) 1 n) b:=by
 rcases h with⟨_,h⟩|⟨g,off,cap',cur,j,hb,hg,h1,h2,h3,k⟩
 ·cases h
 ·simp only[Value.slice.injEq] at j
  obtain⟨rfl,rfl,rfl⟩:=j;simp only[List.length_cons] at h1 k ⊢;unfold subSl;simp only[Nat.add_sub_cancel];by_cases e:cap=1
  ·have l:b=[]:=List.eq_nil_of_length_eq_zero (by omega)
   subst l;rw[if_pos e];refine .inr ⟨g,off,0,cur,?_,hb,hg,by simp,by simp,by omega,by simp⟩;subst e;rfl
  ·rw [if_neg e]
   refine .inr ⟨g,off+1,cap-1,cur,by simp[Addr.add],hb,hg,by omega,by omega,by omega,λi m => ?_⟩;have:=k (i+1) (by omega);rw[show off+1+i=off+(i+1) by omega,this];simp[gt]
theorem QOwn.own_tail {a:Option Addr}{n cap:Nat}(k:Nat) (h:(subSl (.slice a n cap) 1 n).ownBlock=some k):(Value.slice a n cap).ownBlock=some k:=by
 unfold subSl at h;cases a with
 | none=>simp[Value.ownBlock] at h
 | some a=>
  by_cases e:cap=1
  ·simp only[if_pos e] at h;exact h
  ·simp only[if_neg e,Option.map_some,Value.ownBlock] at h ⊢
   unfold Addr.add at h;simpa using h
theorem wp_q_app (T E:Nat) (z:Value) (bytes:Nat) (U:Tryz.prog.underlying T=some (.slice E)) (V:(Tryz.prog.info? E).map (λi=>(i.zero,i.size,i.bytes))=some (some z,1,bytes))
  (B:z.cells.size=1) (C:bytes<=64) {D:Array Oper}{rest:List Oper}{o:Oper}{a:Act}{Q:Exit->Act->World->Prop}{w:World}(F:o.guard=none) (s x:Operand)
  (W:o.op=Op.call { callee:=Callee.builtin Builtin.append,args := #[s,x],argTypes := #[T,T] }) (base:Nat) (v:Value) (xs:List Value) (X:a.eval s=v) (G:QOwn base E w v xs)
  (H:Nat) (u:Value) (hx:a.eval x=.slice (some ⟨H,0,none⟩) 1 1) (Y:w.cell? ⟨H,0,none⟩=some u) (h1:u.oneCell'=true) (Z:xs.length<=1000000) (y:base<=w.heap.size)
  (h:∀q w',QOwn base E w' q (xs++[u])->w.grownBy w' v.ownBlock->(q.ownBlock=v.ownBlock\/∀k,q.ownBlock=some k->w.heap.size<=k)->wpList Tryz.prog D Q rest (a.put o.dst q) w') :
  wpList Tryz.prog D Q (o :: rest) a w:=by
 rcases G with⟨rfl,rfl⟩|⟨g,off,cap,cur,rfl,hb,I,hnc,hcm,hsz,hc⟩
 ·refine wp_app T E z bytes U V B C F s x W base (.slice none 0 0) [] X (World.ownsRow_nil _ _ _ _) (some ⟨H,0,none⟩) 1 1 [u] hx rfl (by simp) ?_ ?_ (by simp) y ?_
  ·intro j b
   have:j=0:=by omega
   subst this;exact⟨H,0,rfl,Y⟩
  ·intro K l
   simp at l;subst l;exact h1
  ·intro q w' J L _ k4
   exact h q w' (QOwn.of J) L (k4.imp id (λe k hk=>by rw[e] at hk;cases hk;exact Nat.le_refl _))
 ·obtain ⟨i0,M,hz0,hz1,hz2⟩:=info_parts V
  have ad:g<w.heap.size:=(Array.getElem?_eq_some_iff.1 I).1
  have m:∀i,i<cur.size->w.cell? ⟨g,i,none⟩=cur[i]? :=λi _=>by
   simp only[World.cell?,I,Option.isSome_none,Bool.false_eq_true,if_false]
  refine wpList_append_arg w F s x T W E i0 z 1 bytes U M hz0 hz1 hz2 B (by decide) g off xs.length cap xs X (by omega) ?_ ⟨H,0,none⟩ 1 1 [u] hx rfl ?_ ?_ ?_ (by unfold maxLen;omega) (by have:=Nat.mul_le_mul (show xs.length+1<=1000001 by omega) C;omega) ?_ ?_
  ·intro j K b
   have N:j<xs.length:=by
    rcases Nat.lt_or_ge j xs.length with h|h
    ·exact h
    ·rw[List.getElem?_eq_none h] at b;cases b
   rw[m _ (by omega),hc j N];simp[gt,b]
  ·intro j K b
   match j,b with
   | 0,b=>
    simp at b;subst b
    simpa [Addr.add] using Y
  ·intro K l
   simp at l;subst l;exact h1
  ·intro p j b
   have:j=0:=by simpa using b
   subst this;refine⟨?_,?_⟩
   ·rw[m _ (by omega),Array.getElem?_eq_getElem (by omega)];rfl
   ·simp[World.frozen?,I]
  ·intro p
   have e:w.setCells g (off+xs.length*1) [u]=w.setCell ⟨g,off+xs.length,none⟩ u:=by
    simp[World.setCells]
   rw[e];refine h _ _ (.inr ⟨g,off,cap,cur.setIfInBounds (off+xs.length) u,by simp,hb,?_,by simpa using p,hcm,by simpa using hsz,λi M => ?_⟩) ?_ (.inl rfl)
   ·simp only[World.setCell,Array.getElem?_modify,if_true,I,Option.map_some]
    simp
   ·simp only[List.length_append,List.length_singleton] at M
    by_cases ei:i=xs.length
    ·subst ei
     rw[gt_concat,Array.getElem?_setIfInBounds_self];simp;omega
    ·rw [gt_append_left _ _ _ (by omega),Array.getElem?_setIfInBounds_ne (by omega)]
     exact hc i (by omega)
   ·exact⟨rfl,rfl,rfl,by simp[World.setCell],λk hk O=>Below.heap_setCell _ _ _ _ (by intro e2;exact O (by rw[e2];rfl))⟩
  ·intro R q w' J L
   have k3:OwnV base E w' q (xs++[u]):=by
    unfold OwnV;rw[List.length_append];obtain⟨S,A⟩:=J;refine⟨S,?_⟩;rcases A with h|⟨g',cap',cur',hv,hg',r⟩
    ·exact .inl h
    ·exact .inr ⟨g',cap',cur',hv,by omega,r⟩
   refine h q w' (QOwn.of k3) (grown_of_ext _ L) (.inr (λk hk => ?_));obtain⟨_,A⟩:=J;rcases A with h|⟨g',cap',cur',rfl,hg',r⟩
   ·rw[h.1] at hk;simp[Value.ownBlock] at hk
   ·simp [Value.ownBlock] at hk
    omega
def ShQ (bad:Nat->Prop) (B:Nat) (w:World) (v:Value) (xs:List (List Int)):Prop:=
 ∃a,a.length=xs.length/\QOwn B 24 w v a/\∀i,i<xs.length->Ints (λk=>¬bad k/\v.ownBlock≠some k) w (gt a i) (gt xs i)
theorem ShQ.nil (bad:Nat->Prop) (B:Nat) (w:World):ShQ bad B w (.slice none 0 0) []:=⟨[],rfl,QOwn.nil _ _ _,by simp⟩
theorem ShQ.shape {bad:Nat->Prop}{B:Nat}{w:World}{v:Value}{xs:List (List Int)}(h:ShQ bad B w v xs):∃a cap,v=.slice a xs.length cap/\xs.length<=maxLen:=by
 obtain⟨e,b,hq,_⟩:=h;obtain⟨a,cap,rfl,hm⟩:=hq.shape;exact⟨a,cap,by rw[b],by omega⟩
theorem ShQ.lt {bad:Nat->Prop}{B:Nat}{w:World}{v:Value}{xs:List (List Int)}(h:ShQ bad B w v xs) (k:Nat) (hk:v.ownBlock=some k):B<=k/\k<w.heap.size:=by
 obtain⟨a,_,hq,_⟩:=h;exact hq.lt k hk
theorem ShQ.kept {bad b:Nat->Prop}{B:Nat}{w w':World}{v:Value}{xs:List (List Int)}(h:ShQ bad B w v xs) (l:w.heap.size<=w'.heap.size) (j:∀k,k<w.heap.size->(v.ownBlock=some k\/¬bad k)->w'.heap[k]? = w.heap[k]?)
  (e:∀k,k<w.heap.size->b k->bad k):ShQ b B w' v xs:=by
 obtain⟨m,hl,hq,p⟩:=h;have a:=hq.lt;refine⟨m,hl,hq.kept (λk hk=>j k (a k hk).2 (.inl hk)),λi q=>Ints.mono (p i q) (λk hk a=>⟨⟨λh=>hk.1 (e k a h),hk.2⟩,Nat.lt_of_lt_of_le a l,j k a (.inr hk.1)⟩)⟩
theorem ShQ.ext {bad:Nat->Prop}{B:Nat}{w w':World}{v:Value}{xs:List (List Int)}(h:ShQ bad B w v xs) (a:Ext w w'):ShQ bad B w' v xs:=
 h.kept a.size (λk hk _=>a.block k hk (by simp)) (λ_ _ h=>h)
theorem ShQ.head {bad:Nat->Prop}{B n cap:Nat}{w:World}{a:Option Addr}{xs:List (List Int)}(h:ShQ bad B w (.slice a n cap) xs) (i:Nat) (b:i<xs.length) :
  ∃g off u,a=some ⟨g,off,none⟩/\B<=g/\g<w.heap.size/\w.cell? ⟨g,off+i,none⟩=some u/\Ints (λk=>¬bad k/\k≠g) w u (gt xs i):=by
 obtain⟨l,hl,hq,j⟩:=h;obtain⟨g,off,rfl,h1,h2,h3⟩:=hq.at i (by omega);exact⟨g,off,_,rfl,h1,h2,h3,Ints.sub (j i b) (λk hk _=>⟨hk.1,λe=>hk.2 (by rw[e];rfl)⟩)⟩
theorem ShQ.tail {bad:Nat->Prop}{B n cap:Nat}{w:World}{a:Option Addr}{x:List Int}{xs:List (List Int)}(h:ShQ bad B w (.slice a n cap) (x :: xs)):ShQ bad B w (subSl (.slice a n cap) 1 n) xs:=by
 obtain⟨b,hl,hq,hr⟩:=h;cases b with
 | nil=>simp at hl
 | cons u b=>
  refine⟨b,by simpa using hl,hq.tail,λi j => ?_⟩;have l:=hr (i+1) (by simpa using j);have m:Ints (λk=>¬bad k/\(Value.slice a n cap).ownBlock≠some k) w (gt b i) (gt xs i):=by simpa [gt] using l
  exact Ints.sub m (λk hk _=>⟨hk.1,λe=>hk.2 (QOwn.own_tail k e)⟩)
theorem wp_shq_app {p:Array Oper}{rest:List Oper}{o:Oper}{a:Act}{Q:Exit->Act->World->Prop}{w:World}(C:o.guard=none) (s x:Operand)
  (L:o.op=Op.call { callee:=Callee.builtin Builtin.append,args := #[s,x],argTypes := #[25,25] }) (bad:Nat->Prop) (B:Nat) (v u:Value) (xs:List (List Int)) (y:List Int) (M:a.eval s=v) (w0:World) (q:ShQ bad B w0 v xs)
  (N:w=w0.alloc (.cells #[u] 24)) (H:Ints (λk=>¬bad k/\v.ownBlock≠some k) w0 u y) (hx:a.eval x=.slice (some ⟨w0.heap.size,0,none⟩) 1 1) (I:xs.length<=1000000) (D:B<=w0.heap.size)
  (h:∀j w',ShQ bad B w' j (xs++[y])->w0.grownBy w' v.ownBlock->(j.ownBlock=v.ownBlock\/∀k,j.ownBlock=some k->w0.heap.size<=k)->wpList Tryz.prog p Q rest (a.put o.dst j) w') :
  wpList Tryz.prog p Q (o :: rest) a w:=by
 subst N;obtain⟨E,J,hq,O⟩:=q;have l:Ext w0 (w0.alloc (.cells #[u] 24)):=World.grownBy_alloc _ _ _;have b:=hq.lt;have F:QOwn B 24 (w0.alloc (.cells #[u] 24)) v E:=hq.kept (λk hk=>l.block k (b k hk).2 (by simp));have r:u.oneCell'=true:=rdInts.one H;refine wp_q_app 25 24 (.slice none 0 0) 24 und_rows Tryz.infoRow rfl (by decide) C s x L B v E M F w0.heap.size u hx (by rw[World.cell?_alloc_at _ _ _ _ rfl];rfl) r (by omega) (by have:=l.size;omega) ?_;intro j w' h1 R K;have m:w0.grownBy w' v.ownBlock:=grown_trans (grown_of_ext _ l) R
 have z:∀k,k<w0.heap.size->j.ownBlock=some k->v.ownBlock=some k:=λk hk e=>by
  rcases K with h|h
  ·rw[<-h];exact e
  ·have:=h k e;simp at this;omega
 refine h j w' ⟨E++[u],by simp[J],h1,λi S => ?_⟩ m (K.imp id (λh k hk=>by have:=h k hk;simp at this;omega));simp only[List.length_append,List.length_singleton] at S
 have A:∀k,(¬bad k/\v.ownBlock≠some k)->k<w0.heap.size->(¬bad k/\j.ownBlock≠some k)/\k<w'.heap.size/\w'.heap[k]? = w0.heap[k]? :=λk hk b=>
  ⟨⟨hk.1,λe=>hk.2 (z k b e)⟩,Nat.lt_of_lt_of_le b m.size,m.block k b (λe=>hk.2 e.symm)⟩
 by_cases b:i<xs.length
 ·rw [gt_append_left _ _ _ (by omega),gt_append_left _ _ _ b]
  exact Ints.mono (O i b) A
 ·have G:i=xs.length:=by omega
  subst G;rw[gt_concat,<-J,gt_concat];exact Ints.mono H A
def TabAt (B:Nat) (bad:Nat->Prop) (w:World) (gb n:Nat) (b:List (List Int)):Prop:=
 ∃ a,a.length=n/\b.length=n/\OwnV B 24 w (.slice (some ⟨gb,0,none⟩) n n) a /\
  ∀i,i<n->(gt b i=[]/\gt a i=.slice none 0 0)\/(gt b i≠[]/\Ints (λk=>k≠gb/\¬bad k) w (gt a i) (gt b i))
theorem TabAt.lt {B gb n:Nat}{bad:Nat->Prop}{w:World}{b:List (List Int)}(h:TabAt B bad w gb n b):B<=gb/\gb<w.heap.size:=by
 obtain⟨a,_,_,hO,_⟩:=h;exact hO.lt gb rfl
theorem TabAt.len {B gb n:Nat}{bad:Nat->Prop}{w:World}{b:List (List Int)}(h:TabAt B bad w gb n b):b.length=n:=by
 obtain⟨a,_,h2,_⟩:=h;exact h2
theorem TabAt.kept {B gb n:Nat}{bad l:Nat->Prop}{w w':World}{b:List (List Int)}(h:TabAt B bad w gb n b) (q:w.heap.size<=w'.heap.size) (p:∀k,k<w.heap.size->(k=gb\/¬bad k)->w'.heap[k]? = w.heap[k]?)
  (m:∀k,k<w.heap.size->l k->bad k):TabAt B l w' gb n b:=by
 obtain⟨r,h1,h2,h3,u⟩:=h;have j:=h3.lt gb rfl;refine⟨r,h1,h2,?_,λi y=>(u i y).imp id (λ⟨a,b⟩=>⟨a,Ints.mono b (λk hk j=>⟨⟨hk.1,λe=>hk.2 (m k j e)⟩,Nat.lt_of_lt_of_le j q,p k j (.inr hk.2)⟩)⟩)⟩
 exact ownsRow_move h3 (λk hk=>by
  have:gb=k:=by simpa [Value.ownBlock] using hk
  subst this;exact⟨p _ j.2 (.inl rfl),j.1⟩)
theorem TabAt.ext {B gb n:Nat}{bad:Nat->Prop}{w w':World}{b:List (List Int)}(h:TabAt B bad w gb n b) (a:Ext w w'):TabAt B bad w' gb n b:=
 h.kept a.size (λk hk _=>a.block k hk (by simp)) (λ_ _ h=>h)
theorem TabAt.at {B gb n:Nat}{bad:Nat->Prop}{w:World}{b:List (List Int)}(h:TabAt B bad w gb n b) (i:Nat) (m:i<n) :
  w.frozen? ⟨gb,i,none⟩=false/\((gt b i=[]/\w.cell? ⟨gb,i,none⟩=some (.slice none 0 0))\/(gt b i≠[]/\∃a cap,w.cell? ⟨gb,i,none⟩=some (.slice (some a) (gt b i).length cap)/\Ints (λk=>k≠gb/\¬bad k) w (.slice (some a) (gt b i).length cap) (gt b i))):=by
 obtain⟨p,h1,h2,h3,q⟩:=h;have j:=h3.cell i (by omega);refine⟨?_,?_⟩
 ·have r:n=p.length:=h1.symm
  subst r;exact World.ownsRow.frozenAt h3 i
 ·rcases q i m with⟨a,e⟩|⟨a,e⟩
  ·exact .inl ⟨a,by rw[j,e]⟩
  ·obtain ⟨l,cap,u,_,_⟩:=e.shape
   rw[u] at j e;cases l with
   | none=>exact absurd e.nil_of_none.1 a
   | some l=>exact .inr ⟨a,l,cap,j,e⟩
theorem TabAt.put {B gb n:Nat}{bad:Nat->Prop}{w:World}{b:List (List Int)}{u:Value}{y:List Int}(h:TabAt B bad w gb n b) (j:Nat) (r:Ints (λk=>k≠gb/\¬bad k) w u y) (hy:y≠[]) :
  TabAt B bad (w.setCell ⟨gb,j,none⟩ u) gb n (b.set j y)/\w.grownBy (w.setCell ⟨gb,j,none⟩ u) (some gb):=by
 obtain⟨p,h1,z,h3,A⟩:=h;have C:n=p.length:=h1.symm;subst C;obtain⟨D,g2⟩:=World.ownsRow.stored h3 j u
 have l:∀k,(k≠gb/\¬bad k)->k<w.heap.size->(k≠gb/\¬bad k)/\k<(w.setCell ⟨gb,j,none⟩ u).heap.size/\(w.setCell ⟨gb,j,none⟩ u).heap[k]? = w.heap[k]? :=λk hk m=>
  ⟨hk,by simpa [World.setCell] using m,Below.heap_setCell _ _ _ _ (by simpa using hk.1)⟩
 refine⟨⟨p.set j u,by simp,by simp[z],?_,λi q => ?_⟩,g2⟩
 ·unfold OwnV;rw[List.length_set];exact D
 ·by_cases e:j=i
  ·subst e
   rw[gt_set_eq _ _ _ (by omega),gt_set_eq _ _ _ q];exact .inr ⟨hy,Ints.mono r l⟩
  ·rw [gt_set_ne _ _ _ _ e,gt_set_ne _ _ _ _ e]
   exact(A i q).imp id (λ⟨a,b⟩=>⟨a,Ints.mono b l⟩)
structure SeqAt (B:Nat) (bad:Nat->Prop) (w:World) (sb gb:Nat) (pv:Value) (n:Nat) (b:List (List Int)):Prop where
 sB:B<=sb
 ne:sb≠gb
 slt:sb<w.heap.size
 c0:w.cell? ⟨sb,0,none⟩=some pv
 c1:w.cell? ⟨sb,1,none⟩=some (.slice (some ⟨gb,0,none⟩) n n)
 tab:TabAt B (λk=>k=sb\/bad k) w gb n b
theorem SeqAt.kept {B sb gb n:Nat}{pv:Value}{bad a:Nat->Prop}{w w':World}{b:List (List Int)}(h:SeqAt B bad w sb gb pv n b) (l:w.heap.size<=w'.heap.size) (m:∀k,k<w.heap.size->(k=gb\/k=sb\/¬bad k)->w'.heap[k]? = w.heap[k]?)
  (i:∀k,k<w.heap.size->a k->bad k):SeqAt B a w' sb gb pv n b:=by
 have e:=m sb h.slt (.inr (.inl rfl))
 exact ⟨h.sB,h.ne,Nat.lt_of_lt_of_le h.slt l,(World.cell?_of_block (w:=w) e).trans h.c0,(World.cell?_of_block (w:=w) e).trans h.c1,
  h.tab.kept l (λk hk j=>m k hk (j.elim .inl (λp => .inr (.inr (λq=>p (.inr q)))))) (λk hk j=>j.imp id (i k hk))⟩
theorem SeqAt.ext {B sb gb n:Nat}{pv:Value}{bad:Nat->Prop}{w w':World}{b:List (List Int)}(h:SeqAt B bad w sb gb pv n b) (a:Ext w w'):SeqAt B bad w' sb gb pv n b:=
 h.kept a.size (λk hk _=>a.block k hk (by simp)) (λ_ _ h=>h)
theorem SeqAt.put {B sb gb n:Nat}{pv:Value}{bad:Nat->Prop}{w:World}{b:List (List Int)}{u:Value}{y:List Int}(h:SeqAt B bad w sb gb pv n b) (j:Nat) (a:Ints (λk=>k≠gb/\¬(k=sb\/bad k)) w u y) (hy:y≠[]) :
  SeqAt B bad (w.setCell ⟨gb,j,none⟩ u) sb gb pv n (b.set j y)/\w.grownBy (w.setCell ⟨gb,j,none⟩ u) (some gb):=by
 obtain⟨h1,h2⟩:=h.tab.put j a hy;have e:(w.setCell ⟨gb,j,none⟩ u).heap[sb]? = w.heap[sb]? := Below.heap_setCell _ _ _ _ (by simpa using h.ne);exact⟨⟨h.sB,h.ne,by simpa [World.setCell] using h.slt,(World.cell?_of_block (w:=w) e).trans h.c0,(World.cell?_of_block (w:=w) e).trans h.c1,h1⟩,h2⟩
theorem wp_make_tab {j:Array Oper}{rest:List Oper}{o:Oper}{a:Act}{Q:Exit->Act->World->Prop}{w:World}(k:o.guard=none) (l c:Operand)
  (y:o.op=Op.makeSlice 25 l c) (base n H:Nat) (hH:w.heap.size=H) (L:Int) (z:a.eval l=.int .i64 L) (A:a.eval c=.int .i64 L) (u:L=n) (D:n<=2147483648) (b:base<=H)
  (h:∀w',(∀bad,TabAt base bad w' H n (List.replicate n []))->Ext w w'->H<w'.heap.size->wpList Tryz.prog j Q rest (a.put o.dst (.slice (some ⟨H,0,none⟩) n n)) w') :
  wpList Tryz.prog j Q (o :: rest) a w:=by
 subst hH;obtain⟨B,m,p,q,r⟩:=info_parts Tryz.infoRow;refine wpList_make_full w k l c 25 y base 24 B (.slice none 0 0) 1 und_rows m p q .i64 .i64 L L n z A u u (by rw[r];omega) (by unfold maxLen;omega) b ?_;intro w' h1 C;refine h w' ?_ C (h1.lt w.heap.size rfl).2
 have e:(madeCells (Value.cells (.slice none 0 0)) (n*1)).toList=List.replicate n (Value.slice none 0 0):=by
  rw[show Value.cells (.slice none 0 0) = #[.slice none 0 0] from rfl,toList_madeCells_one];simp
 rw[e] at h1;refine λbad=>⟨List.replicate n (.slice none 0 0),by simp,by simp,?_,λi m => .inl ?_⟩
 ·unfold OwnV;rw[List.length_replicate];exact h1
 ·simp[gt,m]
theorem newSequence_ok (P:Pr) (w:World) (p:Value) (l:Nat->Prop) (bad:Nat->Prop) (j:PresP l w p P) (m:P.orders.length<=6) :
  Calls Tryz.prog 134 #[p] w (Ret w λw' v=>∃sb gb,v=.pointer (some ⟨sb,0,none⟩)/\SeqAt w.heap.size bad w' sb gb p P.orders.length (List.replicate P.orders.length [])):=by
 obtain⟨pb,po,rfl⟩:=j.shape;obtain⟨q,capo,hco0,hoi⟩:=j.ordAt;go_enter Tryz.func134,Tryz.ntmps134;go_wp2_with (at_make;refine wp_make_tab rfl _ _ rfl w.heap.size P.orders.length w.heap.size rfl _ rfl rfl rfl (by omega) (Nat.le_refl _) ?_;intro b e i k)
 go_ret;have a:Ext b (b.alloc (.cells #[.pointer (some ⟨pb,po,none⟩),.slice (some ⟨w.heap.size,0,none⟩) P.orders.length P.orders.length] 194)):=World.grownBy_alloc _ _ _;refine⟨_,rfl,grown_trans i a,b.heap.size,w.heap.size,rfl,by omega,by omega,by simp,?_,?_,(e _).ext a⟩
 ·rw[World.cell?_alloc_at _ _ _ _ rfl];rfl
 ·rw[World.cell?_alloc_at _ _ _ _ rfl];rfl
def SiftΦ (P:Pr) (b:List (List Int)) (Φ : List Int->Prop):Prop:=
 ∀d y,d<P.orders.length->T P d y->gt y d≠0->gt b d≠[] -> Φ y -> Φ (rMul P (pw P (gt b d) (gt P.orders d-gt y d).toNat) y)
theorem sift_ok (P:Pr) (G:Grp P) (w:World) (sb gb B:Nat) (p M:Value) (X:List Int) (b:List (List Int)) (Sp N bad:Nat->Prop) (hp:PresP Sp w p P) (hs:SeqAt B bad w sb gb p P.orders.length b)
  (y:∀d,d<P.orders.length->gt b d≠[]->T P d (gt b d)/\gt (gt b d) d=1) (hx:Ints N w M X) (hX:Vec P.orders X) :
  Calls Tryz.prog 193 #[.pointer (some ⟨sb,0,none⟩),M] w (Ret w λw' v=>∃Y,Ints (λk=>N k\/w.heap.size<=k) w' v Y/\Vec P.orders Y/\(dep Y<P.orders.length->gt b (dep Y)=[])/\∀ Φ,SiftΦ P b Φ -> Φ X -> Φ Y):=by
 have hP:=G.v;have aL:=hP.n6;have aM:X.length=P.orders.length:=hX.1;obtain⟨pb,po,rfl⟩:=hp.shape;obtain⟨ao,capo,hco0,aq⟩:=hp.ordAt;have ar:=Lib.hid hco0;clear hco0;have HT:=Lib.hid y;clear y;go_enter Tryz.func193,Tryz.ntmps193;go_wp2_with fail
 refine Calls.mono (depthOf_ok M X w N hx) ?_;rintro e0 w0 ⟨rfl,rfl⟩;go_wp2;go_loopw [1,5] (λM dv wr=>∃Y,dv=.int .i64 (dep Y)/\Vec P.orders Y/\Ext w wr/\Ints (λk=>N k\/w.heap.size<=k) wr M Y/\Hid (∀ Φ,SiftΦ P b Φ -> Φ X -> Φ Y)) (λ_ dv _=>P.orders.length-(intOf dv).toNat)
 case atStart=>exact⟨X,rfl,hX,Ext.refl _,Ints.sub hx (λk hk _ => .inl hk),Lib.hid (λ_ _ h=>h)⟩
 case round=>
  obtain⟨Y,rfl,hY,z,O,C⟩:=hrel;have au:Y.length=P.orders.length:=hY.1;obtain⟨ay,capy,Q,_,_⟩:=O.shape;rw[au] at Q;subst Q;have D:=hs.ext z;have R:=D.c0;have S:=D.c1;have L:=Lib.hid hY;clear hY;by_cases a:dep Y<P.orders.length
  ·have U:(dep Y:Int)<P.orders.length:=by omega
   obtain⟨_,av⟩:=D.tab.at (dep Y) a;rcases av with⟨h0,e⟩|⟨q,ab,V,e,W⟩
   ·have H0:=Lib.hid h0;clear h0
    go_wp2;go_ret;exact⟨_,rfl,z,Y,O,L.out,λ_=>H0.out,C.out⟩
   ·have E:=dep_ne (x:=Y) (by omega)
    have i:=HT.out (dep Y) a q;have ho:=hP.ord7 (dep Y) a;have F:=L.out.2 (dep Y) a;obtain⟨b1,off1,rfl,_,_,H⟩:=Ints.at O (dep Y) (by omega);obtain⟨b2,off2,hao,_,_,j⟩:=Ints.at (aq.ext z) (dep Y) a;subst hao;have aa:=z.cell ar.out (by simp);have ax:IntKind.i64.wrap (gt P.orders (dep Y)-gt Y (dep Y))=gt P.orders (dep Y)-gt Y (dep Y):=IntWalk.i64_in _ (by omega);obtain⟨d,hd⟩:∃d,d=dep Y:=⟨_,rfl⟩;rw[<-hd] at a U e W E i ho F H j ax q ⊢;have I:T P d Y:=by rw[hd];exact dep_T L.out
    have r:=G.left_clear a I i.1 i.2;have e1:iPow P (gt b d) (gt P.orders d-gt Y d)=pw P (gt b d) (gt P.orders d-gt Y d).toNat:=G.iPow_eq i.1.1 _;have J:=G.pw_vec i.1.1 (gt P.orders d-gt Y d).toNat;have e2:=G.tv_eq J L.out;have ad:=r.1.1;have ae:gt (rMul P (pw P (gt b d) (gt P.orders d-gt Y d).toNat) Y) d=0:=r.1.2 d (by omega);have A:∀ Φ,SiftΦ P b Φ -> Φ X -> Φ (rMul P (pw P (gt b d) (gt P.orders d-gt Y d).toNat) Y):=fun Φ h1 h2=>h1 d Y a I E q (C.out Φ h1 h2);have l:=Lib.hid (And.intro e1 (And.intro e2 (And.intro ad (And.intro ae (And.intro A (And.intro J r))))));clear e1 e2 ad ae A J r I E;have HD:=Lib.hid hd;clear hd q;have af:(iPow P (gt b d) (gt P.orders d-gt Y d)).length<=6:=by rw[l.out.1,l.out.2.2.2.2.2.1.1];omega
    have ag:Vec P.orders (iPow P (gt b d) (gt P.orders d-gt Y d)):=by rw[l.out.1];exact l.out.2.2.2.2.2.1
    have HL:=Lib.hid (And.intro af (And.intro ag (And.intro i (And.intro ho F))));clear af ag i ho F;have ai:=hp.ext z;have e1:∀w',Ext wr w'->w'.cell? ⟨sb,0,none⟩=some (.pointer (some ⟨pb,po,none⟩)):=λw' h=>h.cell R (by simp);have e2:∀w',Ext wr w'->w'.cell? ⟨sb,1,none⟩=some (.slice (some ⟨gb,0,none⟩) P.orders.length P.orders.length):=λw' h=>h.cell S (by simp);have e3:∀w',Ext wr w'->w'.cell? ⟨gb,d,none⟩=some (.slice (some ab) (gt b d).length V):=λw' h=>h.cell e (by simp);have e4:∀w',Ext wr w'->w'.cell? ⟨pb,po,none⟩=some (.slice (some ⟨b2,off2,none⟩) P.orders.length capo):=λw' h=>h.cell aa (by simp);have e5:∀w',Ext wr w'->w'.cell? ⟨b2,off2+d,none⟩=some (.int .i64 (gt P.orders d)):=λw' h=>h.cell j (by simp);have e6:∀w',Ext wr w'->w'.cell? ⟨b1,off1+d,none⟩=some (.int .i64 (gt Y d)):=λw' h=>h.cell H (by simp);have q1:(d:Int)<P.orders.length:=by omega
    have q2:(0:Int)<=d:=by omega
    go_wp2
    go_region_held3 (λw'=>Ext wr w') (first|exact grown_drew _ _|assumption)
     (first
      | (go_at_call 196;refine Calls.mono (Calls.rel (w0:=wr) (by assumption) (power_ok P hP _ _ _ (gt b d) _ Any Any (PresP.sub (PresP.ext ai (by assumption)) (λ_ _ _=>trivial)) (Ints.sub (Ints.ext W (by assumption)) (λ_ _ _=>trivial)) HL.out.2.2.1.1.1 (by have:=HL.out.2.2.2.1;have:=HL.out.2.2.2.2;omega))) ?_;rintro eA wA ⟨vA,rfl,hgA,hsA,hOA⟩;have aj:=hOA.ints (by have:=HL.out.1;omega))
      | (go_at_call 149;refine Calls.mono (Calls.rel (w0:=wr) (by assumption) (multiply_ok P hP _ _ _ _ _ Y Any Any Any (PresP.sub (PresP.ext ai (by assumption)) (λ_ _ _=>trivial)) aj (Ints.sub (Ints.ext O (by assumption)) (λ_ _ _=>trivial)) HL.out.2.1 L.out)) ?_;rintro eB wB ⟨vB,rfl,hgB,hsB,u⟩))
    rw[l.out.1,l.out.2.1] at u;have aA:w.heap.size<=wA.heap.size:=Nat.le_trans z.size hsB;have m:Ints (λk=>N k\/w.heap.size<=k) wB vB (rMul P (pw P (gt b d) (gt P.orders d-gt Y d).toNat) Y):=ints_of_own u (by rw[l.out.2.2.1.1];omega) (λk hk => .inr (Nat.le_trans aA (u.lt k hk).1));obtain⟨Z,hZ⟩:∃Z,Z=rMul P (pw P (gt b d) (gt P.orders d-gt Y d).toNat) Y:=⟨_,rfl⟩;rw[<-hZ] at m;have HZ:=Lib.hid hZ;clear hZ u;have aC:Z.length=P.orders.length:=by rw[HZ.out];exact l.out.2.2.1.1
    obtain⟨az,capz,Q,_,_⟩:=m.shape;rw[aC] at Q;subst Q;obtain⟨b3,off3,rfl,_,_,aD⟩:=Ints.at m d (by omega);have K:gt Z d=0:=by rw[HZ.out];exact l.out.2.2.2.1
    rw[K] at aD
    have al:dep Y<dep Z:=by
     have aE:T P (d+1) Z:=by rw[HZ.out];exact l.out.2.2.2.2.2.2.1
     have:=HD.out;rcases Nat.lt_or_ge (dep Y) (dep Z) with h|h
     ·exact h
     ·exact absurd (aE.2 (dep Z) (by omega)) (dep_ne (by omega))
    have HF:=Lib.hid (And.intro K al);clear K al;clear e1 e2 e3 e4 e5 e6 H j aa e R S;go_wp2_with (go_at_call 194;refine Calls.mono (depthOf_ok _ Z wB _ m) ?_;rintro eD wD ⟨rfl,rfl⟩)
    go_roundw
    case rel=>exact⟨Z,rfl,by rw[HZ.out];exact l.out.2.2.1,grown_trans z hgB,m,by rw[HZ.out];exact Lib.hid l.out.2.2.2.2.1⟩
    case measure=>have:=HF.out.2;have:=HD.out;simp[intOf];omega
  ·have hd:dep Y=P.orders.length:=by have:=dep_le Y;omega
   go_wp2;go_ret;exact⟨_,rfl,z,Y,O,L.out,λh=>absurd h a,C.out⟩
end Go.Proofs.YtoakmefajbbggaaGreat
namespace Go.Proofs.YtoakmefajbbggaaGreat
def miss (b:List (List Int)):Nat->Nat
 | 0=>0
 | k+1=>miss b k+(if gt b k=[] then 1 else 0)
theorem miss_le (b:List (List Int)) (k:Nat):miss b k<=k:=by
 induction k with
 | zero=>exact Nat.le_refl _
 | succ k a=>simp only[miss];split<;>omega
theorem miss_set {b:List (List Int)}{d:Nat}{z:List Int}(i:gt b d=[]) (j:z≠[]):∀k,k<=b.length->miss (b.set d z) k+(if d<k then 1 else 0)=miss b k:=by
 intro k;induction k with
 | zero=>intro _;simp[miss]
 | succ k a=>
  intro hk;have a:=a (by omega);simp only[miss];by_cases e:d=k
  ·subst e
   rw[gt_set_eq _ _ _ (by omega),if_neg j,i];simp at a ⊢
   exact a
  ·rw [gt_set_ne _ _ _ _ e]
   by_cases h1:d<k
   ·rw[if_pos h1] at a;rw[if_pos (show d<k+1 by omega)];omega
   ·rw[if_neg h1] at a;rw[if_neg (show ¬d<k+1 by omega)];omega
def comR (P:Pr) (x z:List Int):List Int:=rMul P (rInv P (rMul P z x)) (rMul P x z)
def coms (P:Pr) (b:List (List Int)) (z:List Int):Nat->List (List Int)
 | 0=>[]
 | k+1=>coms P b z k++(if gt b k=[] then [] else [comR P (gt b k) z])
theorem coms_len (P:Pr) (b:List (List Int)) (z:List Int) (k:Nat):(coms P b z k).length<=k:=by
 induction k with
 | zero=>exact Nat.le_refl _
 | succ k a=>simp only[coms];split<;>simp<;>omega
theorem mem_coms {P:Pr}{b:List (List Int)}{z x:List Int}{k:Nat} : x∈coms P b z k↔∃e,e<k/\gt b e≠[]/\x=comR P (gt b e) z:=by
 induction k with
 | zero=>simp[coms]
 | succ k j=>
  simp only[coms,List.mem_append,j];constructor
  ·rintro (⟨e,h1,a,i⟩|h)
   ·exact⟨e,by omega,a,i⟩
   ·split at h
    ·simp at h
    ·rename_i hk
     simp at h
     exact⟨k,by omega,hk,h⟩
  ·rintro ⟨e,h1,a,i⟩
   rcases Nat.lt_succ_iff_lt_or_eq.1 h1 with h|h
   ·exact .inl ⟨e,h,a,i⟩
   ·subst h;right;rw[if_neg a];simp[i]
section
variable {P:Pr}(G:Grp P)
include G
theorem Grp.sift_add {Q:List Int->Prop}{b:List (List Int)}{q:List (List Int)}{R:List Int->Prop}{X Y:List Int}(A:AddInv P Q (gt b) (X :: q) R) (e : ∀ Φ,SiftΦ P b Φ -> Φ X -> Φ Y):∃R',AddInv P Q (gt b) (Y :: q) R':=by
 refine e (λy=>∃R,AddInv P Q (gt b) (y :: q) R) ?_ ⟨R,A⟩;rintro d y i l p m ⟨R,A⟩;obtain⟨_,h1,h2⟩:=A.tab d i m;have a:=G.left_clear i l h1 h2;exact⟨_,addInv_sift A i l p m a.1 (λK S j k=>(a.2 K S j).1 k) (λK S j k=>(a.2 K S j).2 k)⟩
theorem Grp.add_step {Q:List Int->Prop}{b:List (List Int)}{q:List (List Int)}{R:List Int->Prop}{y:List Int}(A:AddInv P Q (gt b) (y :: q) R) {d:Nat}(l:d<P.orders.length) (m:T P d y) (u:gt b d=[]) (p:b.length=P.orders.length)
  (k:Int) (a:0<=k) (hk:(k*gt y d)%gt P.orders d=1) :
  ∃R',AddInv P Q (gt (b.set d (pw P y k.toNat))) (q++[y]++[pw P (pw P y k.toNat) (gt P.orders d).toNat]++coms P b (pw P y k.toNat) P.orders.length) R':=by
 obtain⟨w,hz1⟩:=G.lead_one l m k a hk;refine⟨_,G.addInv_insert A l m u w hz1 (λK S h=>S.pw h _) (λe r => ?_) (λx hx => ?_) (λx hx => ?_) (λe r i => .inl ?_)⟩
 ·by_cases h:e=d
  ·subst h;rw[if_pos rfl,gt_set_eq _ _ _ (by omega)]
  ·rw[if_neg h,gt_set_ne _ _ _ _ (λj=>h j.symm)]
 ·simp only[List.mem_append,List.mem_singleton] at hx
  rcases hx with((h|h)|h)|h
  ·exact .inl h
  ·exact .inr (.inl h)
  ·exact .inr (.inr (.inr (.inl h)))
  ·obtain ⟨e,h1,j,h3⟩:=mem_coms.1 h
   exact .inr (.inr (.inr (.inr ⟨e,h1,j,.inl h3⟩)))
 ·simp only[List.mem_append,List.mem_singleton]
  rcases hx with h|h|h
  ·exact .inl (.inl (.inl h))
  ·exact .inl (.inl (.inr h))
  ·exact .inl (.inr h)
 ·simp only[List.mem_append]
  exact .inr (mem_coms.2 ⟨e,r,i,rfl⟩)
end
end Go.Proofs.YtoakmefajbbggaaGreat
namespace Go.Proofs.YtoakmefajbbggaaGreat
open Go.RowKit
def SeqOk (P:Pr) (U:List (List Int)):Prop:=
 (∀z∈U,Vec P.orders z/\dep z<P.orders.length/\gt z (dep z)=1)/\∀i j,i<j->j<U.length->dep (gt U i)<dep (gt U j)
structure RepTo (P:Pr) (U:List (List Int)) (X:List Int) (i:Nat) (y:List Int):Prop where
 vec:Vec P.orders y
 zer:∀j,j<i->gt y (dep (gt U j))=0
 cos:∀K,Sub P K->(∀z∈U,K z)->K (rMul P (rInv P X) y)
 old:∀k,(∀z∈U,k<dep z)->gt y k=gt X k
section
variable {P:Pr}(G:Grp P)
include G
theorem Grp.repTo_zero {U:List (List Int)}{X:List Int}(a:Vec P.orders X):RepTo P U X 0 X:=
 ⟨a,λj b=>by omega,λK S _=>by rw[G.inv_mul a];exact S.one,λ_ _=>rfl⟩
theorem Grp.repTo_step {U:List (List Int)}{X y:List Int}{i:Nat}(e:SeqOk P U) (q:Vec P.orders X) (a:i<U.length) (h:RepTo P U X i y) :
  RepTo P U X i (rMul P y (gt U i))/\gt (rMul P y (gt U i)) (dep (gt U i))=(gt y (dep (gt U i))+1)%gt P.orders (dep (gt U i)):=by
 obtain⟨h1,l,h3⟩:=e.1 _ (gtMem a);have b:=G.right (Nat.le_of_lt l) h.vec (dep_T h1);refine⟨⟨G.mulV h.vec h1,λj m => ?_,λK S p => ?_,λk hk => ?_⟩,?_⟩
 ·rw[b.1 _ (e.2 j i m a)];exact h.zer j m
 ·rw[<-G.ass (G.invV q) h.vec h1];exact S.mul _ _ (h.cos K S p) (p _ (gtMem a))
 ·rw[b.1 k (hk _ (gtMem a))];exact h.old k hk
 ·rw[b.2 l,h3]
omit G in
theorem repTo_next {U:List (List Int)}{X y:List Int}{i:Nat}(h:RepTo P U X i y) (a:gt y (dep (gt U i))=0):RepTo P U X (i+1) y:=
 ⟨h.vec,λj b=>by
  rcases Nat.lt_succ_iff_lt_or_eq.1 b with h1|h1
  ·exact h.zer j h1
  ·rw[h1];exact a,h.cos,h.old⟩
end
def lft (o e:Int):Nat:=if e=0 then 0 else (o-e).toNat
theorem lft_step {o e:Int}(b:0<=e) (h1:e<o) (a:e≠0):lft o ((e+1)%o)<lft o e:=by
 unfold lft;rw[if_neg a];by_cases h:e+1=o
 ·rw[h,Int.emod_self,if_pos rfl];omega
 ·rw[Int.emod_eq_of_lt (by omega) (by omega),if_neg (by omega)];omega
theorem representative_ok (P:Pr) (G:Grp P) (w:World) (p uv xv:Value) (U:List (List Int)) (X:List Int) (Sp Su Sx:Nat->Prop) (hp:PresP Sp w p P) (hu:Rows2 Su w uv U) (hU:SeqOk P U) (hl:U.length<=100) (hx:Ints Sx w xv X) (hX:Vec P.orders X) :
  Calls Tryz.prog 148 #[p,uv,xv] w (Ret w λw' v=>∃Y,Own w.heap.size w' v Y/\RepTo P U X U.length Y):=by
 have hP:=G.v;have aH:=hP.n6;have aI:X.length<=6:=by rw[hX.1];omega
 obtain⟨pb,po,rfl⟩:=hp.shape;obtain⟨au,capu,rfl,_,_⟩:=Sl.shape hu;have aj:∀z∈U,dep z<z.length:=λz hz=>by have:=hU.1 z hz;rw[this.1.1];exact this.2.1
 have F:=Lib.hid (And.intro hU hX);clear hU hX;go_enter Tryz.func148,Tryz.ntmps148;go_wp2_with fail
 refine Calls.mono (clone_ok w xv X Sx hx (by omega)) ?_;rintro e0 w0 ⟨ov,rfl,H,m⟩;go_wp2_with fail
 refine Calls.mono (pivots_ok _ U w0 Su (Rows2.ext hu H) aj (by omega)) ?_;rintro e1 w1 ⟨pv,rfl,hg1,A⟩;have I:=grown_trans H hg1;have J:=m.ext0 hg1;have K:∀k,ov.ownBlock=some k->w.heap.size<=k/\k<w0.heap.size:=λk hk=>⟨(m.lt k hk).1,(m.lt k hk).2⟩
 have L:∃az M,pv=.slice az U.length M:=by
  rcases A.form with⟨h1,q⟩|⟨g,cp,h1,_⟩
  ·have h3:U.length=0:=by unfold depV at q;rw[List.map_eq_nil_iff] at q;rw[q];rfl
   exact⟨none,0,by rw[h1,h3]⟩
  ·exact⟨_,_,by rw[h1];unfold depV;rw[List.length_map]⟩
 obtain⟨ap,r,rfl⟩:=L;have B:=Lib.hid K;clear K;go_wp2;go_loopw [15] (λiv wr=>∃(i:Nat) (Y:List Int),iv=.int .i64 i/\i<=U.length/\Ext w wr/\Own w.heap.size wr ov Y/\OwnV w0.heap.size 3 wr (.slice ap U.length r) (depV U)/\Hid (RepTo P U X i Y)) (λiv _=>U.length-(intOf iv).toNat)
 case atStart=>exact⟨0,X,rfl,by omega,I,J,A,Lib.hid (G.repTo_zero F.out.2)⟩
 case round=>
  obtain⟨i,Y,rfl,hi,hg,hO,u,C⟩:=hrel;clear m J A;by_cases a:i<U.length
  ·have aD:(i:Int)<U.length:=by omega
   have N:gt (depV U) i=.int .i64 (dep (gt U i)):=by unfold depV;rw[gt_map _ _ _ a]
   have am:∃g,ap=some ⟨g,0,none⟩:=by
    rcases u.form with⟨h1,q⟩|⟨g,cp,h1,_⟩
    ·unfold depV at q;rw[List.map_eq_nil_iff] at q;rw[q] at a;simp at a
    ·simp only[Value.slice.injEq] at h1;exact⟨g,h1.1⟩
   obtain⟨gp,rfl⟩:=am;have O:=u.cell i (by unfold depV;rw[List.length_map];exact a);rw[N] at O;clear N;obtain⟨d,hd⟩:∃d,d=dep (gt U i):=⟨_,rfl⟩;rw[<-hd] at O;have D:d<P.orders.length:=by rw[hd];exact(F.out.1.1 _ (gtMem a)).2.1
   have ho:=hP.ord7 d D;have HD:=Lib.hid hd;clear hd;go_wp2;go_loopg [20] (lft (gt P.orders d) (gt Y d)) (λgk _ wr=>∃Y,gk=lft (gt P.orders d) (gt Y d)/\Ext w wr/\Own w.heap.size wr ov Y/\OwnV w0.heap.size 3 wr (.slice (some ⟨gp,0,none⟩) U.length r) (depV U)/\Hid (RepTo P U X i Y))
   case atStart=>exact⟨Y,rfl,hg,hO,u,C⟩
   case round=>
    clear hO u C hg;obtain⟨Y,hgk,hg,hO,u,C⟩:=hrel;have b:=C.out.vec;have Q:=b.2 d D;have R:=hO.ints (by rw[b.1];omega);obtain⟨ax,capx,T,_,_⟩:=R.shape;rw[b.1] at T;subst T;obtain⟨bx,ox,rfl,_,_,hcx⟩:=Ints.at R d (by rw[b.1];exact D);have aF:(d:Int)<P.orders.length:=by omega
    by_cases hy:gt Y d=0
    ·have ao:Hid (RepTo P U X (i+1) Y):=Lib.hid (repTo_next C.out (by rw[<-HD.out];exact hy))
     have hb:(gt Y d != 0)=false:=by simp[hy]
     have HY:=Lib.hid b;clear b hy hgk;go_wp2;go_roundw
     case rel=>exact⟨i+1,Y,by go_num,by omega,hg,hO,u,ao⟩
     case measure=>simp[intOf];omega
    ·have hb:(gt Y d != 0)=true:=by simp[hy]
     obtain⟨y,l⟩:=G.repTo_step F.out.1 F.out.2 a C.out;rw[<-HD.out] at l;have E:=lft_step Q.1 Q.2 hy;rw[<-l,<-hgk] at E;have V:=(F.out.1.1 _ (gtMem a)).1;have W:tv P Y (gt U i)=rMul P Y (gt U i):=G.tv_eq b V;obtain⟨bu,ou,a2,cap2,hau,hbu,hbul,hcu,aq⟩:=Rows2.at hu i a;subst hau;have aG:=hg.cell hcu (by simp);have HS:=Lib.hid (And.intro y (And.intro E W));clear y E W l hgk hy hcu;have Z:=Lib.hid b;have aa:∀(S:Nat->Prop) k,S k->k<w.heap.size->Off (Value.slice (some ⟨bx,ox,none⟩) P.orders.length capx).ownBlock k/\k<wr.heap.size/\wr.heap[k]? = w.heap[k]? :=λS k _ a=>⟨λe=>by have:=(B.out k e).1;omega,Nat.lt_of_lt_of_le a hg.size,hg.block k a (by simp)⟩;go_wp2_with fail
     refine Calls.mono (timesVector_ok P hP w.heap.size wr _ _ _ Y (gt U i) (hp.mono (aa Sp)) hO Z.out (Ints.mono aq (aa Su)) V) ?_;rintro eM wM ⟨vM,rfl,hgM,rfl,ab⟩;rw[HS.out.2.2] at ab;have ac:Ext w wM:=grown_own hg hgM (λj hj a=>by have:=(B.out j hj).1;omega)
     have av:=u.kept hgM (.inr (λe=>by
      have h1:=(B.out gp (by rw[<-e];rfl)).2;have q:=(u.lt gp rfl).1;omega))
     go_wp2;go_roundg (lft (gt P.orders d) (gt (rMul P Y (gt U i)) d))
     case measure=>exact HS.out.2.1
     case rel=>exact⟨_,rfl,ac,ab,av,Lib.hid HS.out.1⟩
  ·have aw:i=U.length:=by omega
   subst aw;go_wp2;go_ret;exact⟨_,rfl,hg,Y,hO,C.out⟩
end Go.Proofs.YtoakmefajbbggaaGreat
namespace Go.Proofs.YtoakmefajbbggaaGreat
def sq (r:Nat->List Int) (k m:Nat):List (List Int):=(List.range' m k).filterMap (λd=>if r d=[] then none else some (r d))
theorem sq_zero (r:Nat->List Int) (m:Nat):sq r 0 m=[]:=rfl
theorem sq_succ (r:Nat->List Int) (k m:Nat):sq r (k+1) m=(if r m=[] then [] else [r m])++sq r k (m+1):=by
 unfold sq;rw[List.range'_succ,List.filterMap_cons];by_cases h:r m=[]<;>simp[h]
theorem sq_all (r:Nat->List Int) (n:Nat):seqOf n r=sq r n 0:=by unfold seqOf sq;rw[List.range_eq_range']
theorem sq_congr {r a:Nat->List Int}(k m:Nat) (h:∀d,m<=d->d<m+k->r d=a d):sq r k m=sq a k m:=by
 induction k generalizing m with
 | zero=>rfl
 | succ k b=>rw[sq_succ,sq_succ,h m (by omega) (by omega),b (m+1) (λd h1 e=>h d (by omega) (by omega))]
theorem mem_sq {r:Nat->List Int}{k m:Nat}{z:List Int} : z∈sq r k m↔∃e,m<=e/\e<m+k/\r e≠[]/\z=r e:=by
 induction k generalizing m with
 | zero=>
  rw[sq_zero];constructor
  ·intro h;cases h
  ·rintro⟨e,h1,h2,_⟩;omega
 | succ k i=>
  rw[sq_succ,List.mem_append,i];constructor
  ·rintro (h|⟨e,h1,h2,a⟩)
   ·split at h
    ·cases h
    ·rename_i j
     simp at h
     exact⟨m,by omega,by omega,j,h⟩
   ·exact⟨e,by omega,by omega,a⟩
  ·rintro ⟨e,h1,h2,a,b⟩
   rcases Nat.lt_or_ge m e with h|h
   ·exact .inr ⟨e,by omega,by omega,a,b⟩
   ·have:e=m:=by omega
    subst this;left;rw[if_neg a];simp[b]
theorem sq_len (r:Nat->List Int) (k m:Nat):(sq r k m).length<=k:=by
 induction k generalizing m with
 | zero=>exact Nat.le_refl _
 | succ k a=>rw[sq_succ,List.length_append];have:=a (m+1);split<;>simp<;>omega
structure CanInv (P:Pr) (H:List Int->Prop) (b r:Nat->List Int) (m:Nat):Prop where
 nil:∀e,m<=e->e<P.orders.length->(r e=[]↔b e=[])
 mem:∀e,m<=e->e<P.orders.length->r e≠[]->H (r e)/\T P e (r e)/\gt (r e) e=1
 red:∀e e',m<=e->e<e'->e'<P.orders.length->r e≠[]->r e'≠[]->gt (r e) e'=0
section
variable {P:Pr}(G:Grp P)
include G
omit G in
theorem CanInv.dep {H:List Int->Prop}{b r:Nat->List Int}{m e:Nat}(h:CanInv P H b r m) (h1:m<=e) (a:e<P.orders.length) (i:r e≠[]):dep (r e)=e:=by
 obtain⟨_,hT,j⟩:=h.mem e h1 a i;exact dep_lead a hT (by rw[j];decide)
omit G in
theorem CanInv.sorted {H:List Int->Prop}{b r:Nat->List Int}{i:Nat}(h:CanInv P H b r i):∀k m,i<=m->m+k=P.orders.length->(sq r k m).Pairwise (λx y=>Go.Proofs.YtoakmefajbbggaaGreat.dep x<Go.Proofs.YtoakmefajbbggaaGreat.dep y):=by
 intro k;induction k with
 | zero=>intro m _ _;exact List.Pairwise.nil
 | succ k j=>
  intro m l u;rw[sq_succ];by_cases a:r m=[]
  ·rw[if_pos a,List.nil_append];exact j (m+1) (by omega) (by omega)
  ·rw [if_neg a,List.singleton_append]
   refine List.Pairwise.cons (λz p => ?_) (j (m+1) (by omega) (by omega));obtain⟨e,h1,h2,q,rfl⟩:=mem_sq.1 p;rw[h.dep l (by omega) a,h.dep (by omega) (by omega) q];omega
omit G in
theorem CanInv.seqOk {H:List Int->Prop}{b r:Nat->List Int}{k m:Nat}(h:CanInv P H b r m) (q:m+k=P.orders.length):SeqOk P (sq r k m):=by
 refine⟨λz u => ?_,λi j a l => ?_⟩
 ·obtain ⟨e,h1,h2,p,rfl⟩:=mem_sq.1 u
  obtain⟨_,a2,a3⟩:=h.mem e h1 (by omega) p;rw[h.dep h1 (by omega) p];exact⟨a2.1,by omega,a3⟩
 ·rw [gt_eq _ i (by omega),gt_eq _ j l]
  exact List.pairwise_iff_getElem.1 (h.sorted k m (Nat.le_refl _) q) i j (by omega) l a
theorem Grp.can_step {H:List Int->Prop}{b r:Nat->List Int}{d k:Nat}{y:List Int}(I:Ind P H b) (h:CanInv P H b r (d+1)) (hk:d+1+k=P.orders.length) (K:b d≠[]) (hy:RepTo P (sq r k (d+1)) (b d) (sq r k (d+1)).length y) :
  CanInv P H b (λe=>if e=d then y else r e) d/\sq (λe=>if e=d then y else r e) (k+1) d=y :: sq r k (d+1):=by
 have L:d<P.orders.length:=by omega
 obtain⟨M,A,m3⟩:=I.mem d L K;have l:y≠[]:=λe=>by have:=hy.vec.1;rw[e] at this;simp at this;omega
 have m:∀j,j<=d->gt y j=gt (b d) j:=λj q=>hy.old j (λz u=>by
  obtain⟨e,h1,a,i,rfl⟩:=mem_sq.1 u;rw[h.dep h1 (by omega) i];omega)
 have B:H y:=by
  have h1:=hy.cos H I.sub (λz u=>by
   obtain⟨e,h1,a,i,rfl⟩:=mem_sq.1 u;exact(h.mem e h1 (by omega) i).1)
  have a:=I.sub.mul _ _ M h1;rwa [<-G.ass A.1 (G.invV A.1) hy.vec,G.mul_inv A.1,G.grp.el _ hy.vec] at a
 have C:T P d y:=⟨hy.vec,λj q=>by rw[m j (by omega)];exact A.2 j q⟩;have D:gt y d=1:=by rw[m d (Nat.le_refl _)];exact m3
 have E:∀e,d<e->e<P.orders.length->r e≠[]->gt y e=0:=λe h1 a i=>by
  have u:r e∈sq r k (d+1):=mem_sq.2 ⟨e,by omega,by omega,i,rfl⟩;obtain⟨j,q,hje⟩:=List.getElem_of_mem u;have w:=hy.zer j q;rw[gt_eq _ j q,hje,h.dep (by omega) a i] at w;exact w
 refine⟨⟨λe h1 a => ?_,λe h1 a i => ?_,λe e' h1 a i w F => ?_⟩,?_⟩
 ·by_cases p:e=d
  ·subst p;simp[l,K]
  ·rw[if_neg p];exact h.nil e (by omega) a
 ·by_cases p:e=d
  ·subst p;simp only[if_true] ; exact⟨B,C,D⟩
  ·simp only[if_neg p] at i ⊢;exact h.mem e (by omega) a i
 ·have J:e'≠d:=by omega
  simp only[if_neg J] at F;by_cases p:e=d
  ·subst p;simp only[if_true];exact E e' a i F
  ·simp only[if_neg p] at w ⊢;exact h.red e e' (by omega) a i w F
 ·rw [sq_succ,if_pos rfl,if_neg l,List.singleton_append]
  congr 1
  exact sq_congr k (d+1) (λe h1 a=>by rw[if_neg (by omega)])
omit G in
theorem can_skip {H:List Int->Prop}{b r:Nat->List Int}{d k:Nat}(h:CanInv P H b r (d+1)) (q:b d=[]) :
  CanInv P H b (λe=>if e=d then [] else r e) d/\sq (λe=>if e=d then [] else r e) (k+1) d=sq r k (d+1):=by
 refine⟨⟨λe h1 i => ?_,λe h1 i j => ?_,λe e' h1 i j l p => ?_⟩,?_⟩
 ·by_cases a:e=d
  ·subst a;simp[q]
  ·rw[if_neg a];exact h.nil e (by omega) i
 ·by_cases a:e=d
  ·subst a;simp at j
  ·simp only[if_neg a] at j ⊢;exact h.mem e (by omega) i j
 ·have m:e'≠d:=by omega
  simp only[if_neg m] at p;by_cases a:e=d
  ·subst a;simp at l
  ·simp only[if_neg a] at l ⊢;exact h.red e e' (by omega) i j l p
 ·rw [sq_succ,if_pos rfl,if_pos rfl,List.nil_append]
  exact sq_congr k (d+1) (λe h1 i=>by rw[if_neg (by omega)])
theorem Grp.can_end {H:List Int->Prop}{b r:Nat->List Int}(I:Ind P H b) (h:CanInv P H b r 0):sq r P.orders.length 0=cseq P H:=by
 have k:Red P H r:=⟨⟨I.sub,λd a i=>h.mem d (by omega) a i,λx hx d a l m i=>I.piv x hx d a l m ((h.nil d (by omega) a).1 i)⟩,λd e j p h1 q=>h.red d e (by omega) j p h1 q⟩;rw[G.cseq_red k,sq_all]
end
theorem elTo_len (o:List Int) (N:Nat) (m:Int) (k:Nat):(elTo o N m k).1.length=N:=by
 induction k with
 | zero=>simp[elTo]
 | succ k a=>simp only[elTo];rw[List.length_set,a]
theorem elTo_keep (o:List Int) (N:Nat) (m:Int) (j k:Nat) (hk:j<k) (a:k<=N):gt (elTo o N m k).1 (N-1-j)=(elTo o N m j).2%gt o (N-1-j):=by
 induction k with
 | zero=>omega
 | succ k b=>
  simp only[elTo];by_cases e:j=k
  ·subst e;rw[gt_set_eq _ _ _ (by rw[elTo_len];omega)]
  ·rw[gt_set_ne _ _ _ _ (by omega)];exact b (by omega) (by omega)
theorem elTo_lt {P:Pr}(hP:Valid P) (m:Int) (h1:m<ordP P) (k:Nat) (hk:k<=P.orders.length):(elTo P.orders P.orders.length m k).2<prodTo P.orders (P.orders.length-k):=by
 induction k with
 | zero=>exact h1
 | succ k b=>
  have a:=b (by omega);have i:=hP.ord7 (P.orders.length-1-k) (by omega);simp only[elTo];have e:P.orders.length-k=(P.orders.length-(k+1))+1:=by omega
  rw[e] at a;simp only[prodTo] at a;rw[show P.orders.length-(k+1)=P.orders.length-1-k by omega] at a ⊢;exact Int.ediv_lt_of_lt_mul (by omega) a
theorem num_elAt {P:Pr}(hP:Valid P) (m:Int) (i:0<=m) (h1:m<ordP P):num P (elAt P m)=m:=by
 have j:(elTo P.orders P.orders.length m P.orders.length).2=0:=by
  have a:=elTo_lt hP m h1 P.orders.length (Nat.le_refl _);have q:=(elTo_inv hP m i P.orders.length (Nat.le_refl _)).2.1;rw[Nat.sub_self] at a;simp only[prodTo] at a;omega
 have key:∀k,k<=P.orders.length->numTo P.orders (elAt P m) k=(elTo P.orders P.orders.length m (P.orders.length-k)).2:=by
  intro k;induction k with
  | zero=>intro _;simp only[numTo,Nat.sub_zero];exact j.symm
  | succ k l=>
   intro hk;simp only[numTo];rw[l (by omega)];have e:P.orders.length-k=(P.orders.length-(k+1))+1:=by omega
   have p:gt (elAt P m) k=(elTo P.orders P.orders.length m (P.orders.length-(k+1))).2%gt P.orders k:=by
    have:=elTo_keep P.orders P.orders.length m (P.orders.length-(k+1)) P.orders.length (by omega) (Nat.le_refl _);rw[show P.orders.length-1-(P.orders.length-(k+1))=k by omega] at this;exact this
   rw[p,e];simp only[elTo];rw[show P.orders.length-1-(P.orders.length-(k+1))=k by omega];have:=Int.emod_add_mul_ediv (elTo P.orders P.orders.length m (P.orders.length-(k+1))).2 (gt P.orders k);rw[Int.mul_comm] at this;omega
 have b:=key P.orders.length (Nat.le_refl _);rw[Nat.sub_self] at b;exact b
theorem num_inj {P:Pr}(hP:Valid P) {x y:List Int}(hx:Vec P.orders x) (hy:Vec P.orders y) (h:num P x=num P y):x=y:=by
 have key:∀k,k<=P.orders.length->numTo P.orders x (P.orders.length-k)=numTo P.orders y (P.orders.length-k)/\∀j,P.orders.length-k<=j->j<P.orders.length->gt x j=gt y j:=by
  intro k;induction k with
  | zero=>intro _;exact⟨h,λj a b=>by omega⟩
  | succ k p=>
   intro hk;obtain⟨h1,h2⟩:=p (by omega);have e:P.orders.length-k=(P.orders.length-(k+1))+1:=by omega
   rw[e] at h1;simp only[numTo] at h1;have z:=hP.ord7 (P.orders.length-(k+1)) (by omega);have i:=hx.2 (P.orders.length-(k+1)) (by omega);have l:=hy.2 (P.orders.length-(k+1)) (by omega)
   have q:gt x (P.orders.length-(k+1))=gt y (P.orders.length-(k+1)):=by
    have m:(numTo P.orders x (P.orders.length-(k+1))*gt P.orders (P.orders.length-(k+1))+gt x (P.orders.length-(k+1)))%gt P.orders (P.orders.length-(k+1))=(numTo P.orders y (P.orders.length-(k+1))*gt P.orders (P.orders.length-(k+1))+gt y (P.orders.length-(k+1)))%gt P.orders (P.orders.length-(k+1)):=by rw[h1]
    rw[Int.add_comm,Int.add_mul_emod_self_right,Int.add_comm _ (gt y _),Int.add_mul_emod_self_right,Int.emod_eq_of_lt i.1 i.2,Int.emod_eq_of_lt l.1 l.2] at m;exact m
   refine⟨?_,λj a b => ?_⟩
   ·have r:numTo P.orders x (P.orders.length-(k+1))*gt P.orders (P.orders.length-(k+1))=numTo P.orders y (P.orders.length-(k+1))*gt P.orders (P.orders.length-(k+1)):=by omega
    exact Int.eq_of_mul_eq_mul_right (by omega) r
   ·by_cases u:j=P.orders.length-(k+1)
    ·rw[u];exact q
    ·exact h2 j (by omega) b
 have w:=(key P.orders.length (Nat.le_refl _)).2;exact ext_gt (by rw[hx.1,hy.1]) (λk hk=>w k (by omega) (by rw[<-hx.1];exact hk))
theorem elAt_num {P:Pr}(hP:Valid P) {x:List Int}(hx:Vec P.orders x):elAt P (num P x)=x:=by
 have a:=num_bd hP hx;exact num_inj hP (elAt_vec hP _ a.1) hx (num_elAt hP _ a.1 a.2)
end Go.Proofs.YtoakmefajbbggaaGreat
namespace Go.Proofs.YtoakmefajbbggaaGreat
open Go.RowKit
def cmpI (a b:Int):Int:=if a<b then -1 else if b<a then 1 else 0
theorem isNaN_ok (a:Int) (w:World):Calls Tryz.prog 249 #[.int .i64 a] w λe w'=>e=.returned (.bool false)/\w'=w:=by
 go_enter Tryz.func249,Tryz.ntmps249;go_wp2;exact bodyPost_ret (v := .bool false) (by simp[results,Tryz.results249,go_sem]) rfl ⟨rfl,rfl⟩
theorem cmpI_ok (a b:Int) (w:World):Calls Tryz.prog 201 #[.int .i64 a,.int .i64 b] w λe w'=>e=.returned (.int .i64 (cmpI a b))/\w'=w:=by
 go_enter Tryz.func201,Tryz.ntmps201;go_wp2_with fail
 refine Calls.mono (isNaN_ok a w) ?_;rintro k l ⟨rfl,rfl⟩;go_wp2_with fail
 refine Calls.mono (isNaN_ok b _) ?_;rintro k l ⟨rfl,rfl⟩;by_cases h1:a<b
 ·go_wp2
  exact bodyPost_ret (v := .int .i64 (-1)) (by simp[results,Tryz.results201,go_sem]) rfl ⟨by simp[cmpI,h1],rfl⟩
 ·by_cases j:b<a
  ·have i:b<=a:=by omega
   go_wp2;exact bodyPost_ret (v := .int .i64 1) (by simp[results,Tryz.results201,go_sem]) rfl ⟨by simp[cmpI,h1,j],rfl⟩
  ·have i:b=a:=by omega
   subst i;clear h1 j;go_wp2;exact bodyPost_ret (v := .int .i64 0) (by simp[results,Tryz.results201,go_sem]) rfl ⟨by simp[cmpI],rfl⟩
def cmpL:List Int->List Int->Int
 | [],[]=>0
 | [],_ :: _ => -1
 | _ :: _,[]=>1
 | x :: xs,y :: ys=>if cmpI x y=0 then cmpL xs ys else cmpI x y
theorem drop_gt {l:List Int}{k:Nat}(h:k<l.length):l.drop k=gt l k :: l.drop (k+1):=by
 rw[List.drop_eq_getElem_cons h];simp[gt,h]
theorem sCompare_ok (a b:Value) (X Y:List Int) (w:World) (A B:Nat->Prop) (ha:Ints A w a X) (y:Ints B w b Y) :
  Calls Tryz.prog 202 #[a,b] w λe w'=>e=.returned (.int .i64 (cmpL X Y))/\w'=w:=by
 obtain⟨C,capa,rfl,hla,_⟩:=ha.shape;obtain⟨ab,capb,rfl,hlb,_⟩:=y.shape;go_enter Tryz.func202,Tryz.ntmps202;go_wp2;go_loopw [11] (λv wr=>∃k:Nat,v=.int .i64 k/\k<=X.length/\k<=Y.length/\wr=w/\cmpL X Y=cmpL (X.drop k) (Y.drop k)) (λv _=>X.length-(intOf v).toNat)
 case atStart=>exact⟨0,rfl,by omega,by omega,rfl,by simp⟩
 case round=>
  obtain⟨k,rfl,hk,hkY,rfl,i⟩:=hrel;by_cases p:k<X.length
  ·obtain ⟨D,oa,rfl,_,_,hca⟩:=Ints.at ha k p
   by_cases l:k<Y.length
   ·obtain ⟨E,ob,rfl,_,_,hcb⟩:=Ints.at y k l
    rw[drop_gt p,drop_gt l] at i;simp only[cmpL] at i;have m:=Lib.hid i;clear i;go_wp2_with fail
    refine Calls.mono (cmpI_ok (gt X k) (gt Y k) _) ?_;rintro F G ⟨rfl,rfl⟩;by_cases z:cmpI (gt X k) (gt Y k)=0
    ·have j:=m.out
     rw[if_pos z] at j;have q:=Lib.hid j;clear j m;go_wp2;go_roundw
     case rel=>exact⟨k+1,by go_num,by omega,by omega,trivial,q.out⟩
     case measure=>simp[intOf];omega
    ·have j:=m.out
     rw[if_neg z] at j;have q:=Lib.hid j;clear j m;go_wp2;exact bodyPost_ret (v := .int .i64 (cmpI (gt X k) (gt Y k))) (by simp[results,Tryz.results202,go_sem]) rfl ⟨by rw[q.out],rfl⟩
   ·have r:k=Y.length:=by omega
    subst r;rw[drop_gt p,List.drop_length] at i;simp only[cmpL] at i;have m:=Lib.hid i;clear i;go_wp2;exact bodyPost_ret (v := .int .i64 1) (by simp[results,Tryz.results202,go_sem]) rfl ⟨by rw[m.out],rfl⟩
  ·have r:k=X.length:=by omega
   subst r;rw[List.drop_length] at i;by_cases l:X.length<Y.length
   ·rw [drop_gt l] at i
    simp only[cmpL] at i;have m:=Lib.hid i;clear i;go_wp2;exact bodyPost_ret (v := .int .i64 (-1)) (by simp[results,Tryz.results202,go_sem]) rfl ⟨by rw[m.out],rfl⟩
   ·have u:Y.length<=X.length:=by omega
    rw[List.drop_of_length_le u] at i;simp only[cmpL] at i;have m:=Lib.hid i;clear i;go_wp2;exact bodyPost_ret (v := .int .i64 0) (by simp[results,Tryz.results202,go_sem]) rfl ⟨by rw[m.out],rfl⟩
theorem cmpI_cases (a b:Int):(cmpI a b = -1/\a<b)\/(cmpI a b=0/\a=b)\/(cmpI a b=1/\b<a):=by
 unfold cmpI;by_cases h:a<b
 ·simp[h]
 ·by_cases e:b<a
  ·simp[h,e]
  ·simp[h,e];omega
theorem cmpL_zero:∀(x y:List Int),cmpL x y=0↔x=y
 | [],[]=>by simp[cmpL]
 | [],_ :: _=>by simp[cmpL]
 | _ :: _,[]=>by simp[cmpL]
 | x :: xs,y :: ys=>by
  simp only[cmpL];rcases cmpI_cases x y with⟨h,a⟩|⟨h,a⟩|⟨h,a⟩
  ·simp[h];omega
  ·rw[if_pos h,cmpL_zero xs ys];simp[a]
  ·simp[h];omega
theorem cmpL_swap:∀(x y:List Int),cmpL y x = - cmpL x y
 | [],[]=>by simp[cmpL]
 | [],_ :: _=>by simp[cmpL]
 | _ :: _,[]=>by simp[cmpL]
 | x :: xs,y :: ys=>by
  simp only[cmpL];have a:=cmpL_swap xs ys;rcases cmpI_cases x y with⟨h,h2⟩|⟨h,h2⟩|⟨h,h2⟩<;>rcases cmpI_cases y x with⟨k,k2⟩|⟨k,k2⟩|⟨k,k2⟩<;>simp[h,k,a]<;>omega
theorem cmpL_le_trans:∀(x y z:List Int),cmpL x y<=0->cmpL y z<=0->cmpL x z<=0
 | [],[],[]=>by simp[cmpL]
 | [],[],_ :: _=>by simp[cmpL]
 | [],_ :: _,[]=>by simp[cmpL]
 | [],_ :: _,_ :: _=>by simp[cmpL]
 | _ :: _,[],[]=>by simp[cmpL]
 | _ :: _,[],_ :: _=>by simp[cmpL]
 | _ :: _,_ :: _,[]=>by simp[cmpL]
 | x :: xs,y :: ys,z :: zs=>by
  simp only[cmpL];have a:=cmpL_le_trans xs ys zs;rcases cmpI_cases x y with⟨h,h2⟩|⟨h,h2⟩|⟨h,h2⟩<;>rcases cmpI_cases y z with⟨k,k2⟩|⟨k,k2⟩|⟨k,k2⟩<;>rcases cmpI_cases x z with⟨l,l2⟩|⟨l,l2⟩|⟨l,l2⟩<;>simp[h,k,l]<;>first|omega|(intros;omega)|exact a|skip
theorem cmpL_total (x y:List Int):cmpL x y<=0\/cmpL y x<=0:=by have:=cmpL_swap x y;omega
theorem cmpL_antisymm {x y:List Int}(h:cmpL x y<=0) (k:cmpL y x<=0):x=y:=by
 have:=cmpL_swap x y;exact(cmpL_zero x y).1 (by omega)
def SortedL (L:List (List Int)):Prop:=L.Pairwise (λx y=>cmpL x y<=0)
def sortL (L:List (List Int)):List (List Int):=L.mergeSort (λx y=>decide (cmpL x y<=0))
theorem sortL_perm (L:List (List Int)):(sortL L).Perm L:=List.mergeSort_perm _ _
theorem sortL_sorted (L:List (List Int)):SortedL (sortL L):=by
 have h:=List.pairwise_mergeSort (le:=λx y=>decide (cmpL x y<=0)) (λa b c h k=>by simp at *;exact cmpL_le_trans a b c h k) (λa b=>by simp;exact cmpL_total a b) L;exact h.imp (λh=>by simpa using h)
theorem sorted_unique:∀(L M:List (List Int)),SortedL L->SortedL M->L.Perm M->L=M:=by
 intro L;induction L with
 | nil=>intro M _ _ h;exact(List.nil_perm.1 h).symm▸rfl
 | cons x L m=>
  intro M j l a;cases M with
  | nil=>exact absurd a.symm (by simp)
  | cons y M=>
   have b:x∈y :: M:=a.subset (by simp);have e:y∈x :: L:=a.symm.subset (by simp)
   have i:x=y:=by
    rcases List.mem_cons.1 b with h|h
    ·exact h
    ·rcases List.mem_cons.1 e with k|k
     ·exact k.symm
     ·exact cmpL_antisymm ((List.pairwise_cons.1 j).1 y k) ((List.pairwise_cons.1 l).1 x h)
   subst i;rw[m M (List.pairwise_cons.1 j).2 (List.pairwise_cons.1 l).2 (List.perm_cons x |>.1 a)]
theorem gt_mem {α:Type} [Inhabited α] {l:List α}{i:Nat}(h:i<l.length):gt l i∈l:=by
 simp only[gt,List.getD_eq_getElem?_getD,List.getElem?_eq_getElem h,Option.getD_some];exact List.getElem_mem h
theorem mem_gt {α:Type} [Inhabited α] {l:List α}{x:α}(h:x∈l):∃i,i<l.length/\gt l i=x:=by
 obtain⟨i,hi,rfl⟩:=List.getElem_of_mem h;exact⟨i,hi,by simp[gt,hi]⟩
end Go.Proofs.YtoakmefajbbggaaGreat
namespace Go.Proofs.YtoakmefajbbggaaGreat
theorem cmpL_append:∀(a b:List Int) (u v:Int),a.length=b.length->cmpL (a++[u]) (b++[v])=if cmpL a b=0 then cmpL [u] [v] else cmpL a b
 | [],[],u,v,_=>by simp[cmpL]
 | [],_ :: _,_,_,h=>by simp at h
 | _ :: _,[],_,_,h=>by simp at h
 | x :: a,y :: b,u,v,h=>by
  have e:=cmpL_append a b u v (by simpa using h);generalize cmpL [u] [v]=c at e ⊢;simp only[List.cons_append,cmpL];rcases cmpI_cases x y with⟨h1,_⟩|⟨h1,_⟩|⟨h1,_⟩<;>simp[h1,e]
theorem cmpL_one (u v:Int):(cmpL [u] [v]<0↔u<v)/\(cmpL [u] [v]=0↔u=v):=by
 simp only[cmpL];rcases cmpI_cases u v with⟨h1,h2⟩|⟨h1,h2⟩|⟨h1,h2⟩<;>simp[h1]<;>omega
theorem cmpL_num {P:Pr}(hP:Valid P) {x y:List Int}(hx:Vec P.orders x) (hy:Vec P.orders y):cmpL x y<0↔num P x<num P y:=by
 have key:∀k,k<=P.orders.length->(cmpL (x.take k) (y.take k)<0↔numTo P.orders x k<numTo P.orders y k)/\(cmpL (x.take k) (y.take k)=0↔numTo P.orders x k=numTo P.orders y k):=by
  intro k;induction k with
  | zero=>intro _;simp[numTo,cmpL]
  | succ k j=>
   intro hk;obtain⟨h1,h2⟩:=j (by omega);have p:=hP.ord7 k (by omega);have l:=hx.2 k (by omega);have m:=hy.2 k (by omega);rw[take_succ_gt x k (by rw[hx.1];omega),take_succ_gt y k (by rw[hy.1];omega),cmpL_append _ _ _ _ (by simp[hx.1,hy.1])];simp only[numTo];obtain⟨c1,c2⟩:=cmpL_one (gt x k) (gt y k);rcases Int.lt_trichotomy (numTo P.orders x k) (numTo P.orders y k) with h|h|h
   ·have a:cmpL (x.take k) (y.take k)<0:=h1.2 h
    rw[if_neg (by omega)];have i:(numTo P.orders x k+1)*gt P.orders k<=numTo P.orders y k*gt P.orders k:=Int.mul_le_mul_of_nonneg_right (by omega) (by omega);rw[Int.add_mul,Int.one_mul] at i;exact⟨⟨λ_=>by omega,λ_=>a⟩,⟨λh=>by omega,λh=>by omega⟩⟩
   ·have a:cmpL (x.take k) (y.take k)=0:=h2.2 h
    rw[if_pos a,h];exact⟨by rw[c1];omega,by rw[c2];omega⟩
   ·have a:¬cmpL (x.take k) (y.take k)<0:=λe=>by have:=h1.1 e;omega
    have b:¬cmpL (x.take k) (y.take k)=0:=λe=>by have:=h2.1 e;omega
    rw[if_neg b];have i:(numTo P.orders y k+1)*gt P.orders k<=numTo P.orders x k*gt P.orders k:=Int.mul_le_mul_of_nonneg_right (by omega) (by omega);rw[Int.add_mul,Int.one_mul] at i;exact⟨⟨λh=>absurd h a,λh=>by omega⟩,⟨λh=>absurd h b,λh=>by omega⟩⟩
 have h:=(key P.orders.length (Nat.le_refl _)).1;rw[List.take_of_length_le (by rw[hx.1];omega),List.take_of_length_le (by rw[hy.1];omega)] at h;exact h
theorem asc_unique {P:Pr}(hP:Valid P) {L M:List (List Int)}(l:∀x∈L,Vec P.orders x) (j:L.Pairwise (λx y=>num P x<num P y)) (p:M.Pairwise (λx y=>num P x<num P y)) (h:∀x,x∈L↔x∈M):L=M:=by
 have q:∀ {K:List (List Int)},K.Pairwise (λx y=>num P x<num P y)->K.Nodup:=λr=>r.imp (λh e=>by rw[e] at h;omega);have u:L.Perm M:=(List.perm_ext_iff_of_nodup (q j) (q p)).2 h;have k:∀x∈M,Vec P.orders x:=λx hx=>l x ((h x).2 hx)
 have w:SortedL L:=by
  refine List.Pairwise.imp_of_mem ?_ j;intro a b ha m i;have:=(cmpL_num hP (l a ha) (l b m)).2 i;omega
 have z:SortedL M:=by
  refine List.Pairwise.imp_of_mem ?_ p;intro a b ha m i;have:=(cmpL_num hP (k a ha) (k b m)).2 i;omega
 exact sorted_unique L M w z u
open Classical in
noncomputable def elemsIn (P:Pr) (H:List Int->Prop):List (List Int):=(List.range (ordP P).toNat).filterMap (λt:Nat=>if H (elAt P (t:Int)) then some (elAt P (t:Int)) else none)
theorem elemsIn_mem {P:Pr}(hP:Valid P) {H:List Int->Prop}(hH:∀x,H x->Vec P.orders x) (x:List Int):x∈elemsIn P H↔H x:=by
 unfold elemsIn;rw[List.mem_filterMap];constructor
 ·rintro ⟨t,_,h⟩
  split at h
  ·cases h;assumption
  ·cases h
 ·intro h
  have a:=num_bd hP (hH x h);refine⟨(num P x).toNat,List.mem_range.2 (by omega),?_⟩
  have e:elAt P (((num P x).toNat:Nat):Int)=x:=by
   rw[show(((num P x).toNat:Nat):Int)=num P x by omega];exact elAt_num hP (hH x h)
  rw[e,if_pos h]
theorem elemsIn_asc {P:Pr}(hP:Valid P) (H:List Int->Prop):(elemsIn P H).Pairwise (λx y=>num P x<num P y):=by
 unfold elemsIn;rw[List.pairwise_filterMap];refine List.Pairwise.imp_of_mem ?_ (List.pairwise_lt_range (n:=(ordP P).toNat));intro a b ha e i x hx y hy;have j:=List.mem_range.1 ha;have k:=List.mem_range.1 e;split at hx
 ·split at hy
  ·cases hx;cases hy
   rw[num_elAt hP _ (by omega) (by omega),num_elAt hP _ (by omega) (by omega)];omega
  ·cases hy
 ·cases hx
theorem sort_elemsIn {P:Pr}(hP:Valid P) {H:List Int->Prop}(hH:∀x,H x->Vec P.orders x) {L:List (List Int)}(q:L.Nodup) (r:∀x,x∈L↔H x):sortL L=elemsIn P H:=by
 have p:=sortL_perm L;have i:∀x,x∈sortL L↔H x:=λx=>p.mem_iff.trans (r x);have j:(sortL L).Nodup:=p.nodup_iff.2 q;refine asc_unique hP (λx hx=>hH x ((i x).1 hx)) ?_ (elemsIn_asc hP H) (λx=>(i x).trans (elemsIn_mem hP hH x).symm);have u:=sortL_sorted L
 have w:(sortL L).Pairwise (λx y=>cmpL x y<=0/\x≠y):=by
  have:=List.pairwise_and_iff.2 ⟨u,j⟩;exact this
 refine List.Pairwise.imp_of_mem ?_ w;intro a b ha z k;have l:=hH a ((i a).1 ha);have m:=hH b ((i b).1 z);refine(cmpL_num hP l m).1 ?_;have A:cmpL a b≠0:=λe=>k.2 ((cmpL_zero a b).1 e);omega
end Go.Proofs.YtoakmefajbbggaaGreat
