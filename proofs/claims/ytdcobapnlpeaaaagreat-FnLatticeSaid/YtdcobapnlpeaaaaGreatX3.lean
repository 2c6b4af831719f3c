/- Merged from templates. -/
import Derived.Test.YtdcobapnlpeaaaaGreatX2
import Derived.Deep.AppendLies
import Derived.Deep.RegionLaw
import Derived.Deep.DrawnRows
set_option maxRecDepth 100000
set_option maxHeartbeats 8000000
namespace Go.Proofs.YtdcobapnlpeaaaaGreat
open Go.RowKit
theorem l01Pick_ok (p:Nat) (w:World) (sb:Nat) (lv:Value) (L:List Int) (S:Nat->Prop) (h:Src p w sb) (q:Ints S w lv L) (r:∀k,S k->k≠sb) (z:0<L.length) (B:L.length<=1000) :
  Calls Tryz.prog 158 #[.pointer (some ⟨sb,0,none⟩),lv] w (Mut w (some sb) λw' v=>∃i,i<L.length/\v=.int .i64 (gt L i)/\Src p w' sb):=by
 obtain⟨a,cap,rfl,_,_⟩:=q.shape;have g:=l01Next_ok p w sb L.length h;have u:=Lib.hid (And.intro q r);clear q r h;go_enter Tryz.func158,Tryz.ntmps158;go_wp2_with fail
 refine Calls.mono g ?_;rintro C D ⟨v1,rfl,j,x,rfl,l,m,n⟩;clear g;obtain⟨i,hi,hil⟩:∃i:Nat,x=i/\i<L.length:=⟨x.toNat,by omega,by omega⟩;subst hi;have y:(i:Int)<L.length:=by omega
 obtain⟨b,off,rfl,rE,_,hc⟩:=Ints.at (Ints.mono u.out.1 (frame_of j (λk hk _=>⟨hk,λe=>u.out.2 k hk (by cases e;rfl)⟩))) i hil;have A:=Lib.hid (And.intro l (And.intro m n));clear l m n;go_wp2;go_ret;exact⟨_,rfl,j,i,hil,rfl,A.out.2.2⟩
def shiftL (b:Nat) (v:List Int) (a:Nat):List Int:=(List.replicate b 0++v)++List.replicate a 0
theorem shiftL_len (b:Nat) (v:List Int) (a:Nat):(shiftL b v a).length=b+v.length+a:=by unfold shiftL;simp;omega
theorem l07Shift_ok (w:World) (b:Nat) (u:Value) (v:List Int) (a:Nat) (S:Nat->Prop) (y:Ints S w u v) (D:b+v.length+a<=1000) :
  Calls Tryz.prog 321 #[.int .i64 b,u,.int .i64 a] w (Ret w λw' r=>Own w.heap.size w' r (shiftL b v a)):=by
 obtain⟨E,capv,rfl,_,_⟩:=y.shape;go_enter Tryz.func321,Tryz.ntmps321
 go_wp2_with (first
  | (at_make;refine wp_make_ints rfl _ _ rfl w.heap.size b w.heap.size rfl _ rfl rfl rfl (by omega) (Nat.le_refl _) ?_;intro F l e z)
  | (at_builtin;refine wp_app_ints rfl _ _ rfl w.heap.size _ (List.replicate b 0) rfl l _ v rfl S (y.ext e) (by simp;omega) e.size ?_;intro A B g i _;have C:(List.replicate b (0:Int)++v).length<=1000:=by simp;omega)
  | (at_builtin;refine wp_app_zeros rfl _ _ rfl w.heap.size A (List.replicate b 0++v) rfl g a rfl (by simp;omega) (by have:=e.size;have:=i.size;omega) ?_;intro G H k m))
 have n:(shiftL b v a).length<=9223372036854775807:=by rw[shiftL_len];omega
 obtain⟨I,c3,hv3,_⟩:=(k.ints n).shape;subst hv3;go_wp2;go_ret;refine⟨_,rfl,?_,k⟩;have h1:Ext w B:=grown_own e i (λj p q=>by have:=own_blk p;omega);exact grown_own h1 m (λj p q=>by have:=(g.lt j p).1;omega)
theorem l07Digits_ok (w:World) (C:Value) (o:List Int) (k:Nat) (x:Int) (S:Nat->Prop) (D:Ints S w C o) (P:o.length<=1000) (E:∀i,i<o.length->1<=gt o i/\gt o i<=7) (hx:0<=x/\x<=1000000000) :
  Calls Tryz.prog 309 #[C,.int .i64 k,.int .i64 x] w (Ret w λw' r=>∃l,l.length=o.length/\Own w.heap.size w' r l):=by
 obtain⟨Q,capo,rfl,_,_⟩:=D.shape;have F:=Lib.hid (And.intro E D);clear E;go_enter Tryz.func309,Tryz.ntmps309;go_wp2_with (at_make;refine wp_make_ints rfl _ _ rfl w.heap.size o.length w.heap.size rfl _ rfl rfl rfl (by omega) (Nat.le_refl _) ?_;intro R n p u)
 go_loopw [2,8] (λH z wr=>∃(i:Nat) (y:Int) (l:List Int),z=.int .i64 i/\H=.int .i64 y/\0<=y/\y<=1000000000/\l.length=o.length/\Ext w wr/\Own w.heap.size wr (.slice (some ⟨w.heap.size,0,none⟩) o.length o.length) l) (λ_ z _=>o.length-(intOf z).toNat)
 case atStart=>exact⟨k,x,_,rfl,rfl,hx.1,hx.2,by simp,p,n⟩
 case round=>
  obtain⟨i,y,l,rfl,rfl,hy0,hy1,a,hg,hO⟩:=hrel;clear n p u;by_cases e:i<o.length
  ·have G:(i:Int)<o.length:=by omega
   obtain⟨b,off,rfl,_,hbl,hc0⟩:=Ints.at F.out.2 i e;have I:=hg.cell hc0 (by simp);have J:=F.out.1 i e;obtain⟨q,g⟩:∃q,q=gt o i:=⟨_,rfl⟩;rw[<-g] at I J;have K:=hO.cell i (by omega);have L:=hO.frozen i;obtain⟨v,hs2⟩:=hO.store i (y%q);have m:Ext w (wr.setCell ⟨w.heap.size,i,none⟩ (.int .i64 (y%q))):=grown_own hg hs2 (λj M e=>by cases M;omega);have A:0<=y/q:=Int.ediv_nonneg hy0 (by omega);have N:y/q<=y:=Int.ediv_le_self _ hy0;have O:(wr.setCell ⟨w.heap.size,i,none⟩ (.int .i64 (y%q))).cell? ⟨b,off+i,none⟩=some (.int .i64 q):=m.cell (by rw[g];exact hc0) (by simp);have B:=Lib.hid (And.intro v (And.intro m a));clear v hs2 m a g hc0;go_wp2;go_roundw
   case rel=>exact⟨i+1,y/q,l.set i (y%q),by go_num,rfl,A,by omega,by rw[List.length_set];exact B.out.2.2,B.out.2.1,B.out.1⟩
   case measure=>simp[intOf];omega
  ·go_wp2
   go_ret;exact⟨_,rfl,hg,l,a,hO⟩
def FacsR (B:Nat) (w':World) (v:Value):Prop:=∃(a:Option Addr) (c:Nat) (l:List Int) (r:Bool),v=.tuple #[.slice a l.length c,.bool r]/\Own B w' (.slice a l.length c) l/\l.length<=9/\∀x∈l,2<=x/\x<=7
theorem l07Factors_ok (w:World) (n:Nat) (R:1<=n/\n<=729) :
  Calls Tryz.prog 307 #[.int .i64 n] w (Ret w (FacsR w.heap.size)):=by
 go_enter Tryz.func307,Tryz.ntmps307;go_wp2;go_loopw [0,4,5] (λr B C wr=>∃(m:Nat) (l:List Int) (d:Nat),r=.int .i64 m/\C=.int .i64 d/\1<=m/\2<=d/\d<=8/\m*2 ^ l.length<=729/\(∀x∈l,2<=x/\x<=7)/\Ext w wr/\Own w.heap.size wr B l) (λ_ _ C _=>8-(intOf C).toNat)
 case atStart=>exact⟨n,[],2,rfl,rfl,R.1,by omega,by omega,by simp;omega,by simp,World.grownBy_alloc _ _ _,World.ownsRow_lit w #[] 0 (Nat.le_refl _) (by decide) rfl⟩
 case round=>
  obtain⟨m,l,d,rfl,rfl,b,D,hd8,u,v,hg,hO⟩:=hrel;have e:=Lib.hid (And.intro u v);clear u v;by_cases i:d<=7
  ·have g:(d:Int)<=7:=by omega
   go_wp2;go_loopw [0,4] (λr B wr=>∃(m:Nat) (l:List Int),r=.int .i64 m/\1<=m/\Hid (m*2 ^ l.length<=729/\∀x∈l,(2:Int)<=x/\x<=7)/\Ext w wr/\Own w.heap.size wr B l) (λr _ _=>(intOf r).toNat)
   case atStart=>exact⟨m,l,rfl,b,e,hg,hO⟩
   case round=>
    clear b e hg hO;obtain⟨m,l,rfl,b,e,hg,hO⟩:=hrel;have S:2<=(d:Int):=by omega
    by_cases A:primeB d=true
    ·have a:=l01Prime_ok d wr
     rw[A] at a;clear A;by_cases y:m%d=0
     ·have E:(m:Int)%(d:Int)=0:=by rw[<-Int.natCast_emod,y];rfl
      have F:(m:Int)/(d:Int)=((m/d:Nat):Int):=by rw[Int.natCast_ediv]
      have z:1<=m/d:=Nat.div_pos (Nat.le_of_dvd b (Nat.dvd_of_mod_eq_zero y)) (by omega);have G:m/d<m:=Nat.div_lt_self b (by omega);have H:m/d*d=m:=Nat.div_mul_cancel (Nat.dvd_of_mod_eq_zero y)
      have k:l.length<=1000000:=by
       have I:=e.out.1;have J:1*2 ^ l.length<=m*2 ^ l.length:=Nat.mul_le_mul_right _ b;have T:l.length<2 ^ l.length:=Nat.lt_two_pow_self;omega
      have K:m/d*2 ^ (l++[(d:Int)]).length<=729/\∀x∈l++[(d:Int)],(2:Int)<=x/\x<=7:=by
       refine⟨?_,λx hx => ?_⟩
       ·have I:=e.out.1
        have J:m/d*2<=m:=by
         have:=Nat.mul_le_mul_left (m/d) D;omega
        have T:=Nat.mul_le_mul_right (2 ^ l.length) J;rw[List.length_append,List.length_singleton,Nat.pow_succ,Nat.mul_comm (2 ^ l.length) 2,<-Nat.mul_assoc];omega
       ·rcases List.mem_append.1 hx with h|h
        ·exact e.out.2 x h
        ·rw[List.mem_singleton.1 h];omega
      have L:m/d<=729:=by
       have h1:=e.out.1;have I:=Nat.le_mul_of_pos_right m (Nat.two_pow_pos l.length);omega
      obtain⟨q,O⟩:∃q,q=m/d:=⟨_,rfl⟩;rw[<-O] at F z G K L;have U:=Lib.hid K;clear K e H y O;go_wp2_with fail
      refine Calls.mono a ?_;rintro P Q ⟨rfl,rfl⟩;clear a;go_wp2_with (first|(at_builtin;refine wp_app_int rfl _ _ rfl w.heap.size u4 l (d:Int) rfl wr hO rfl rfl k hg.size ?_;intro X Y M N)|fail)
      go_roundw
      case rel=>exact⟨q,_,rfl,z,U,grown_own hg N (λj V i=>by have:=(hO.lt j V).1;omega),M⟩
      case measure=>simp[intOf];omega
     ·have E:((m:Int)%(d:Int) == 0)=false:=by
       have:(m:Int)%(d:Int)=((m%d:Nat):Int):=by rw[Int.natCast_emod]
       rw[this];simp;omega
      have p:d+1<=8:=by omega
      clear y i g;go_wp2_with (first|(refine Calls.mono a ?_;rintro P Q ⟨rfl,rfl⟩;clear a)|fail)
      go_roundw
      case rel=>exact⟨m,l,d+1,rfl,by go_num,b,by omega,p,e.out.1,e.out.2,hg,hO⟩
      case measure=>simp[intOf];omega
    ·have a:=l01Prime_ok d wr
     rw[show primeB (d:Int)=false by simpa using A] at a;have p:d+1<=8:=by omega
     clear A i g;go_wp2_with (first|(refine Calls.mono a ?_;rintro P Q ⟨rfl,rfl⟩;clear a)|fail)
     go_roundw
     case rel=>exact⟨m,l,d+1,rfl,by go_num,b,by omega,p,e.out.1,e.out.2,hg,hO⟩
     case measure=>simp[intOf];omega
  ·have g:¬(d:Int)<=7:=by omega
   have k:l.length<=9:=by
    rcases Nat.lt_or_ge l.length 10 with h|h
    ·omega
    ·have h1:2 ^ 10<=2 ^ l.length:=Nat.pow_le_pow_right (by omega) h
     have I:=e.out.1;have J:1*2 ^ l.length<=m*2 ^ l.length:=Nat.mul_le_mul_right _ b;omega
   obtain⟨W,cf,lX,_⟩:=(hO.ints (by omega)).shape;subst lX;go_wp2;go_ret2
   exact⟨_,rfl,hg,W,cf,l,((m:Int) == 1),rfl,hO,k,e.out.2⟩
theorem l01Power_ok (w:World) (b e m:Int) (i:0<=b/\b<30000) (j:0<=e/\e<=1000000000) (z:1<=m/\m<=30000) :
  Calls Tryz.prog 310 #[.int .i64 b,.int .i64 e,.int .i64 m] w (Ret w λ_ v=>∃x:Int,v=.int .i64 x/\0<=x/\x<30000):=by
 have p:(1:Int)%m<m:=Int.emod_lt_of_pos _ (by omega);have k:0<=(1:Int)%m:=Int.emod_nonneg _ (by omega);go_enter Tryz.func310,Tryz.ntmps310;go_wp2;go_loopw [0,1,7] (λq ev r wr=>∃(b e o:Int),q=.int .i64 b/\ev=.int .i64 e/\r=.int .i64 o/\0<=b/\b<30000/\0<=e/\e<=1000000000/\0<=o/\o<30000/\Ext w wr) (λ_ ev _ _=>(intOf ev).toNat)
 case atStart=>exact⟨b,e,_,rfl,rfl,rfl,i.1,i.2,j.1,j.2,k,by omega,Ext.refl _⟩
 case round=>
  clear i j;obtain⟨b,e,o,rfl,rfl,rfl,a,hb1,he0,he1,ho0,ho1,hg⟩:=hrel;by_cases u:0<e
  ·have h1:0<=o*b/\o*b<=30000*30000:=⟨Int.mul_nonneg ho0 a,Int.mul_le_mul (by omega) (by omega) a (by omega)⟩
   have A:0<=b*b/\b*b<=30000*30000:=⟨Int.mul_nonneg a a,Int.mul_le_mul (by omega) (by omega) a (by omega)⟩;have y:0<=o*b%m/\o*b%m<m:=⟨Int.emod_nonneg _ (by omega),Int.emod_lt_of_pos _ (by omega)⟩;have n:0<=b*b%m/\b*b%m<m:=⟨Int.emod_nonneg _ (by omega),Int.emod_lt_of_pos _ (by omega)⟩;have B:e/2<e:=by omega
   by_cases g:e%2=1
   ·have l:(e%2 == 1)=true:=by simp[g]
    clear g;go_wp2;go_roundw
    case rel=>exact⟨_,_,_,rfl,rfl,rfl,n.1,by omega,by omega,by omega,y.1,by omega,hg⟩
    case measure=>simp[intOf];omega
   ·have l:(e%2 == 1)=false:=by simp[g]
    clear g;go_wp2;go_roundw
    case rel=>exact⟨_,_,_,rfl,rfl,rfl,n.1,by omega,by omega,by omega,ho0,ho1,hg⟩
    case measure=>simp[intOf];omega
  ·go_wp2
   go_ret;exact⟨_,rfl,hg,o,rfl,ho0,ho1⟩
def SlOA {α:Type} [Inhabited α] (El:(Nat->Prop)->World->Value->α->Prop) (E B:Nat) (A:Nat->Prop) (w:World) (v:Value) (xs:List α):Prop:=
 ∃ (a:List Value) (G:Nat->Nat->Prop),a.length=xs.length/\OwnV B E w v a/\(∀i k,i<xs.length->G i k->B<=k/\v.ownBlock≠some k/\k<w.heap.size) /\
  (∀i j k,i<xs.length->j<xs.length->G i k->G j k->i=j)/\(∀i,i<xs.length->El (G i) w (gt a i) (gt xs i))/\(∀i k,i<xs.length->G i k->¬A k)/\∀k,v.ownBlock=some k->¬A k
theorem SlOA.o {α:Type} [Inhabited α] {El:(Nat->Prop)->World->Value->α->Prop}{E B:Nat}{A:Nat->Prop}{w:World}{v:Value}{xs:List α}(h:SlOA El E B A w v xs):SlO El E B w v xs:=by
 obtain⟨a,G,h1,h2,h3,h4,h5,_⟩:=h;exact⟨a,G,h1,h2,h3,h4,h5⟩
theorem SlOA.ext {α:Type} [Inhabited α] {El:(Nat->Prop)->World->Value->α->Prop}(j:RdOk El) {E B:Nat}{A:Nat->Prop}{w w':World}{v:Value}{xs:List α}(h:SlOA El E B A w v xs) (g:Ext w w'):SlOA El E B A w' v xs:=by
 obtain⟨m,G,hvl,hO,hG,hd,n,hr⟩:=h;refine⟨m,G,hvl,hO.kept g (by cases p:v.ownBlock<;>simp),λi k l hk => ?_,hd,λi l=>j.mono (n i l) (λk hk e=>⟨hk,Nat.lt_of_lt_of_le e g.size,g.block k e (by simp)⟩),hr⟩;obtain⟨a,b,c⟩:=hG i k l hk;exact⟨a,b,Nat.lt_of_lt_of_le c g.size⟩
theorem SlOA.more {α:Type} [Inhabited α] {El:(Nat->Prop)->World->Value->α->Prop}{E B:Nat}{A A':Nat->Prop}{w:World}{v:Value}{xs:List α}(h:SlOA El E B A w v xs) (a:∀k,A' k->A k\/w.heap.size<=k):SlOA El E B A' w v xs:=by
 obtain⟨j,G,h1,b,e,h4,h5,h6,h7⟩:=h;refine⟨j,G,h1,b,e,h4,h5,λi k g hk ha => ?_,λk hk ha => ?_⟩
 ·rcases a k ha with h|h
  ·exact h6 i k g hk h
  ·have:=(e i k g hk).2.2;omega
 ·rcases a k ha with h|h
  ·exact h7 k hk h
  ·have:=(b.lt k hk).2;omega
theorem SlOA.less {α:Type} [Inhabited α] {El:(Nat->Prop)->World->Value->α->Prop}{E B:Nat}{A A':Nat->Prop}{w:World}{v:Value}{xs:List α}(h:SlOA El E B A w v xs) (a:∀k,A' k->A k):SlOA El E B A' w v xs:=
 h.more λk hk => .inl (a k hk)
theorem SlOA.avoids {α:Type} [Inhabited α] {El:(Nat->Prop)->World->Value->α->Prop}{E B:Nat}{A:Nat->Prop}{w:World}{v:Value}{xs:List α}(h:SlOA El E B A w v xs) (k:Nat) (hk:v.ownBlock=some k):¬A k/\B<=k/\k<w.heap.size:=by
 obtain⟨a,G,h1,h2,h3,h4,h5,h6,h7⟩:=h;exact⟨h7 k hk,h2.lt k hk⟩
theorem SlOA.kept {α:Type} [Inhabited α] {El:(Nat->Prop)->World->Value->α->Prop}(n:RdOk El) {E B m:Nat}{A:Nat->Prop}{w w':World}{v:Value}{xs:List α}(h:SlOA El E B A w v xs) (j:w.grownBy w' (some m)) (p:A m):SlOA El E B A w' v xs:=by
 obtain⟨q,G,hvl,hO,hG,hd,r,hr,hr2⟩:=h;refine⟨q,G,hvl,hO.kept j ?_,λi k l hk => ?_,hd,λi l=>n.mono (r i l) (λk hk g=>⟨hk,Nat.lt_of_lt_of_le g j.size,j.block k g (λe=>hr i k l hk (by cases e;exact p))⟩),hr,hr2⟩
 ·cases hv:v.ownBlock with
  | none=>exact .inl rfl
  | some b=>exact .inr (λe=>hr2 b hv (by cases e;exact p))
 ·obtain ⟨a,b,c⟩:=hG i k l hk
  exact⟨a,b,Nat.lt_of_lt_of_le c j.size⟩
theorem wp_app_oneA {α:Type} [Inhabited α] {El:(Nat->Prop)->World->Value->α->Prop}(C:RdOk El) (T E:Nat) (z:Value) (bytes:Nat) (hT:Tryz.prog.underlying T=some (.slice E))
  (hE:(Tryz.prog.info? E).map (λi=>(i.zero,i.size,i.bytes))=some (some z,1,bytes)) (U:z.cells.size=1) (V:bytes<=64)
  {I:Array Oper}{rest:List Oper}{o:Oper}{a:Act}{Q:Exit->Act->World->Prop}{w:World}(W:o.guard=none) (s x:Operand)
  (ho:o.op=Op.call { callee:=Callee.builtin Builtin.append,args := #[s,x],argTypes := #[T,T] }) (B:Nat) (A:Nat->Prop) (q m:World) (v u:Value) (xs:List α) (y:α) (hs:a.eval s=v) (J:SlOA El E B A q v xs) (hA:∀k,A k->k<q.heap.size)
  (r:Option Nat) (D:q.grownBy m r) (K:∀k,r=some k->A k) (hu:El (From q.heap.size) m u y) (hw:w=m.alloc (.cells #[u] E)) (hx:a.eval x=.slice (some ⟨m.heap.size,0,none⟩) 1 1) (ag:xs.length<=1000000) (X:B<=q.heap.size)
  (h:∀L w',SlOA El E B A w' L (xs++[y])->m.grownBy w' v.ownBlock->wpList Tryz.prog I Q rest (a.put o.dst L) w') :
  wpList Tryz.prog I Q (o :: rest) a w:=by
 subst hw;obtain⟨Y,G,F,hO,hG,hd,Z,hr,hr2⟩:=J;have M:Ext m (m.alloc (.cells #[u] E)):=World.grownBy_alloc _ _ _
 have aa:v.ownBlock=none\/v.ownBlock≠r:=by
  cases hv:v.ownBlock with
  | none=>exact .inl rfl
  | some b=>exact .inr (λe=>hr2 b hv (K b e.symm))
 have ab:OwnV B E (m.alloc (.cells #[u] E)) v Y:=hO.kept (grown_trans D (grown_of_ext _ M)) aa;refine wp_app T E z bytes hT hE U V W s x ho B v Y hs ab (some ⟨m.heap.size,0,none⟩) 1 1 [u] hx rfl (by simp) ?_ ?_ (by omega) (by have:=D.size;simp;omega) ?_
 ·intro j hj
  have:j=0:=by omega
  subst this;exact⟨m.heap.size,0,rfl,by rw[World.cell?_alloc_at _ _ _ _ rfl];rfl⟩
 ·intro u' N
  simp at N;subst N;exact C.one hu
 ·intro L w' h1 h2 _ ac
  have O:∀k,v.ownBlock=some k->B<=k/\k<q.heap.size:=hO.lt;have n:m.grownBy w' v.ownBlock:=grown_trans (grown_of_ext _ M) h2;have P:q.heap.size<=w'.heap.size:=Nat.le_trans D.size n.size
  have p:∀k,L.ownBlock=some k->v.ownBlock=some k\/m.heap.size<k:=by
   intro k hk;rcases ac with h|h
   ·exact .inl (by rw[<-h];exact hk)
   ·rw [h] at hk
    have:(m.alloc (.cells #[u] E)).heap.size=k:=by simpa using hk
    simp at this
    exact .inr (by omega)
  refine h L w' ⟨Y++[u],λi k=>if i<xs.length then G i k/\k<q.heap.size else q.heap.size<=k/\k<m.heap.size,by simp[F],h1,?_,?_,?_,?_,?_⟩ n
  ·intro i k R hk
   split at hk
   ·rename_i l
    obtain⟨a1,a2,a3⟩:=hG i k l hk.1;refine⟨a1,λH => ?_,Nat.lt_of_lt_of_le a3 P⟩;rcases p k H with h|h
    ·exact a2 h
    ·have:=D.size;omega
   ·refine ⟨by omega,λH => ?_,Nat.lt_of_lt_of_le hk.2 n.size⟩
    rcases p k H with h|h
    ·have:=O k h;omega
    ·omega
  ·intro i j k R hj hk S
   simp only[List.length_append,List.length_singleton] at R hj;split at hk<;>split at S
   ·exact hd i j k (by assumption) (by assumption) hk.1 S.1
   ·omega
   ·omega
   ·omega
  ·intro i R
   simp only[List.length_append,List.length_singleton] at R;by_cases l:i<xs.length
   ·rw [gt_append_left _ _ _ (by omega),gt_append_left _ _ _ l]
    simp only[if_pos l];exact C.mono (Z i l) (λk hk g=>⟨⟨hk,g⟩,Nat.lt_of_lt_of_le g P,(n.block k (Nat.lt_of_lt_of_le g D.size) (λe=>(hG i k l hk).2.1 e.symm)).trans (D.block k g (λe=>hr i k l hk (K k e.symm)))⟩)
   ·have ad:i=xs.length:=by omega
    subst ad;rw[gt_concat,<-F,gt_concat];simp only[F,Nat.lt_irrefl,if_false]
    exact C.mono hu (λk hk g=>⟨⟨hk,g⟩,Nat.lt_of_lt_of_le g n.size,n.block k g (λe=>by
     have hk:q.heap.size<=k:=hk;have:=O k e.symm;omega)⟩)
  ·intro i k R hk ha
   split at hk
   ·exact hr i k (by assumption) hk.1 ha
   ·have:=hA k ha;omega
  ·intro k hk ha
   rcases p k hk with h|h
   ·exact hr2 k h ha
   ·have:=hA k ha;have:=D.size;omega
theorem wp_app_rowA {i:Array Oper}{rest:List Oper}{o:Oper}{a:Act}{Q:Exit->Act->World->Prop}{w:World}(m:o.guard=none) (s x:Operand)
  (q:o.op=Op.call { callee:=Callee.builtin Builtin.append,args := #[s,x],argTypes := #[25,25] }) (B:Nat) (A:Nat->Prop) (e g:World) (v u:Value) (xs:List (List Int)) (y:List Int) (z:a.eval s=v)
  (j:SlOA OwnIn 24 B A e v xs) (C:∀k,A k->k<e.heap.size)
  (r:Option Nat) (D:e.grownBy g r) (n:∀k,r=some k->A k) (E:OwnIn (From e.heap.size) g u y) (F:w=g.alloc (.cells #[u] 24)) (hx:a.eval x=.slice (some ⟨g.heap.size,0,none⟩) 1 1) (l:xs.length<=1000000) (b:B<=e.heap.size)
  (h:∀p w',SlOA OwnIn 24 B A w' p (xs++[y])->g.grownBy w' v.ownBlock->wpList Tryz.prog i Q rest (a.put o.dst p) w') :
  wpList Tryz.prog i Q (o :: rest) a w:=
 wp_app_oneA rdOwn 25 24 (.slice none 0 0) 24 und_rows Tryz.infoRow rfl (by decide) m s x q B A e g v u xs y z j C r D n E F hx l b h
theorem step_app (T E:Nat) (z:Value) (bytes:Nat) (B:Tryz.prog.underlying T=some (.slice E)) (C:(Tryz.prog.info? E).map (λi=>(i.zero,i.size,i.bytes))=some (some z,1,bytes))
  (p:z.cells.size=1) (q:bytes<=64) {r:Array Oper}{o:Oper}{a:Act}{K:Act->World->Prop}{Q:Exit->Act->World->Prop}{D:Prop}{w:World}(y:o.guard=none) (s x:Operand)
  (F:o.op=Op.call { callee:=Callee.builtin Builtin.append,args := #[s,x],argTypes := #[T,T] }) (base:Nat) (v:Value) (xs:List Value) (G:a.eval s=v) (e:OwnV base E w v xs)
  (H:Nat) (u:Value) (hx:a.eval x=.slice (some ⟨H,0,none⟩) 1 1) (I:w.cell? ⟨H,0,none⟩=some u) (h1:u.oneCell'=true) (A:xs.length<=2000000) (b:base<=w.heap.size)
  (h:∀m w',OwnV base E w' m (xs++[u])->w.grownBy w' v.ownBlock->(m.ownBlock=v.ownBlock\/m.ownBlock=some w.heap.size)->K (a.put o.dst m) w') :
  if Region.wanted o (yielded r a.tmps)=true then Oper.wp Tryz.prog o a w K Q else D:=by
 obtain⟨J,hi,hz0,hz1,hz2⟩:=info_parts C;refine step_append_lies w y s x T F base E J z 1 bytes B hi hz0 hz1 hz2 p (by decide) v xs.length xs G e ⟨H,0,none⟩ 1 1 [u] hx rfl ?_ ?_ (by omega) (by unfold maxLen;omega) (by have:=Nat.mul_le_mul (show xs.length+1<=2000001 by omega) q;omega) b w.heap.size rfl ?_
 ·intro j L n
  match j,n with
  | 0,n=>
   simp at n;subst n
   simpa [Addr.add] using I
 ·intro L k
  simp at k;subst k;exact h1
 ·intro g cap w' M N l _
  refine h _ w' ?_ N ?_
  ·unfold OwnV;rw[List.length_append];exact M
  ·rcases l with l|l
   ·left;rw[l];rfl
   ·right;rw[<-l];rfl
theorem Box3.all {W:World}{b:Nat}{a e g:Value}(h:Box3 W b a e g) (x y z:Value):Box3 (((W.setCell ⟨b,0,none⟩ x).setCell ⟨b,1,none⟩ y).setCell ⟨b,2,none⟩ z) b x y z:=
 ((((h.put x).1.put y).2.1).put z).2.2
theorem grown_set1 (w:World) (b j:Nat) (v:Value):w.grownBy (w.setCell ⟨b,j,none⟩ v) (some b):=⟨rfl,rfl,rfl,by simp[World.setCell],λk _ hk=>Below.heap_setCell _ _ _ _ (by intro e;exact hk (by rw[e]))⟩
theorem grown_set3 (w:World) (b:Nat) (x y z:Value):w.grownBy (((w.setCell ⟨b,0,none⟩ x).setCell ⟨b,1,none⟩ y).setCell ⟨b,2,none⟩ z) (some b):=
 grown_trans (grown_set1 _ _ _ _) (grown_trans (grown_set1 _ _ _ _) (grown_set1 _ _ _ _))
def SlI {α:Type} [Inhabited α] (El:(Nat->Prop)->World->Value->α->Prop) (E:Nat) (F:Nat->Prop) (w:World) (v:Value) (xs:List α):Prop:=
 ∃ (a:List Value) (G:Nat->Nat->Prop),a.length=xs.length/\xs.length<=9223372036854775807/\OwnV 0 E w v a/\(∀k,v.ownBlock=some k->F k) /\
  (∀i k,i<xs.length->G i k->F k/\v.ownBlock≠some k/\k<w.heap.size) /\
  (∀i j k,i<xs.length->j<xs.length->G i k->G j k->i=j)/\∀i,i<xs.length->El (G i) w (gt a i) (gt xs i)
section
variable {α:Type} [Inhabited α] {El:(Nat->Prop)->World->Value->α->Prop}{E:Nat}
theorem SlI.of {B:Nat}{F:Nat->Prop}{w:World}{v:Value}{xs:List α}(h:SlO El E B w v xs) (e:xs.length<=9223372036854775807) (hF:∀k,B<=k->k<w.heap.size->F k):SlI El E F w v xs:=by
 obtain⟨g,G,hvl,hO,a,hd,hE⟩:=h;exact⟨g,G,hvl,e,ownsRow_move hO (λ_ _=>⟨rfl,Nat.zero_le _⟩),λk hk=>hF k (hO.lt k hk).1 (hO.lt k hk).2,λi k b hk=>⟨hF k (a i k b hk).1 (a i k b hk).2.2,(a i k b hk).2⟩,hd,hE⟩
theorem SlI.d {F:Nat->Prop}{w:World}{v:Value}{xs:List α}(h:SlI El E F w v xs):SlD El F w v xs:=by
 obtain⟨j,G,a,hl,hO,hF,e,hd,hE⟩:=h;refine⟨G,λk=>v.ownBlock=some k,λk hk=>hF k hk,λi k b hk=>⟨(e i k b hk).1,λh=>(e i k b hk).2.1 h⟩,hd,?_⟩;rcases hO.form with⟨rfl,rfl⟩|⟨g,cap,rfl,hnc,jh,hgs⟩
 ·have:xs.length=0:=by simpa using a.symm
  exact⟨none,0,by rw[this],⟨by omega,by omega,λ_=>rfl⟩,λi b=>by omega⟩
 ·refine ⟨_,cap,by rw[a],⟨by omega,hl,λh=>by cases h⟩,λi b=>⟨g,0,gt j i,rfl,rfl,hgs,?_,hE i b⟩⟩
  rw[Nat.zero_add];exact hO.cell i (by omega)
theorem rdI (l:RdOk El):RdOk (SlI El E):=by
 refine⟨λ{F F' w w' u x} h j => ?_,λ{F w u x} h => ?_⟩
 ·obtain ⟨m,G,hvl,hl,hO,hF,e,hd,n⟩:=h
  have a:=hO.lt
  exact ⟨m,G,hvl,hl,ownsRow_move hO (λk hk=>⟨(j k (hF k hk) (a k hk).2).2.2,Nat.zero_le _⟩),λk hk=>(j k (hF k hk) (a k hk).2).1,
   λi k b hk=>⟨(j k (e i k b hk).1 (e i k b hk).2.2).1,(e i k b hk).2.1,(j k (e i k b hk).1 (e i k b hk).2.2).2.1⟩,hd,
   λi b=>l.mono (n i b) (λk hk a=>⟨hk,(j k (e i k b hk).1 a).2⟩)⟩
 ·obtain ⟨m,G,_,_,⟨_,h|⟨g,cap,cur,p,_⟩⟩,_⟩:=h
  ·rw[h.1];rfl
  ·rw[p];rfl
theorem SlI.map {a:(Nat->Prop)->World->Value->α->Prop}(b:∀F w u x,El F w u x->a F w u x) {F:Nat->Prop}{w:World}{v:Value}{xs:List α}(h:SlI El E F w v xs):SlI a E F w v xs:=by
 obtain⟨e,G,hvl,hl,hO,h1,hG,hd,g⟩:=h;exact⟨e,G,hvl,hl,hO,h1,hG,hd,λi j=>b _ _ _ _ (g i j)⟩
theorem SlI.form {F:Nat->Prop}{w:World}{v:Value}{xs:List α}(h:SlI El E F w v xs):(v=.slice none 0 0/\xs=[])\/∃g cap,v=.slice (some ⟨g,0,none⟩) xs.length cap/\F g/\g<w.heap.size:=by
 obtain⟨b,G,a,hl,hO,h1,hG,hd,hE⟩:=h;rcases hO.form with⟨rfl,rfl⟩|⟨g,cap,rfl,hnc,jh,hgs⟩
 ·exact .inl ⟨rfl,List.eq_nil_of_length_eq_zero (by simpa using a.symm)⟩
 ·exact .inr ⟨g,cap,by rw[a],h1 g rfl,hgs⟩
theorem SlI.place {F:Nat->Prop}{g n cap:Nat}{w:World}{xs:List α}(h:SlI El E F w (.slice (some ⟨g,0,none⟩) n cap) xs) (k:Nat) (hk:k<xs.length):(∃z,w.cell? ⟨g,k,none⟩=some z)/\w.frozen? ⟨g,k,none⟩=false:=by
 obtain⟨a,G,hvl,hl,hO,h1,hG,hd,hE⟩:=h;refine⟨⟨_,hO.cell k (by omega)⟩,?_⟩
 have b:n=a.length:=by
  obtain⟨_,⟨h,_⟩|⟨_,_,_,h,_⟩⟩:=hO<;>cases h;rfl
 subst b;exact World.ownsRow.frozenAt hO k
theorem SlI.store (p:RdOk El) {F:Nat->Prop}{g n cap:Nat}{m a:World}{xs:List α}{u:Value}{y:α}(h:SlI El E F m (.slice (some ⟨g,0,none⟩) n cap) xs)
  (w:Ext m a) (C:El (From m.heap.size) a u y) (j:Nat) :
  SlI El E (λk=>F k\/m.heap.size<=k) (a.setCell ⟨g,j,none⟩ u) (.slice (some ⟨g,0,none⟩) n cap) (xs.set j y)/\a.grownBy (a.setCell ⟨g,j,none⟩ u) (some g):=by
 obtain⟨z,G,A,hl,hO,hF,B,hd,D⟩:=h;have H:=hO.lt g rfl;have q:OwnV 0 E a (.slice (some ⟨g,0,none⟩) n cap) z:=hO.kept w (by simp[Value.ownBlock])
 have I:n=z.length:=by
  obtain⟨_,⟨h,_⟩|⟨_,_,_,h,_⟩⟩:=q<;>cases h;rfl
 subst I;obtain⟨h1,h2⟩:=World.ownsRow.stored q j u;have J:(a.setCell ⟨g,j,none⟩ u).heap.size=a.heap.size:=by simp[World.setCell]
 have hblk:∀k,k≠g->(a.setCell ⟨g,j,none⟩ u).heap[k]? = a.heap[k]? :=λk hk=>Below.heap_setCell _ _ _ _ (by simpa using hk);refine⟨⟨z.set j u,λi k=>if i=j then m.heap.size<=k/\k<a.heap.size else G i k/\k<m.heap.size,by simp[A],by rw[List.length_set];exact hl,?_,λk hk => .inl (hF k hk),?_,?_,?_⟩,h2⟩
 ·unfold OwnV;rw[List.length_set];exact h1
 ·intro i k b hk
  rw[List.length_set] at b;simp only[Value.ownBlock];split at hk
  ·exact⟨.inr hk.1,by intro e;cases e;omega,by omega⟩
  ·obtain ⟨a1,a2,a3⟩:=B i k b hk.1
   exact⟨.inl a1,a2,by have:=w.size;omega⟩
 ·intro i K k b r hk v
  rw[List.length_set] at b r;split at hk<;>split at v
  ·omega
  ·omega
  ·omega
  ·exact hd i K k b r hk.1 v.1
 ·intro i b
  rw[List.length_set] at b;by_cases e:j=i
  ·subst e
   rw[gt_set_eq _ _ _ (by omega),gt_set_eq _ _ _ b];simp only[if_true];exact p.mono C (λk hk l=>⟨⟨hk,l⟩,by omega,hblk k (by have hk:m.heap.size<=k:=hk;omega)⟩)
  ·rw [gt_set_ne _ _ _ _ e,gt_set_ne _ _ _ _ e]
   simp only[if_neg (λh:i=j=>e h.symm)];refine p.mono (D i b) (λk hk l=>⟨⟨hk,l⟩,by have:=w.size;omega,?_⟩);rw[hblk k (λe=>(B i k b hk).2.1 (by rw[e];rfl))];exact w.block k l (by simp)
theorem SlI.turn (r:RdOk El) {F:Nat->Prop}{g n cap:Nat}{w:World}{xs:List α}(h:SlI El E F w (.slice (some ⟨g,0,none⟩) n cap) xs) (j:Nat) (p:j<xs.length) :
  ∃ (u:Value) (v:Nat->Prop),w.cell? ⟨g,j,none⟩=some u/\El v w u (gt xs j)/\(∀k,v k->F k/\k≠g/\k<w.heap.size) /\
   ∀w' y,Touch v w w'->El (λk=>v k\/w.heap.size<=k) w' u y->SlI El E (λk=>F k\/w.heap.size<=k) w' (.slice (some ⟨g,0,none⟩) n cap) (xs.set j y):=by
 obtain⟨C,G,hvl,hl,hO,hF,b,z,D⟩:=h;have H:=hO.lt g rfl;refine⟨gt C j,G j,hO.cell j (by omega),D j p,λk hk=>⟨(b j k p hk).1,λe=>(b j k p hk).2.1 (by rw[e];rfl),(b j k p hk).2.2⟩,λw' y A hy => ?_⟩;refine⟨C,λi k=>if i=j then (G j k\/w.heap.size<=k)/\k<w'.heap.size else G i k,by rw[List.length_set];exact hvl,by rw[List.length_set];exact hl,ownsRow_move hO (λk hk=>⟨A.block k (hO.lt k hk).2 (λe=>(b j k p e).2.1 hk),Nat.zero_le _⟩),λk hk => .inl (hF k hk),?_,?_,?_⟩
 ·intro i k a hk
  rw[List.length_set] at a;split at hk
  ·rcases hk with⟨hk|hk,hk2⟩
   ·exact⟨.inl (b j k p hk).1,(b j k p hk).2.1,hk2⟩
   ·exact⟨.inr hk,λe=>by have:=(hO.lt k e).2;omega,hk2⟩
  ·exact⟨.inl (b i k a hk).1,(b i k a hk).2.1,by have:=A.size;have:=(b i k a hk).2.2;omega⟩
 ·intro i B k a q hk l
  rw[List.length_set] at a q;split at hk<;>split at l
  ·omega
  ·rcases hk.1 with h1|h1
   ·exact(by have:=z j B k p q h1 l;omega)
   ·have:=(b B k q l).2.2;omega
  ·rcases l.1 with h1|h1
   ·exact(by have:=z i j k a p hk h1;omega)
   ·have:=(b i k a hk).2.2;omega
  ·exact z i B k a q hk l
 ·intro i a
  rw[List.length_set] at a;by_cases e:j=i
  ·subst e
   rw[gt_set_eq _ _ _ a];simp only[if_true];exact r.mono hy (λk hk m=>⟨⟨hk,m⟩,m,rfl⟩)
  ·rw [gt_set_ne _ _ _ _ e]
   simp only[if_neg (λh:i=j=>e h.symm)];exact r.mono (D i a) (λk hk m=>⟨hk,Nat.lt_of_lt_of_le m A.size,A.block k m (λI=>e (z j i k p a I hk))⟩)
end
/-! ### append to such slices -/
section
variable {α:Type} [Inhabited α] {El:(Nat->Prop)->World->Value->α->Prop}{E:Nat}
theorem SlI.grow (w:RdOk El) {F:Nat->Prop}{g n w':World}{v z u:Value}{xs:List α}{y:α}{A:List Value}{G:Nat->Nat->Prop}(S:xs.length<=1000000)
  (q:A.length=xs.length) (hO:OwnV 0 E g v A) (hF:∀k,v.ownBlock=some k->F k) (L:∀i k,i<xs.length->G i k->F k/\v.ownBlock≠some k/\k<g.heap.size)
  (O:∀i j k,i<xs.length->j<xs.length->G i k->G j k->i=j) (H:∀i,i<xs.length->El (G i) g (gt A i) (gt xs i))
  (M:Ext g n) (P:El (From g.heap.size) n u y) (h1:OwnV 0 E w' z (A++[u])) (Q:(n.alloc (.cells #[u] E)).grownBy w' v.ownBlock) (I:z.ownBlock=v.ownBlock\/z.ownBlock=some (n.heap.size+1)) :
  SlI El E (λk=>F k\/g.heap.size<=k) w' z (xs++[y])/\g.grownBy w' v.ownBlock/\n.grownBy w' v.ownBlock:=by
 have J:Ext n (n.alloc (.cells #[u] E)):=World.grownBy_alloc _ _ _;have B:∀k,v.ownBlock=some k->k<g.heap.size:=λk hk=>(hO.lt k hk).2;have l:n.grownBy w' v.ownBlock:=grown_trans (grown_of_ext _ J) Q;have p:g.grownBy w' v.ownBlock:=grown_trans (grown_of_ext _ M) l
 have m:∀k,z.ownBlock=some k->v.ownBlock=some k\/n.heap.size<k:=by
  intro k hk;rcases I with h|h
  ·exact .inl (by rw[<-h];exact hk)
  ·rw[h] at hk;cases hk;exact .inr (by omega)
 have N:=M.size;refine⟨⟨A++[u],λi k=>if i<xs.length then G i k/\k<g.heap.size else g.heap.size<=k/\k<n.heap.size,by simp[q],by simp;omega,h1,?_,?_,?_,?_⟩,p,l⟩
 ·intro k hk
  rcases m k hk with h|h
  ·exact .inl (hF k h)
  ·exact .inr (by omega)
 ·intro i k D hk
  split at hk
  ·rename_i b
   obtain⟨a1,a2,a3⟩:=L i k b hk.1;refine⟨.inl a1,λr => ?_,Nat.lt_of_lt_of_le a3 p.size⟩;rcases m k r with h|h
   ·exact a2 h
   ·omega
  ·refine ⟨.inr hk.1,λr => ?_,Nat.lt_of_lt_of_le hk.2 l.size⟩
   rcases m k r with h|h
   ·have:=B k h;omega
   ·omega
 ·intro i j k D R hk C
  simp only[List.length_append,List.length_singleton] at D R;split at hk<;>split at C
  ·exact O i j k (by assumption) (by assumption) hk.1 C.1
  ·omega
  ·omega
  ·omega
 ·intro i D
  simp only[List.length_append,List.length_singleton] at D;by_cases b:i<xs.length
  ·rw [gt_append_left _ _ _ (by omega),gt_append_left _ _ _ b]
   simp only[if_pos b];exact w.mono (H i b) (λk hk a=>⟨⟨hk,a⟩,Nat.lt_of_lt_of_le a p.size,p.block k a (λe=>(L i k b hk).2.1 e.symm)⟩)
  ·have K:i=xs.length:=by omega
   subst K;rw[gt_concat,<-q,gt_concat];simp only[q,Nat.lt_irrefl,if_false]
   exact w.mono P (λk hk a=>⟨⟨hk,a⟩,Nat.lt_of_lt_of_le a l.size,l.block k a (λe=>by
    have hk:g.heap.size<=k:=hk;have:=B k e.symm;omega)⟩)
theorem wp_app_I (e:RdOk El) (T:Nat) (z:Value) (bytes:Nat) (K:Tryz.prog.underlying T=some (.slice E))
  (L:(Tryz.prog.info? E).map (λi=>(i.zero,i.size,i.bytes))=some (some z,1,bytes)) (r:z.cells.size=1) (A:bytes<=64)
  {g:Array Oper}{rest:List Oper}{o:Oper}{a:Act}{Q:Exit->Act->World->Prop}{w:World}(B:o.guard=none) (s x:Operand)
  (M:o.op=Op.call { callee:=Callee.builtin Builtin.append,args := #[s,x],argTypes := #[T,T] }) (F:Nat->Prop) (l b:World) (v u:Value) (xs:List α) (y:α) (N:a.eval s=v) (m:SlI El E F l v xs)
  (H:Ext l b) (I:El (From l.heap.size) b u y) (O:w=b.alloc (.cells #[u] E)) (hx:a.eval x=.slice (some ⟨b.heap.size,0,none⟩) 1 1) (n:xs.length<=1000000)
  (h:∀q w',SlI El E (λk=>F k\/l.heap.size<=k) w' q (xs++[y])->l.grownBy w' v.ownBlock->b.grownBy w' v.ownBlock->wpList Tryz.prog g Q rest (a.put o.dst q) w') :
  wpList Tryz.prog g Q (o :: rest) a w:=by
 subst O;obtain⟨J,G,hvl,_,hO,hF,hG,hd,hEx⟩:=m;have C:Ext b (b.alloc (.cells #[u] E)):=World.grownBy_alloc _ _ _;have D:OwnV 0 E (b.alloc (.cells #[u] E)) v J:=hO.kept (grown_trans H C) (by cases V:v.ownBlock<;>simp);refine wp_app T E z bytes K L r A B s x M 0 v J N D (some ⟨b.heap.size,0,none⟩) 1 1 [u] hx rfl (by simp) ?_ ?_ (by omega) (by omega) ?_
 ·intro j W
  have:j=0:=by omega
  subst this;exact⟨_,_,rfl,by rw[World.cell?_alloc_at _ _ _ _ rfl];rfl⟩
 ·intro X p
  simp at p;subst p;exact e.one I
 ·intro q w' P R _ S
  obtain⟨U,r2,r3⟩:=SlI.grow e n hvl hO hF hG hd hEx H I P R (by rcases S with k|k;exact .inl k;exact .inr (by rw[k];simp));exact h q w' U r2 r3
theorem step_app_I (e:RdOk El) (T:Nat) (z:Value) (bytes:Nat) (I:Tryz.prog.underlying T=some (.slice E))
  (J:(Tryz.prog.info? E).map (λi=>(i.zero,i.size,i.bytes))=some (some z,1,bytes)) (n:z.cells.size=1) (p:bytes<=64)
  {q:Array Oper}{o:Oper}{a:Act}{K:Act->World->Prop}{Q:Exit->Act->World->Prop}{L:Prop}{w:World}(r:o.guard=none) (s x:Operand)
  (M:o.op=Op.call { callee:=Callee.builtin Builtin.append,args := #[s,x],argTypes := #[T,T] }) (F:Nat->Prop) (g b:World) (v u:Value) (xs:List α) (y:α) (N:a.eval s=v) (j:SlI El E F g v xs)
  (C:Ext g b) (D:El (From g.heap.size) b u y) (O:w=b.alloc (.cells #[u] E)) (hx:a.eval x=.slice (some ⟨b.heap.size,0,none⟩) 1 1) (l:xs.length<=1000000)
  (h:∀m w',SlI El E (λk=>F k\/g.heap.size<=k) w' m (xs++[y])->g.grownBy w' v.ownBlock->b.grownBy w' v.ownBlock->K (a.put o.dst m) w') :
  if Region.wanted o (yielded q a.tmps)=true then Oper.wp Tryz.prog o a w K Q else L:=by
 subst O;obtain⟨H,G,hvl,_,hO,hF,hG,hd,hEx⟩:=j;have A:Ext b (b.alloc (.cells #[u] E)):=World.grownBy_alloc _ _ _;have B:OwnV 0 E (b.alloc (.cells #[u] E)) v H:=hO.kept (grown_trans C A) (by cases V:v.ownBlock<;>simp);refine step_app T E z bytes I J n p r s x M 0 v H N B b.heap.size u hx (by rw[World.cell?_alloc_at _ _ _ _ rfl];rfl) (e.one D) (by omega) (by omega) ?_;intro m w' P R S;obtain⟨U,r2,r3⟩:=SlI.grow e l hvl hO hF hG hd hEx C D P R (by rcases S with k|k;exact .inl k;exact .inr (by rw[k];simp));exact h m w' U r2 r3
end
theorem run_mk_ints (n:Nat) (j:n<=2147483648) (w:World):(Instr.makeSlice 24 (.int .i64 (n:Int)) (.int .i64 (n:Int))).run Tryz.prog w=.ok (.slice (some ⟨w.heap.size,0,none⟩) n n) (w.alloc (.cells (madeCells #[.int .i64 0] n) 2)):=by
 obtain⟨g,i,a,hz1,b⟩:=info_parts Tryz.infoInt;have e:=run_make (P:=Tryz.prog) w 24 2 g (.int .i64 0) und_ints i a .i64 .i64 n n (by omega) (Int.le_refl _) (by rw[b];omega) (by omega);simp only[Int.toNat_natCast,hz1,Nat.mul_one] at e;exact e
theorem own_mk_ints (n:Nat) (a:n<=2147483648) (w:World):Own w.heap.size (w.alloc (.cells (madeCells #[.int .i64 0] n) 2)) (.slice (some ⟨w.heap.size,0,none⟩) n n) (List.replicate n 0):=by
 have h:=World.ownsRow_lit (base:=w.heap.size) (e:=2) (size:=1) w (madeCells #[.int .i64 0] n) n (Nat.le_refl _) (by unfold maxLen;omega) (by have:=size_madeCells #[Value.int .i64 0] n;simpa using this);rw[toList_madeCells_one] at h;show World.ownsRow _ _ _ _ _ _ _
 rw[List.length_replicate,List.map_replicate];exact h
abbrev RowsI (F:Nat->Prop) (w:World) (v:Value) (xs:List (List Int)):Prop:=SlI OwnIn 24 F w v xs
abbrev Rows3I (F:Nat->Prop) (w:World) (v:Value) (xs:List (List (List Int))):Prop:=SlI (SlI OwnIn 24) 25 F w v xs
theorem rdRowsI:RdOk (λF w u (x:List (List Int))=>RowsI F w u x):=rdI rdOwn
theorem rdRows3I:RdOk (λF w u (x:List (List (List Int)))=>Rows3I F w u x):=rdI (rdI rdOwn)
theorem RowsI.rows {F:Nat->Prop}{w:World}{v:Value}{xs:List (List Int)}(h:RowsI F w v xs):Rows2 F w v xs:=RowsD.rows (SlI.d h)
theorem Rows3I.rows {F:Nat->Prop}{w:World}{v:Value}{xs:List (List (List Int))}(h:Rows3I F w v xs):Rows3 F w v xs:=Rows3D.rows (SlI.d (SlI.map (λ_ _ _ _ h=>SlI.d h) h))
def PresX (F:Nat->Prop) (w:World) (vo vp vc:Value) (P:Pr):Prop:=
 ∃Fo Fp Fc:Nat->Prop,OwnIn Fo w vo P.orders/\RowsI Fp w vp P.powers/\Rows3I Fc w vc P.conj/\(∀k,Fo k->F k/\¬Fp k/\¬Fc k)/\(∀k,Fp k->F k/\¬Fc k)/\(∀k,Fc k->F k)
theorem PresX.p3 {F:Nat->Prop}{w:World}{vo vp vc:Value}{P:Pr}(h:PresX F w vo vp vc P):Pres3 F w vo vp vc P:=by
 obtain⟨Fo,Fp,Fc,h1,a,b,e,g,h6⟩:=h;exact⟨Ints.sub h1.ints (λk hk _=>(e k hk).1),Rows2.sub (RowsI.rows a) (λk hk _=>(g k hk).1),Rows3.sub (Rows3I.rows b) (λk hk _=>h6 k hk)⟩
theorem PresX.mono {F F':Nat->Prop}{w w':World}{vo vp vc:Value}{P:Pr}(h:PresX F w vo vp vc P) (b:∀k,F k->k<w.heap.size->F' k/\k<w'.heap.size/\w'.heap[k]? = w.heap[k]?):PresX F' w' vo vp vc P:=by
 obtain⟨Fo,Fp,Fc,h1,h2,h3,e,g,i⟩:=h
 refine ⟨λk=>Fo k/\k<w.heap.size,λk=>Fp k/\k<w.heap.size,λk=>Fc k/\k<w.heap.size,rdOwn.mono h1 (λk hk a=>⟨⟨hk,a⟩,(b k (e k hk).1 a).2⟩),
  rdRowsI.mono h2 (λk hk a=>⟨⟨hk,a⟩,(b k (g k hk).1 a).2⟩),rdRows3I.mono h3 (λk hk a=>⟨⟨hk,a⟩,(b k (i k hk) a).2⟩),λk hk => ?_,λk hk => ?_,λk hk => ?_⟩
 ·exact⟨(b k (e k hk.1).1 hk.2).1,λh=>(e k hk.1).2.1 h.1,λh=>(e k hk.1).2.2 h.1⟩
 ·exact⟨(b k (g k hk.1).1 hk.2).1,λh=>(g k hk.1).2 h.1⟩
 ·exact(b k (i k hk.1) hk.2).1
theorem PresX.shape {F:Nat->Prop}{w:World}{vo vp vc:Value}{P:Pr}(h:PresX F w vo vp vc P):∃a c a2 c2 b c3,vo=.slice a P.orders.length c/\vp=.slice a2 P.powers.length c2/\vc=.slice b P.conj.length c3:=by
 obtain⟨Fo,Fp,Fc,h1,e,g,_⟩:=h;obtain⟨a,c,rfl,_⟩:=h1.ints.shape;obtain⟨a2,c2,rfl,_⟩:=SlD.shape (SlI.d e);obtain⟨b,c3,rfl,_⟩:=SlD.shape (SlI.d g);exact⟨_,_,_,_,_,_,rfl,rfl,rfl⟩
theorem PresX.wide {F F':Nat->Prop}{w:World}{vo vp vc:Value}{P:Pr}(h:PresX F w vo vp vc P) (hF:∀k,F k->F' k):PresX F' w vo vp vc P:=by
 obtain⟨Fo,Fp,Fc,h1,h2,h3,a,b,e⟩:=h;exact⟨Fo,Fp,Fc,h1,h2,h3,λk hk=>⟨hF k (a k hk).1,(a k hk).2⟩,λk hk=>⟨hF k (b k hk).1,(b k hk).2⟩,λk hk=>hF k (e k hk)⟩
theorem PresX.put {F:Nat->Prop}{w w':World}{vo vp vc:Value}{j:Pr}{Fo Fp Fc Fo' Fp' Fc':Nat->Prop}(r:Option Nat) (_hT:w.grownBy w' r)
  (h1:OwnIn Fo' w' vo j.orders) (q:RowsI Fp' w' vp j.powers) (u:Rows3I Fc' w' vc j.conj)
  (n:∀k,Fo k->F k/\¬Fp k/\¬Fc k) (p:∀k,Fp k->F k/\¬Fc k) (v:∀k,Fc k->F k)
  (g:(∀k,Fo' k->Fo k/\k<w.heap.size)) (l:(∀k,Fp' k->Fp k/\k<w.heap.size\/w.heap.size<=k)) (m:(∀k,Fc' k->Fc k/\k<w.heap.size\/w.heap.size<=k)) (i:(∀k,Fp' k->k<w.heap.size)\/(∀k,Fc' k->k<w.heap.size)) :
  PresX (λk=>F k\/w.heap.size<=k) w' vo vp vc j:=by
 refine⟨Fo',Fp',Fc',h1,q,u,λk hk=>⟨.inl (n k (g k hk).1).1,λe => ?_,λe => ?_⟩,λk hk=>⟨?_,λe => ?_⟩,λk hk => ?_⟩
 ·rcases l k e with e|e
  ·exact(n k (g k hk).1).2.1 e.1
  ·have:=(g k hk).2;omega
 ·rcases m k e with e|e
  ·exact(n k (g k hk).1).2.2 e.1
  ·have:=(g k hk).2;omega
 ·rcases l k hk with e|e
  ·exact .inl (p k e.1).1
  ·exact .inr e
 ·rcases i with i|i
  ·have a:=i k hk
   rcases l k hk with b|b
   ·rcases m k e with c|c
    ·exact(p k b.1).2 c.1
    ·omega
   ·omega
  ·have a:=i k e
   rcases m k e with c|c
   ·rcases l k hk with b|b
    ·exact(p k b.1).2 c.1
    ·omega
   ·omega
 ·rcases m k hk with e|e
  ·exact .inl (v k e.1)
  ·exact .inr e
theorem PresX.openP {F:Nat->Prop}{b:World}{vo vp vc:Value}{P:Pr}(h:PresX F b vo vp vc P) (i:Nat) (q:i<P.powers.length) :
  ∃ g cap z,vp=.slice (some ⟨g,0,none⟩) P.powers.length cap/\F g/\g<b.heap.size/\b.cell? ⟨g,i,none⟩=some z/\(∀j,j<P.powers.length->b.frozen? ⟨g,j,none⟩=false) /\
   ∀m u y,Ext b m->OwnIn (From b.heap.size) m u y->PresX (λk=>F k\/b.heap.size<=k) (m.setCell ⟨g,i,none⟩ u) vo vp vc { P with powers:=P.powers.set i y } :=by
 obtain⟨Fo,Fp,Fc,h1,p,A,v,r,h6⟩:=h;rcases SlI.form p with⟨_,e⟩|⟨g,cap,rfl,l,hgl⟩
 ·rw[e] at q;simp at q
 obtain⟨⟨z,hz⟩,_⟩:=SlI.place p i q;refine⟨g,cap,z,rfl,(r g l).1,hgl,hz,λj B=>(SlI.place p j B).2,λm u y w C => ?_⟩;obtain⟨D,E⟩:=SlI.store rdOwn p w C i;have n:b.grownBy (m.setCell ⟨g,i,none⟩ u) (some g):=grown_trans (grown_of_ext _ w) E
 exact PresX.put (Fo':=λk=>Fo k/\k<b.heap.size) (Fp':=λk=>Fp k/\k<b.heap.size\/b.heap.size<=k) (Fc':=λk=>Fc k/\k<b.heap.size) (some g) n
  (rdOwn.mono h1 (λk hk a=>⟨⟨hk,a⟩,Nat.lt_of_lt_of_le a n.size,n.block k a (λe=>(v k hk).2.1 (by cases e;exact l))⟩))
  (rdRowsI.mono D (λk hk a=>⟨by
   rcases hk with hk|hk
   ·rcases Nat.lt_or_ge k b.heap.size with h|h
    ·exact .inl ⟨hk,h⟩
    ·exact .inr h
   ·exact .inr hk,a,rfl⟩))
  (rdRows3I.mono A (λk hk a=>⟨⟨hk,a⟩,Nat.lt_of_lt_of_le a n.size,n.block k a (λe=>(r g l).2 (by cases e;exact hk))⟩))
  v r h6 (λ_ h=>h) (λ_ h=>h) (λ_ h => .inl h) (.inr (λ_ h=>h.2))
theorem PresX.openC {F:Nat->Prop}{l:World}{vo vp vc:Value}{P:Pr}(h:PresX F l vo vp vc P) (i j:Nat) (B:i<P.conj.length) (C:j<(gt P.conj i).length) :
  ∃ g cap b m z,vc=.slice (some ⟨g,0,none⟩) P.conj.length cap/\F g/\g<l.heap.size/\l.cell? ⟨g,i,none⟩=some (.slice (some ⟨b,0,none⟩) (gt P.conj i).length m)/\F b/\b≠g/\b<l.heap.size /\
   l.cell? ⟨b,j,none⟩=some z/\l.frozen? ⟨b,j,none⟩=false /\
   ∀r u y,Ext l r->OwnIn (From l.heap.size) r u y->PresX (λk=>F k\/l.heap.size<=k) (r.setCell ⟨b,j,none⟩ u) vo vp vc { P with conj:=P.conj.set i ((gt P.conj i).set j y) } :=by
 obtain⟨Fo,Fp,Fc,h1,I,D,E,G,h6⟩:=h;rcases SlI.form D with⟨_,e⟩|⟨g,cap,rfl,hFg,hgl⟩
 ·rw[e] at B;simp at B
 obtain⟨v,Gj,hc,n,A,hturn⟩:=SlI.turn (rdI rdOwn) D i B;rcases SlI.form n with⟨_,e⟩|⟨b,m,rfl,p,hbl⟩
 ·rw[e] at C;simp at C
 obtain⟨⟨z,hz⟩,hpf⟩:=SlI.place n j C;have q:=(A b p).1;refine⟨g,cap,b,m,z,rfl,h6 g hFg,hgl,hc,h6 b q,(A b p).2.1,hbl,hz,hpf,λr u y H J => ?_⟩;obtain⟨K,L⟩:=SlI.store rdOwn n H J j;have w:l.grownBy (r.setCell ⟨b,j,none⟩ u) (some b):=grown_trans (grown_of_ext _ H) L;have M:=hturn (r.setCell ⟨b,j,none⟩ u) _ (Touch.of w (λk hk=>by cases hk;exact p)) K
 exact PresX.put (Fo':=λk=>Fo k/\k<l.heap.size) (Fp':=λk=>Fp k/\k<l.heap.size) (Fc':=λk=>Fc k/\k<l.heap.size\/l.heap.size<=k) (some b) w
  (rdOwn.mono h1 (λk hk a=>⟨⟨hk,a⟩,Nat.lt_of_lt_of_le a w.size,w.block k a (λe=>(E k hk).2.2 (by cases e;exact q))⟩))
  (rdRowsI.mono I (λk hk a=>⟨⟨hk,a⟩,Nat.lt_of_lt_of_le a w.size,w.block k a (λe=>(G k hk).2 (by cases e;exact q))⟩))
  (rdRows3I.mono M (λk hk a=>⟨by
   rcases hk with hk|hk
   ·rcases Nat.lt_or_ge k l.heap.size with h|h
    ·exact .inl ⟨hk,h⟩
    ·exact .inr h
   ·exact .inr hk,a,rfl⟩))
  E G h6 (λ_ h=>h) (λ_ h => .inl h) (λ_ h=>h) (.inl (λ_ h=>h.2))
theorem PresX.openPI {F:Nat->Prop}{l:World}{vo vp vc:Value}{P:Pr}(h:PresX F l vo vp vc P) (i j:Nat) (A:i<P.powers.length) (G:j<(gt P.powers i).length) :
  ∃ g cap b m,vp=.slice (some ⟨g,0,none⟩) P.powers.length cap/\F g/\g<l.heap.size/\l.cell? ⟨g,i,none⟩=some (.slice (some ⟨b,0,none⟩) (gt P.powers i).length m)/\F b/\b≠g/\b<l.heap.size /\
   l.cell? ⟨b,j,none⟩=some (.int .i64 (gt (gt P.powers i) j))/\(∀n,Ext l n->n.frozen? ⟨b,j,none⟩=false) /\
   ∀n x,Ext l n->PresX (λk=>F k\/l.heap.size<=k) (n.setCell ⟨b,j,none⟩ (.int .i64 x)) vo vp vc { P with powers:=P.powers.set i ((gt P.powers i).set j x) } :=by
 obtain⟨Fo,Fp,Fc,h1,C,H,D,w,h6⟩:=h;rcases SlI.form C with⟨_,e⟩|⟨g,cap,rfl,B,hgl⟩
 ·rw[e] at A;simp at A
 obtain⟨v,Gj,hc,hEl,u,hturn⟩:=SlI.turn rdOwn C i A;obtain⟨y,E,q3⟩:=hEl;obtain⟨b,m,rfl,_,hbl⟩:=y.form (by omega);have p:=E b rfl;have q:=(u b p).1;refine⟨g,cap,b,m,rfl,(w g B).1,hgl,hc,(w b q).1,(u b p).2.1,hbl,y.cell j G,λn z=>(y.ext0 z).frozen j,λn x z => ?_⟩;obtain⟨I,J⟩:=(y.ext0 z).store j x;have r:l.grownBy (n.setCell ⟨b,j,none⟩ (.int .i64 x)) (some b):=grown_trans (grown_of_ext _ z) J;have K:=hturn (n.setCell ⟨b,j,none⟩ (.int .i64 x)) _ (Touch.of r (λk hk=>by cases hk;exact p)) (⟨I,λk hk => .inl (E k hk),by rw[List.length_set];exact q3⟩:OwnIn (λk=>Gj k\/l.heap.size<=k) _ _ ((gt P.powers i).set j x))
 exact PresX.put (Fo':=λk=>Fo k/\k<l.heap.size) (Fp':=λk=>Fp k/\k<l.heap.size\/l.heap.size<=k) (Fc':=λk=>Fc k/\k<l.heap.size) (some b) r
  (rdOwn.mono h1 (λk hk a=>⟨⟨hk,a⟩,Nat.lt_of_lt_of_le a r.size,r.block k a (λe=>(D k hk).2.1 (by cases e;exact q))⟩))
  (rdRowsI.mono K (λk hk a=>⟨by
   rcases hk with hk|hk
   ·rcases Nat.lt_or_ge k l.heap.size with h|h
    ·exact .inl ⟨hk,h⟩
    ·exact .inr h
   ·exact .inr hk,a,rfl⟩))
  (rdRows3I.mono H (λk hk a=>⟨⟨hk,a⟩,Nat.lt_of_lt_of_le a r.size,r.block k a (λe=>(w b q).2 (by cases e;exact hk))⟩))
  D w h6 (λ_ h=>h) (λ_ h=>h) (λ_ h => .inl h) (.inr (λ_ h=>h.2))
theorem PresX.openCI {F:Nat->Prop}{l:World}{vo vp vc:Value}{P:Pr}(h:PresX F l vo vp vc P) (i k j:Nat) (D:i<P.conj.length) (hk:k<(gt P.conj i).length) (L:j<(gt (gt P.conj i) k).length) :
  ∃ g cap e m b n,vc=.slice (some ⟨g,0,none⟩) P.conj.length cap/\F g/\g<l.heap.size/\l.cell? ⟨g,i,none⟩=some (.slice (some ⟨e,0,none⟩) (gt P.conj i).length m)/\F e/\e<l.heap.size /\
   l.cell? ⟨e,k,none⟩=some (.slice (some ⟨b,0,none⟩) (gt (gt P.conj i) k).length n)/\F b/\b≠g/\b≠e/\b<l.heap.size/\l.cell? ⟨b,j,none⟩=some (.int .i64 (gt (gt (gt P.conj i) k) j))/\(∀p,Ext l p->p.frozen? ⟨b,j,none⟩=false) /\
   ∀p x,Ext l p->PresX (λk=>F k\/l.heap.size<=k) (p.setCell ⟨b,j,none⟩ (.int .i64 x)) vo vp vc { P with conj:=P.conj.set i ((gt P.conj i).set k ((gt (gt P.conj i) k).set j x)) } :=by
 obtain⟨Fo,Fp,Fc,h1,M,H,I,J,h6⟩:=h;rcases SlI.form H with⟨_,e⟩|⟨g,cap,rfl,hFg,hgl⟩
 ·rw[e] at D;simp at D
 obtain⟨v,Gj,hc,z,q,hturn⟩:=SlI.turn (rdI rdOwn) H i D;rcases SlI.form z with⟨_,e⟩|⟨e,m,rfl,E,hel⟩
 ·rw[e] at hk;simp at hk
 obtain⟨R,Hj,hc2,Cp,A,Cq⟩:=SlI.turn rdOwn z k hk;obtain⟨B,K,q3⟩:=Cp;obtain⟨b,n,rfl,_,hbl⟩:=B.form (by omega);have r:=K b rfl;have u:=(A b r).1;have w:=(q b u).1;refine⟨g,cap,e,m,b,n,rfl,h6 g hFg,hgl,hc,h6 e (q e E).1,hel,hc2,h6 b w,(q b u).2.1,(A b r).2.1,hbl,B.cell j L,λp C=>(B.ext0 C).frozen j,λp x C => ?_⟩;obtain⟨N,O⟩:=(B.ext0 C).store j x;have y:l.grownBy (p.setCell ⟨b,j,none⟩ (.int .i64 x)) (some b):=grown_trans (grown_of_ext _ C) O;have G:=Cq (p.setCell ⟨b,j,none⟩ (.int .i64 x)) _ (Touch.of y (λk hk=>by cases hk;exact r)) (⟨N,λk hk => .inl (K k hk),by rw[List.length_set];exact q3⟩:OwnIn (λk=>Hj k\/l.heap.size<=k) _ _ ((gt (gt P.conj i) k).set j x));have Q:=hturn (p.setCell ⟨b,j,none⟩ (.int .i64 x)) _ (Touch.of y (λk hk=>by cases hk;exact u)) G
 exact PresX.put (Fo':=λk=>Fo k/\k<l.heap.size) (Fp':=λk=>Fp k/\k<l.heap.size) (Fc':=λk=>Fc k/\k<l.heap.size\/l.heap.size<=k) (some b) y
  (rdOwn.mono h1 (λk hk a=>⟨⟨hk,a⟩,Nat.lt_of_lt_of_le a y.size,y.block k a (λe=>(I k hk).2.2 (by cases e;exact w))⟩))
  (rdRowsI.mono M (λk hk a=>⟨⟨hk,a⟩,Nat.lt_of_lt_of_le a y.size,y.block k a (λe=>(J k hk).2 (by cases e;exact w))⟩))
  (rdRows3I.mono Q (λk hk a=>⟨by
   rcases hk with hk|hk
   ·rcases Nat.lt_or_ge k l.heap.size with h|h
    ·exact .inl ⟨hk,h⟩
    ·exact .inr h
   ·exact .inr hk,a,rfl⟩))
  I J h6 (λ_ h=>h) (λ_ h => .inl h) (λ_ h=>h) (.inl (λ_ h=>h.2))
structure Shp (N:Nat) (P:Pr):Prop where
 n:P.orders.length<=N
 p:P.powers.length=P.orders.length
 c:P.conj.length=P.orders.length
 cl:∀i,i<P.orders.length->(gt P.conj i).length=P.orders.length-1-i
 pv:∀v∈P.powers,v.length<=N
 cv:∀r∈P.conj,∀v∈r,v.length<=N
def setP (P:Pr) (i:Nat) (v:List Int):Pr := { P with powers:=P.powers.set i v }
def setC (P:Pr) (i j:Nat) (v:List Int):Pr := { P with conj:=P.conj.set i ((gt P.conj i).set j v) }
theorem mem_set_or {α:Type}{l:List α}{i:Nat}{a b:α}(h:b∈l.set i a):b=a\/b∈l:=by
 rcases List.mem_or_eq_of_mem_set h with h|h
 ·exact .inr h
 ·exact .inl h
theorem Shp.setP {N:Nat}{P:Pr}(h:Shp N P) (i:Nat) {v:List Int}(a:v.length<=N):Shp N (setP P i v):=
 ⟨h.n,by show(P.powers.set i v).length=_;rw[List.length_set];exact h.p,h.c,h.cl,λx hx=>by
  rcases mem_set_or hx with e|e
  ·rw[e];exact a
  ·exact h.pv x e,h.cv⟩
theorem Shp.setC {N:Nat}{P:Pr}(h:Shp N P) (i j:Nat) (g:i<P.orders.length) {v:List Int}(l:v.length<=N):Shp N (setC P i j v):=by
 have a:i<P.conj.length:=by rw[h.c];exact g
 refine⟨h.n,h.p,by show(P.conj.set i _).length=_;rw[List.length_set];exact h.c,λk hk => ?_,h.pv,λr m x hx => ?_⟩
 ·show (gt (P.conj.set i _) k).length=_
  by_cases e:i=k
  ·subst e
   rw[gt_set_eq _ _ _ a,List.length_set];exact h.cl i g
  ·rw[gt_set_ne _ _ _ _ e];exact h.cl k hk
 ·rcases mem_set_or m with e|e
  ·rw [e] at hx
   rcases mem_set_or hx with b|b
   ·rw[b];exact l
   ·exact h.cv _ (by rw[gt_eq _ i a];exact List.getElem_mem a) x b
  ·exact h.cv r e x hx
theorem Shp.mono {N M:Nat}{P:Pr}(h:Shp N P) (a:N<=M):Shp M P:=⟨Nat.le_trans h.n a,h.p,h.c,h.cl,λv b=>Nat.le_trans (h.pv v b) a,λr e v b=>Nat.le_trans (h.cv r e v b) a⟩
def trivC (n i:Nat):List (List Int):=(List.range (n-1-i)).map (λk=>unitV n (i+1+k))
def trivP (o:List Int):Pr:=⟨o,List.replicate o.length (zeros o.length),(List.range o.length).map (trivC o.length)⟩
theorem trivC_len (n i:Nat):(trivC n i).length=n-1-i:=by unfold trivC;simp
theorem unitV_len (n k:Nat):(unitV n k).length=n:=by unfold unitV;simp
theorem zeros_len (n:Nat):(zeros n).length=n:=by unfold zeros;simp
theorem trivP_shp (o:List Int) {N:Nat}(h:o.length<=N):Shp N (trivP o):=by
 refine⟨h,by simp[trivP],by simp[trivP],λi e => ?_,λv b => ?_,λr g v b => ?_⟩
 ·have a:i<o.length:=e
  show(gt ((List.range o.length).map (trivC o.length)) i).length=o.length-1-i
  rw[gt_map _ _ _ (by simpa using a),gt_eq _ _ (by simpa using a),List.getElem_range,trivC_len]
 ·have:=List.eq_of_mem_replicate b
  rw[this,zeros_len];exact h
 ·obtain ⟨i,_,rfl⟩:=List.mem_map.1 g
  obtain⟨k,_,rfl⟩:=List.mem_map.1 b;rw[unitV_len];exact h
end Go.Proofs.YtdcobapnlpeaaaaGreat
namespace Go.Proofs.YtdcobapnlpeaaaaGreat
open Go.RowKit
attribute [local go_sem ↓] Go.wp_at_zero Go.wp_at_succ
def PresR (B:Nat) (P:Pr) (w':World) (v:Value):Prop:=∃vo vp vc,v=.agg #[vo,vp,vc]/\PresX (From B) w' vo vp vc P
structure Part3 (F:Nat->Prop) (w:World) (vo vp vc:Value) (P:Pr) (Fo Fp Fc:Nat->Prop):Prop where
 o:OwnIn Fo w vo P.orders
 p:RowsI Fp w vp P.powers
 c:Rows3I Fc w vc P.conj
 do_:∀k,Fo k->F k/\¬Fp k/\¬Fc k
 dp:∀k,Fp k->F k/\¬Fc k
 dc:∀k,Fc k->F k
theorem PresX.part {F:Nat->Prop}{w:World}{vo vp vc:Value}{P:Pr}(h:PresX F w vo vp vc P):∃Fo Fp Fc,Part3 F w vo vp vc P Fo Fp Fc:=by
 obtain⟨Fo,Fp,Fc,h1,h2,h3,h4,h5,h6⟩:=h;exact⟨Fo,Fp,Fc,h1,h2,h3,h4,h5,h6⟩
theorem SlI.sl {α:Type} [Inhabited α] {El:(Nat->Prop)->World->Value->α->Prop}{E:Nat}{F:Nat->Prop}{w:World}{v:Value}{xs:List α}(h:SlI El E F w v xs):∃a n c,v=.slice a n c/\n=xs.length:=by
 rcases h.form with⟨rfl,rfl⟩|⟨g,cap,rfl,_⟩
 ·exact⟨_,_,_,rfl,rfl⟩
 ·exact⟨_,_,_,rfl,rfl⟩
theorem PresX.sh2 {F:Nat->Prop}{w:World}{vo vp vc:Value}{P:Pr}(h:PresX F w vo vp vc P):∃a2 b c2 a e c3,vp=.slice a2 b c2/\vc=.slice a e c3/\b=P.powers.length/\e=P.conj.length:=by
 obtain⟨_,_,a2,c2,a,c3,_,h2,h3⟩:=h.shape;exact⟨a2,_,c2,a,_,c3,h2,h3,rfl,rfl⟩
theorem Part3.newP {F:Nat->Prop}{w w':World}{vo vp vc g:Value}{P:Pr}{Fo Fp Fc:Nat->Prop}(h:Part3 F w vo vp vc P Fo Fp Fc) {L:List (List Int)}(j:RowsI (λk=>Fp k\/w.heap.size<=k) w' g L) (b:w.grownBy w' vp.ownBlock) :
  PresX (λk=>F k\/w.heap.size<=k) w' vo g vc { P with powers:=L } :=by
 have i:∀k,vp.ownBlock=some k->Fp k:=by
  obtain⟨_,_,_,_,_,h1,_⟩:=h.p;exact h1
 refine ⟨λk=>Fo k/\k<w.heap.size,λk=>Fp k/\k<w.heap.size\/w.heap.size<=k,λk=>Fc k/\k<w.heap.size,
  rdOwn.mono h.o (λk hk a=>⟨⟨hk,a⟩,Nat.lt_of_lt_of_le a b.size,b.block k a (λe=>(h.do_ k hk).2.1 (i k e.symm))⟩),
  rdRowsI.mono j (λk hk a=>⟨?_,a,rfl⟩),
  rdRows3I.mono h.c (λk hk a=>⟨⟨hk,a⟩,Nat.lt_of_lt_of_le a b.size,b.block k a (λe=>(h.dp k (i k e.symm)).2 hk)⟩),
  λk hk=>⟨.inl (h.do_ k hk.1).1,λe => ?_,λe=>(h.do_ k hk.1).2.2 e.1⟩,λk hk=>⟨?_,λe => ?_⟩,λk hk => .inl (h.dc k hk.1)⟩
 ·rcases hk with hk|hk
  ·rcases Nat.lt_or_ge k w.heap.size with h|h
   ·exact .inl ⟨hk,h⟩
   ·exact .inr h
  ·exact .inr hk
 ·rcases e with e|e
  ·exact(h.do_ k hk.1).2.1 e.1
  ·omega
 ·rcases hk with hk|hk
  ·exact .inl (h.dp k hk.1).1
  ·exact .inr hk
 ·rcases hk with hk|hk
  ·exact(h.dp k hk.1).2 e.1
  ·omega
theorem Part3.newC {F:Nat->Prop}{w w':World}{vo vp vc g:Value}{P:Pr}{Fo Fp Fc:Nat->Prop}(h:Part3 F w vo vp vc P Fo Fp Fc) {L:List (List (List Int))}(j:Rows3I (λk=>Fc k\/w.heap.size<=k) w' g L) (b:w.grownBy w' vc.ownBlock) :
  PresX (λk=>F k\/w.heap.size<=k) w' vo vp g { P with conj:=L } :=by
 have i:∀k,vc.ownBlock=some k->Fc k:=by
  obtain⟨_,_,_,_,_,h1,_⟩:=h.c;exact h1
 refine ⟨λk=>Fo k/\k<w.heap.size,λk=>Fp k/\k<w.heap.size,λk=>Fc k/\k<w.heap.size\/w.heap.size<=k,
  rdOwn.mono h.o (λk hk a=>⟨⟨hk,a⟩,Nat.lt_of_lt_of_le a b.size,b.block k a (λe=>(h.do_ k hk).2.2 (i k e.symm))⟩),
  rdRowsI.mono h.p (λk hk a=>⟨⟨hk,a⟩,Nat.lt_of_lt_of_le a b.size,b.block k a (λe=>(h.dp k hk).2 (i k e.symm))⟩),
  rdRows3I.mono j (λk hk a=>⟨?_,a,rfl⟩),
  λk hk=>⟨.inl (h.do_ k hk.1).1,λe=>(h.do_ k hk.1).2.1 e.1,λe => ?_⟩,λk hk=>⟨.inl (h.dp k hk.1).1,λe => ?_⟩,λk hk => ?_⟩
 ·rcases hk with hk|hk
  ·rcases Nat.lt_or_ge k w.heap.size with h|h
   ·exact .inl ⟨hk,h⟩
   ·exact .inr h
  ·exact .inr hk
 ·rcases e with e|e
  ·exact(h.do_ k hk.1).2.2 e.1
  ·omega
 ·rcases e with e|e
  ·exact(h.dp k hk.1).2 e.1
  ·omega
 ·rcases hk with hk|hk
  ·exact .inl (h.dc k hk.1)
  ·exact .inr hk
theorem presX_start {w:World}{vo:Value}{o:List Int}{B:Nat}(h:Own B w vo o) (a:o.length<=1000):PresX (From B) w vo (.slice none 0 0) (.slice none 0 0) ⟨o,[],[]⟩:=
 ⟨λk=>vo.ownBlock=some k,λ_=>False,λ_=>False,⟨h.weak (Nat.zero_le _),λ_ hk=>hk,by show o.length<=_;omega⟩,
  ⟨[],λ_ _=>False,rfl,by simp,World.ownsRow_nil _ _ _ _,by simp[Value.ownBlock],by simp,by simp,by simp⟩,⟨[],λ_ _=>False,rfl,by simp,World.ownsRow_nil _ _ _ _,by simp[Value.ownBlock],by simp,by simp,by simp⟩,
  λk hk=>⟨(h.lt k hk).1,λh=>h,λh=>h⟩,λ_ h=>h.elim,λ_ h=>h.elim⟩
theorem l07Trivial_ok (w:World) (ov:Value) (o:List Int) (S:Nat->Prop) (ho:Ints S w ov o) (hl:o.length<=100) :
  Calls Tryz.prog 292 #[ov] w (Ret w (PresR w.heap.size (trivP o))):=by
 obtain⟨ao,capo,rfl,_,_⟩:=ho.shape;have T:Ext w (w.alloc (.cells #[.slice none 0 0,.slice none 0 0,.slice none 0 0] 28)):=World.grownBy_alloc _ _ _;have U:=Box3.made w 28 (.slice none 0 0) (.slice none 0 0) (.slice none 0 0);have m:=l01Own_ok (w.alloc (.cells #[.slice none 0 0,.slice none 0 0,.slice none 0 0] 28)) _ o S (ho.ext T) (by omega);have aG:=Lib.hid U;clear U;go_enter Tryz.func292,Tryz.ntmps292;go_wp2_with fail
 have H:(w.alloc (.cells #[.slice none 0 0,.slice none 0 0,.slice none 0 0] 28)).heap.size=w.heap.size+1:=by simp
 rw[H] at m;generalize w.alloc (.cells #[.slice none 0 0,.slice none 0 0,.slice none 0 0] 28)=w0 at *;refine Calls.mono m ?_;rintro e1 a ⟨v1,rfl,hg1,I⟩;clear m;obtain⟨a1,c1,jX,_⟩:=(I.ints (by omega)).shape;subst jX;go_wp2_with fail
 have V:=Box3.made a 28 (.slice a1 o.length c1) (.slice none 0 0) (.slice none 0 0);have J:Ext a (a.alloc (.cells #[.slice a1 o.length c1,.slice none 0 0,.slice none 0 0] 28)):=World.grownBy_alloc _ _ _
 have W:PresX (λk=>w.heap.size+1<=k/\k≠a.heap.size) (a.alloc (.cells #[.slice a1 o.length c1,.slice none 0 0,.slice none 0 0] 28)) (.slice a1 o.length c1) (.slice none 0 0) (.slice none 0 0) ⟨o,[],[]⟩:=
  (presX_start I (by omega)).mono (λk hk b=>⟨⟨hk,by omega⟩,Nat.lt_of_lt_of_le b J.size,J.block k b (by simp)⟩)
 have X:=hg1.size;have P:=Lib.hid (And.intro H X);clear H X I;generalize a.alloc (.cells #[.slice a1 o.length c1,.slice none 0 0,.slice none 0 0] 28)=w2 at *
 go_loopw [5] (λiv wr=>∃(i:Nat) (vp vc:Value),iv=.int .i64 i/\i<=o.length/\Ext w0 wr/\Box3 wr a.heap.size (.slice a1 o.length c1) vp vc /\
  PresX (λk=>w.heap.size+1<=k/\k≠a.heap.size) wr (.slice a1 o.length c1) vp vc ⟨o,List.replicate i (zeros o.length),(List.range i).map (trivC o.length)⟩) (λiv _=>o.length-(intOf iv).toNat)
 case atStart=>exact⟨0,_,_,rfl,by omega,grown_trans hg1 J,V,W⟩
 case round=>
  clear V W;obtain⟨i,vp,vc,rfl,hi,hg,hB,hX⟩:=hrel;by_cases b:i<o.length
  ·have aY:(i:Int)<o.length:=by omega
   obtain⟨Fo,Fp,Fc,hP⟩:=hX.part;obtain⟨a2,Y,c2,Q,R,c3,rfl,rfl,y,z⟩:=hX.sh2
   have n:(Value.slice a2 Y c2).ownBlock≠some a.heap.size:=by
    obtain⟨_,_,_,_,_,K,_⟩:=hP.p;exact λe=>(hP.dp _ (K _ e)).1.2 rfl
   have HN:=Lib.hid (And.intro y (And.intro n z));clear y z n;obtain⟨h0,h1,h2,h3,h4⟩:=id hB;have aI:=run_mk_ints o.length (by omega);have Z:Ext wr (wr.alloc (.cells (madeCells #[.int .i64 0] o.length) 2)).drew:=grown_trans (World.grownBy_alloc _ _ _) (grown_drew _ _)
   have aa:OwnIn (From wr.heap.size) (wr.alloc (.cells (madeCells #[.int .i64 0] o.length) 2)).drew (.slice (some ⟨wr.heap.size,0,none⟩) o.length o.length) (zeros o.length):=by
    have:=(own_mk_ints o.length (by omega) wr).ext0 (grown_drew _ none);exact OwnIn.of this (by rw[zeros_len];omega) (λk hk _=>hk)
   have ab:(List.replicate i (zeros o.length)).length<=1000000:=by simp;omega
   have ac:(Value.slice (some ⟨wr.heap.size+1,0,none⟩) 1 1)=.slice (some ⟨(wr.alloc (.cells (madeCells #[.int .i64 0] o.length) 2)).drew.heap.size,0,none⟩) 1 1:=by simp
   have HM:=Lib.hid (And.intro Z (And.intro aa (And.intro ab ac)));clear Z aa ab ac;go_wp2_with fail
   go_region_law (refine step_app_I rdOwn 25 (.slice none 0 0) 24 und_rows Tryz.infoRow rfl (by decide) (by rfl) _ _ (by rfl) Fp wr (wr.alloc (.cells (madeCells #[.int .i64 0] o.length) 2)).drew _ _ (List.replicate i (zeros o.length)) (zeros o.length) (by rfl) hP.p HM.out.1 HM.out.2.1 (by rfl) (by exact HM.out.2.2.2) HM.out.2.2.1 ?_;intro v5 L q g ae;obtain⟨C,m5,D,rfl,af⟩:=SlI.sl q;have aJ:m5=i+1:=(by rw[af];simp);clear af;subst aJ;have M:=Box3.keep hB g.size (g.block _ hB.1 (λe=>HN.out.2.1 e.symm));obtain⟨f0,f1,f2,f3,f4⟩:=id M)
   all_goals
    have ag:=(M.put (.slice C (i+1) D)).2.1;have N:=grown_set L a.heap.size 1 (.slice C (i+1) D)
    have ah:PresX (λk=>w.heap.size+1<=k/\k≠a.heap.size) (L.setCell ⟨a.heap.size,1,none⟩ (.slice C (i+1) D)) (.slice a1 o.length c1) (.slice C (i+1) D) (.slice Q R c3) ⟨o,List.replicate (i+1) (zeros o.length),(List.range i).map (trivC o.length)⟩:=by
     have aK:=hP.newP q g;rw[show List.replicate (i+1) (zeros o.length)=List.replicate i (zeros o.length)++[zeros o.length] from List.replicate_succ']
     exact aK.mono (frame_of N (λk hk b=>by
      have aL:(w.heap.size+1<=k/\k≠a.heap.size)\/wr.heap.size<=k:=hk;refine⟨?_,λe => ?_⟩
      ·have:=P.out;have:=hB.1
       omega
      ·cases e;have:=hB.1;omega))
    have E:Ext w0 (L.setCell ⟨a.heap.size,1,none⟩ (.slice C (i+1) D)):=grown_own (grown_own hg g (λj u b=>by
     obtain⟨_,_,_,_,_,K,_⟩:=hP.p;have:=(hP.dp _ (K _ u)).1;have:=P.out;omega)) N (λj u b=>by cases u;have:=P.out;omega)
    have F:L.heap.size=(L.setCell ⟨a.heap.size,1,none⟩ (.slice C (i+1) D)).heap.size:=by simp
    have ai:=Lib.hid F;clear F;have A:=Lib.hid (And.intro ag (And.intro ah E));clear ag ah E N M q g ae hP hX hB hg h0 h1 h2 h3 h4 HM HN aI;go_wp2;clear f0 f1 f2 f3 f4;generalize L.setCell ⟨a.heap.size,1,none⟩ (.slice C (i+1) D)=l at *;rw[ai.out];clear ai;have aj:Ext l (l.alloc (.cells #[] 24)):=World.grownBy_alloc _ _ _;have ak:RowsO l.heap.size (l.alloc (.cells #[] 24)) (.slice (some ⟨l.heap.size,0,none⟩) 0 0) ((trivC o.length i).take 0):=⟨[],λ_ _=>False,rfl,World.ownsRow_lit l #[] 0 (Nat.le_refl _) (by decide) rfl,by simp,by simp,by simp⟩;have al:=trivC_len o.length i;have HC:=Lib.hid al;clear al;go_loopw [6,7] (λrv jv wr=>∃(j:Nat) (v4:Value),v4=rv/\jv=.int .i64 ((i+1+j:Nat):Int)/\i+1+j<=o.length/\Ext l wr/\RowsO l.heap.size wr v4 ((trivC o.length i).take j)) (λ_ jv _=>o.length-(intOf jv).toNat)
    case atStart=>exact⟨0,_,rfl,by go_num,by omega,aj,ak⟩
    case round=>
     clear ak aj;obtain⟨j,v4,rfl,rfl,u,B,hO⟩:=hrel;by_cases am:i+1+j<o.length
     ·have aO:((i+1+j:Nat):Int)<o.length:=by omega
      have r:(trivC o.length i).take (j+1)=(trivC o.length i).take j++[unitV o.length (i+1+j)]:=by
       rw[take_succ_gt _ j (by rw[HC.out];omega)];unfold trivC;rw[gt_map _ _ _ (by simp;omega),gt_eq _ _ (by simp;omega),List.getElem_range]
      have an:((trivC o.length i).take j).length<=1000000:=by rw[List.length_take];omega
      have HS:=Lib.hid (And.intro r an);clear r an;go_wp2_with fail
      refine Calls.mono (l07Unit_ok o.length (i+1+j) wr am (by omega)) ?_;rintro eC wC ⟨vC,rfl,aP,iV⟩;have ap:OwnIn (From wr.heap.size) wC vC (unitV o.length (i+1+j)):=OwnIn.of iV (by rw[unitV_len];omega) (λj h1 _=>h1);obtain⟨ay,capy,gM,_,_⟩:=ap.ints.shape;subst gM;go_wp2_with (first|(at_builtin;refine wp_app_row rfl _ _ rfl l.heap.size wr wC v4 _ ((trivC o.length i).take j) (unitV o.length (i+1+j)) rfl hO aP ap rfl rfl HS.out.2 B.size ?_;intro v5 L q g ae;have aq:=hO.extw B (Nat.le_refl _) g)|fail)
      go_roundw
      case rel=>exact⟨j+1,v5,rfl,by go_num,by omega,aq,by rw[HS.out.1];exact q⟩
      case measure=>simp[intOf];omega
     ·have aQ:j=o.length-1-i:=by omega
      subst aQ;rw[List.take_of_length_le (by rw[HC.out];exact Nat.le_refl _)] at hO;have ar:RowsI (From l.heap.size) wr v4 (trivC o.length i):=SlI.of hO (by rw[HC.out];omega) (λk h _=>h);have O:=A.out.1.ext B;obtain⟨Fo,Fp,Fc,hP⟩:=A.out.2.1.part;have G:((List.range i).map (trivC o.length)).length<=1000000:=by simp;omega
      obtain⟨a4,n4,c4,rfl,au⟩:=SlI.sl ar
      have n:(Value.slice Q R c3).ownBlock≠some a.heap.size:=by
       obtain⟨_,_,_,_,_,K,_⟩:=hP.c;exact λe=>(hP.dc _ (K _ e)).2 rfl
      have HR:=Lib.hid (And.intro G (And.intro au n));clear G au hO n;obtain⟨f0,f1,f2,f3,f4⟩:=id O;go_wp2_with (first|(at_builtin;refine wp_app_I (rdI rdOwn) 26 (.slice none 0 0) 24 und_rows3 Tryz.infoRows rfl (by decide) rfl _ _ rfl Fc l wr _ _ ((List.range i).map (trivC o.length)) (trivC o.length i) rfl hP.c B ar rfl rfl HR.out.1 ?_;intro v8 w8 av aw ax;obtain⟨g8,m8,k8,rfl,qi⟩:=SlI.sl av;clear qi;have aC:=Box3.keep O ax.size (ax.block _ O.1 (λe=>HR.out.2.2 e.symm));clear f0 f1 f2 f3 f4;obtain⟨f0,f1,f2,f3,f4⟩:=id aC)|fail)
      have aS:=(aC.put (.slice g8 m8 k8)).2.2;have aD:=grown_set w8 a.heap.size 2 (.slice g8 m8 k8)
      have aT:PresX (λk=>w.heap.size+1<=k/\k≠a.heap.size) (w8.setCell ⟨a.heap.size,2,none⟩ (.slice g8 m8 k8)) (.slice a1 o.length c1) (.slice C (i+1) D) (.slice g8 m8 k8) ⟨o,List.replicate (i+1) (zeros o.length),(List.range (i+1)).map (trivC o.length)⟩:=by
       have aU:=hP.newC av aw;rw[show(List.range (i+1)).map (trivC o.length)=(List.range i).map (trivC o.length)++[trivC o.length i] by rw[List.range_succ,List.map_append];rfl]
       exact aU.mono (frame_of aD (λk hk b=>by
        have aL:(w.heap.size+1<=k/\k≠a.heap.size)\/l.heap.size<=k:=hk;have h1:=A.out.1.1;refine⟨?_,λe => ?_⟩
        ·have:=P.out
         omega
        ·cases e;omega))
      have aE:Ext w0 (w8.setCell ⟨a.heap.size,2,none⟩ (.slice g8 m8 k8)):=grown_own (grown_own A.out.2.2 aw (λj u b=>by
       obtain⟨_,_,_,_,_,K,_⟩:=hP.c;have:=hP.dc _ (K _ u);have:=P.out;omega)) aD (λj u b=>by cases u;have:=P.out;omega)
      clear f0 f1 f2 f3 f4;go_roundw
      case rel=>exact⟨i+1,_,_,by go_num,by omega,aE,aS,aT⟩
      case measure=>simp[intOf];omega
    done
  ·have aV:i=o.length:=by omega
   subst aV;have hz:=aG.out.ext hg;obtain⟨a2,Y,c2,Q,R,c3,rfl,rfl,y,z⟩:=hX.sh2;clear y z;obtain⟨h0,h1,h2,h3,h4⟩:=id hB;obtain⟨k0,k1,k2,k3,k4⟩:=id hz;have hZ:=hz.all (.slice a1 o.length c1) (.slice a2 Y c2) (.slice Q R c3);have hT:=grown_set3 wr w.heap.size (.slice a1 o.length c1) (.slice a2 Y c2) (.slice Q R c3);obtain⟨_,z0,z1,z2,_⟩:=id hZ;have HT:=Lib.hid hT;clear hT hZ;go_wp2;refine bodyPost_ret (v := .agg #[.slice a1 o.length c1,.slice a2 Y c2,.slice Q R c3]) (by simp[results,Tryz.results292,go_sem,z0,z1,z2]) rfl ?_;exact⟨_,rfl,grown_own (grown_trans T hg) HT.out (λj u b=>by cases u;omega),_,_,_,rfl,hX.mono (frame_of HT.out (λk hk _=>⟨by show w.heap.size<=k;omega,λe=>by cases e;omega⟩))⟩
end Go.Proofs.YtdcobapnlpeaaaaGreat
namespace Go.Proofs.YtdcobapnlpeaaaaGreat
open Go.RowKit
/-! ### a row of bools of the call's own -/
abbrev BOwn (base:Nat) (w:World) (v:Value) (l:List Bool):Prop:=w.ownsRow base 4 1 v l.length (l.map Value.bool)
theorem und_bools:Tryz.prog.underlying 148=some (.slice 4):=by kernel_rfl
theorem Tryz.infoBool:(Tryz.prog.info? 4).map (λi=>(i.zero,i.size,i.bytes))=some (some (.bool false),1,1):=by kernel_rfl
theorem wp_make_bools {g:Array Oper}{rest:List Oper}{o:Oper}{a:Act}{Q:Exit->Act->World->Prop}{w:World}(i:o.guard=none) (l c:Operand)
  (q:o.op=Op.makeSlice 148 l c) (base n H:Nat) (hH:w.heap.size=H) (L:Int) (r:a.eval l=.int .i64 L) (u:a.eval c=.int .i64 L) (p:L=n) (A:n<=2147483648) (b:base<=H)
  (h:∀w',BOwn base w' (.slice (some ⟨H,0,none⟩) n n) (List.replicate n false)->Ext w w'->H<w'.heap.size->wpList Tryz.prog g Q rest (a.put o.dst (.slice (some ⟨H,0,none⟩) n n)) w') :
  wpList Tryz.prog g Q (o :: rest) a w:=by
 subst hH;obtain⟨v,y,j,k,m⟩:=info_parts Tryz.infoBool;refine wpList_make_full w i l c 148 q base 4 v (.bool false) 1 und_bools y j k .i64 .i64 L L n r u p p (by rw[m];omega) (by unfold maxLen;omega) b ?_;intro w' h1 z;refine h w' ?_ z (h1.lt w.heap.size rfl).2
 have e:(madeCells (Value.cells (.bool false)) (n*1)).toList=(List.replicate n false).map Value.bool:=by
  rw[show Value.cells (.bool false) = #[.bool false] from rfl,toList_madeCells_one];simp
 rw[e] at h1;show World.ownsRow _ _ _ _ _ _ _
 rw[List.length_replicate];exact h1
theorem BOwn.cell {base g cap n:Nat}{w:World}{l:List Bool}(h:BOwn base w (.slice (some ⟨g,0,none⟩) n cap) l) (j:Nat) (a:j<l.length):w.cell? ⟨g,j,none⟩=some (.bool (gt l j)):=by
 have b:n=l.length:=by
  obtain⟨_,⟨h,_⟩|⟨_,_,_,h,_⟩⟩:=h<;>cases h;rfl
 subst b;have:=World.ownsRow.cellAt h j (by omega);rw[this];simp[gt,a]
theorem BOwn.frozen {base g cap n:Nat}{w:World}{l:List Bool}(h:BOwn base w (.slice (some ⟨g,0,none⟩) n cap) l) (j:Nat):w.frozen? ⟨g,j,none⟩=false:=by
 have a:n=l.length:=by
  obtain⟨_,⟨h,_⟩|⟨_,_,_,h,_⟩⟩:=h<;>cases h;rfl
 subst a;exact World.ownsRow.frozenAt h j
theorem BOwn.store {base g cap n:Nat}{w:World}{l:List Bool}(h:BOwn base w (.slice (some ⟨g,0,none⟩) n cap) l) (j:Nat) (x:Bool) :
  BOwn base (w.setCell ⟨g,j,none⟩ (.bool x)) (.slice (some ⟨g,0,none⟩) n cap) (l.set j x)/\w.grownBy (w.setCell ⟨g,j,none⟩ (.bool x)) (some g):=by
 have a:n=l.length:=by
  obtain⟨_,⟨h,_⟩|⟨_,_,_,h,_⟩⟩:=h<;>cases h;rfl
 subst a;obtain⟨h1,h2⟩:=World.ownsRow.stored h j (.bool x);refine⟨?_,h2⟩;show World.ownsRow _ _ _ _ _ _ _
 rw[List.length_set,List.map_set];exact h1
theorem BOwn.ext0 {base:Nat}{w w':World}{v:Value}{l:List Bool}(h:BOwn base w v l) (a:Ext w w'):BOwn base w' v l:=
 h.kept a (by cases b:v.ownBlock<;>simp)
theorem BOwn.keep {base g n cap r:Nat}{w w':World}{l:List Bool}(h:BOwn base w (.slice (some ⟨g,0,none⟩) n cap) l) (b:w.grownBy w' (some r)) (a:g≠r):BOwn base w' (.slice (some ⟨g,0,none⟩) n cap) l:=
 h.kept b (.inr (λe=>a (by cases e;rfl)))
def Near (w:World) (g:Nat) (w':World):Prop:=∃a,Ext w a/\(w'=a\/∃j x,w'=a.setCell ⟨g,j,none⟩ x)
theorem Near.of {w w':World}{g:Nat}(h:Ext w w'):Near w g w':=⟨w',h,.inl rfl⟩
theorem Near.store {w w':World}{g j:Nat}{x:Value}(h:Ext w w'):Near w g (w'.setCell ⟨g,j,none⟩ x):=⟨w',h,.inr ⟨j,x,rfl⟩⟩
theorem Near.cell {w w':World}{g:Nat}(h:Near w g w') {a:Addr}{v:Value}(e:w.cell? a=some v) (b:a.block≠g):w'.cell? a=some v:=by
 obtain⟨i,h1,rfl|⟨j,x,rfl⟩⟩:=h
 ·exact h1.cell e (by simp)
 ·rw [World.cell?_setCell_far _ _ _ _ (by simpa using Ne.symm b)]
  exact h1.cell e (by simp)
def PX (N:Nat) (o:List Int) (F:Nat->Prop) (w:World) (vo vp vc:Value):Prop:=∃P,Shp N P/\P.orders=o/\PresX F w vo vp vc P
structure BX (N:Nat) (o:List Int) (B pb:Nat) (w:World) (vo vp vc:Value):Prop where
 hB:B<=pb
 box:Box3 w pb vo vp vc
 px:PX N o (λk=>B<=k/\k≠pb) w vo vp vc
theorem PX.ext {N:Nat}{o:List Int}{F:Nat->Prop}{w w':World}{vo vp vc:Value}(h:PX N o F w vo vp vc) (b:Ext w w'):PX N o F w' vo vp vc:=by
 obtain⟨P,h1,h2,h3⟩:=h;exact⟨P,h1,h2,h3.mono (λk hk a=>⟨hk,Nat.lt_of_lt_of_le a b.size,b.block k a (by simp)⟩)⟩
theorem BX.ext {N:Nat}{o:List Int}{B pb:Nat}{w w':World}{vo vp vc:Value}(h:BX N o B pb w vo vp vc) (a:Ext w w'):BX N o B pb w' vo vp vc:=⟨h.hB,h.box.ext a,h.px.ext a⟩
theorem BX.storeP {N:Nat}{o:List Int}{B pb:Nat}{w:World}{vo vp vc:Value}(h:BX N o B pb w vo vp vc) (i:Nat) (l:i<o.length) :
  ∃ g cap z,vp=.slice (some ⟨g,0,none⟩) o.length cap/\B<=g/\g≠pb/\g<w.heap.size/\(∀a,Ext w a->a.cell? ⟨g,i,none⟩=some z/\a.frozen? ⟨g,i,none⟩=false) /\
   ∀a u y,Ext w a->OwnIn (From w.heap.size) a u y->y.length<=N->BX N o B pb (a.setCell ⟨g,i,none⟩ u) vo vp vc:=by
 obtain⟨P,h1,h2,h3⟩:=h.px;obtain⟨g,cap,z,n,⟨q1,q2⟩,m,q4,q,r⟩:=h3.openP i (by rw[h1.p,h2];exact l);have j:=h.box.1;have hB:=h.hB;refine⟨g,cap,z,by rw[n,h1.p,h2],q1,q2,m,λa b=>⟨b.cell q4 (by simp),(World.frozen?_of_block (b.block g m (by simp))).trans (q i (by rw[h1.p,h2];exact l))⟩,λa u y b v hy=>⟨hB,Box3.keep h.box (grown_trans (grown_of_ext (some g) b) (grown_set1 a g i u)).size ((grown_trans (grown_of_ext (some g) b) (grown_set1 a g i u)).block _ j (λe=>q2 (by cases e;rfl))),setP P i y,h1.setP i hy,h2,?_⟩⟩;exact(r a u y b v).wide (λk hk=>by rcases hk with hk|hk;exact hk;exact⟨by omega,by omega⟩)
theorem BX.storeC {N:Nat}{o:List Int}{B pb:Nat}{w:World}{vo vp vc:Value}(h:BX N o B pb w vo vp vc) (i j:Nat) (C:i<o.length) (D:j<o.length-1-i) :
  ∃ g cap b l z,vc=.slice (some ⟨g,0,none⟩) o.length cap/\B<=g/\g≠pb/\g<w.heap.size/\w.cell? ⟨g,i,none⟩=some (.slice (some ⟨b,0,none⟩) (o.length-1-i) l)/\B<=b/\b≠pb/\b≠g/\b<w.heap.size /\
   (∀a,Ext w a->a.cell? ⟨b,j,none⟩=some z/\a.frozen? ⟨b,j,none⟩=false) /\
   ∀a u y,Ext w a->OwnIn (From w.heap.size) a u y->y.length<=N->BX N o B pb (a.setCell ⟨b,j,none⟩ u) vo vp vc:=by
 obtain⟨P,h1,p,h3⟩:=h.px;have m:i<P.orders.length:=by rw[p];exact C
 have r:(gt P.conj i).length=o.length-1-i:=by rw[h1.cl i m,p]
 obtain⟨g,cap,b,l,z,E,⟨q1,q2⟩,q3,v,⟨r1,r2⟩,r3,A,r5,F,G⟩:=h3.openC i j (by rw[h1.c];exact m) (by rw[r];exact D);have q:=h.box.1;have hB:=h.hB;rw[r] at v;refine⟨g,cap,b,l,z,by rw[E,h1.c,p],q1,q2,q3,v,r1,r2,r3,A,λa n=>⟨n.cell r5 (by simp),(World.frozen?_of_block (n.block b A (by simp))).trans F⟩,λa u y n H hy=>⟨hB,Box3.keep h.box (grown_trans (grown_of_ext (some b) n) (grown_set1 a b j u)).size ((grown_trans (grown_of_ext (some b) n) (grown_set1 a b j u)).block _ q (λe=>r2 (by cases e;rfl))),setC P i j y,h1.setC i j m hy,p,?_⟩⟩;exact(G a u y n H).wide (λk hk=>by rcases hk with hk|hk;exact hk;exact⟨by omega,by omega⟩)
def PresN (N B:Nat) (w':World) (v:Value):Prop:=∃P,Shp N P/\PresR B P w' v
theorem PresN.weak {N B B':Nat}{w':World}{v:Value}(h:PresN N B w' v) (hB:B'<=B):PresN N B' w' v:=by
 obtain⟨P,h1,a,b,c,e,h2⟩:=h;exact⟨P,h1,a,b,c,e,h2.wide (λk hk=>Nat.le_trans hB hk)⟩
theorem BX.ret {N:Nat}{o:List Int}{B pb:Nat}{w:World}{vo vp vc:Value}(h:BX N o B pb w vo vp vc) {w':World}{r:Nat}(a:w.grownBy w' (some r)) (b:r<B):PresN N B w' (.agg #[vo,vp,vc]):=by
 obtain⟨P,h1,h2,h3⟩:=h.px;exact⟨P,h1,_,_,_,rfl,h3.mono (frame_of a (λk hk _=>⟨hk.1,λe=>by cases e;have:B<=r:=hk.1;omega⟩))⟩
theorem BX.start {N:Nat}{o:List Int}{B:Nat}{w w':World}{vo vp vc:Value}(e:o.length<=N) (h:PresX (From B) w vo vp vc (trivP o)) (b:Ext w w') (g:Box3 w' w.heap.size vo vp vc) (hB:B<=w.heap.size):BX N o B w.heap.size w' vo vp vc:=
 ⟨hB,g,trivP o,trivP_shp o e,rfl,h.mono (λk hk a=>⟨⟨hk,by omega⟩,Nat.lt_of_lt_of_le a b.size,b.block k a (by simp)⟩)⟩
structure BXF (N:Nat) (o:List Int) (F:Nat->Prop) (pb:Nat) (w:World) (vo vp vc:Value):Prop where
 ne:¬F pb
 box:Box3 w pb vo vp vc
 px:PX N o F w vo vp vc
theorem BX.f {N:Nat}{o:List Int}{B pb:Nat}{w:World}{vo vp vc:Value}(h:BX N o B pb w vo vp vc):BXF N o (λk=>B<=k/\k≠pb) pb w vo vp vc:=⟨λh=>h.2 rfl,h.box,h.px⟩
theorem BXF.ext {N:Nat}{o:List Int}{F:Nat->Prop}{pb:Nat}{w w':World}{vo vp vc:Value}(h:BXF N o F pb w vo vp vc) (a:Ext w w'):BXF N o F pb w' vo vp vc:=⟨h.ne,h.box.ext a,h.px.ext a⟩
theorem BXF.turn {N:Nat}{o:List Int}{F F':Nat->Prop}{pb:Nat}{w:World}{vo vp vc:Value}(h:BXF N o F pb w vo vp vc) (hF:∀k,F k->k<w.heap.size->F' k) (b:¬F' pb):BXF N o F' pb w vo vp vc:=by
 obtain⟨P,h1,h2,h3⟩:=h.px;exact⟨b,h.box,P,h1,h2,h3.mono (λk hk a=>⟨hF k hk a,a,rfl⟩)⟩
theorem BXF.bx {N:Nat}{o:List Int}{F:Nat->Prop}{B pb:Nat}{w:World}{vo vp vc:Value}(h:BXF N o F pb w vo vp vc) (hB:B<=pb) (hF:∀k,F k->B<=k):BX N o B pb w vo vp vc:=by
 obtain⟨P,h1,h2,h3⟩:=h.px;exact⟨hB,h.box,P,h1,h2,h3.wide (λk hk=>⟨hF k hk,λe=>h.ne (e▸hk)⟩)⟩
theorem BXF.storeC {N:Nat}{o:List Int}{F:Nat->Prop}{pb:Nat}{w:World}{vo vp vc:Value}(h:BXF N o F pb w vo vp vc) (i j:Nat) (E:i<o.length) (G:j<o.length-1-i) (hF:∀k,w.heap.size<=k->F k) :
  ∃ g cap b l z,vc=.slice (some ⟨g,0,none⟩) o.length cap/\F g/\g≠pb/\g<w.heap.size/\w.cell? ⟨g,i,none⟩=some (.slice (some ⟨b,0,none⟩) (o.length-1-i) l)/\F b/\b≠pb/\b≠g/\b<w.heap.size /\
   (∀a,Ext w a->a.cell? ⟨b,j,none⟩=some z/\a.frozen? ⟨b,j,none⟩=false) /\
   ∀a u y,Ext w a->OwnIn (From w.heap.size) a u y->y.length<=N->BXF N o F pb (a.setCell ⟨b,j,none⟩ u) vo vp vc:=by
 obtain⟨P,h1,p,h3⟩:=h.px;have m:i<P.orders.length:=by rw[p];exact E
 have r:(gt P.conj i).length=o.length-1-i:=by rw[h1.cl i m,p]
 obtain⟨g,cap,b,l,z,H,v,q3,A,B,r3,C,r5,I,J⟩:=h3.openC i j (by rw[h1.c];exact m) (by rw[r];exact G);have q:=h.box.1;rw[r] at A;have K:g≠pb:=λe=>h.ne (e▸v);have D:b≠pb:=λe=>h.ne (e▸B);refine⟨g,cap,b,l,z,by rw[H,h1.c,p],v,K,q3,A,B,D,r3,C,λa n=>⟨n.cell r5 (by simp),(World.frozen?_of_block (n.block b C (by simp))).trans I⟩,λa u y n L hy=>⟨h.ne,Box3.keep h.box (grown_trans (grown_of_ext (some b) n) (grown_set1 a b j u)).size ((grown_trans (grown_of_ext (some b) n) (grown_set1 a b j u)).block _ q (λe=>D (by cases e;rfl))),setC P i j y,h1.setC i j m hy,p,?_⟩⟩;exact(J a u y n L).wide (λk hk=>by rcases hk with hk|hk;exact hk;exact hF k hk)
theorem trivX_shape {F:Nat->Prop}{w:World}{vo vp vc:Value}{o:List Int}(h:PresX F w vo vp vc (trivP o)):∃a c a2 c2 b c3,vo=.slice a o.length c/\vp=.slice a2 o.length c2/\vc=.slice b o.length c3:=by
 obtain⟨a,c,a2,c2,b,c3,e1,e,g⟩:=h.shape;exact⟨a,c,a2,c2,b,c3,e1,by rw[e];simp[trivP],by rw[g];simp[trivP]⟩
section
variable {α:Type} [Inhabited α] {El:(Nat->Prop)->World->Value->α->Prop}{E:Nat}
theorem SlI.oF (l:RdOk El) {F U:Nat->Prop}{g n cap:Nat}{w:World}{xs:List α}{u:Value}{y:α}(h:SlI El E F w (.slice (some ⟨g,0,none⟩) n cap) xs)
  (A:El U w u y) (B:∀k,U k->¬F k) (j:Nat) :
  Sl (λw u x=>El (λk=>F k\/U k) w u x) (λk=>F k\/U k) (w.setCell ⟨g,j,none⟩ u) (.slice (some ⟨g,0,none⟩) n cap) (xs.set j y):=by
 obtain⟨m,G,hvl,hl,hO,hF,v,hd,C⟩:=h;have r:=(hO.lt g rfl).2;have p:=hF g rfl
 have D:n=m.length:=by
  obtain⟨_,⟨h,_⟩|⟨_,_,_,h,_⟩⟩:=hO<;>cases h;rfl
 subst D
 have z:m.length<=cap:=by
  rcases hO.form with⟨h,_⟩|⟨_,_,h,h2,_⟩
  ·cases h
  ·cases h;exact h2
 obtain⟨h1,h2⟩:=World.ownsRow.stored hO j u;have h1:OwnV 0 E (w.setCell ⟨g,j,none⟩ u) (.slice (some ⟨g,0,none⟩) m.length cap) (m.set j u):=by unfold OwnV;rw[List.length_set];exact h1
 have a:(w.setCell ⟨g,j,none⟩ u).heap.size=w.heap.size:=by simp[World.setCell]
 have hblk:∀k,k≠g->(w.setCell ⟨g,j,none⟩ u).heap[k]? = w.heap[k]? :=λk hk=>Below.heap_setCell _ _ _ _ (by simpa using hk);refine⟨_,cap,by rw[List.length_set,hvl],⟨by rw[List.length_set];omega,by rw[List.length_set];exact hl,λh=>by cases h⟩,λi q => ?_⟩;rw[List.length_set] at q;refine⟨g,0,gt (m.set j u) i,rfl,.inl p,by rw[a];exact r,by rw[Nat.zero_add];exact h1.cell i (by rw[List.length_set];omega),?_⟩;by_cases e:j=i
 ·subst e
  rw[gt_set_eq _ _ _ (by omega),gt_set_eq _ _ _ q];exact l.mono A (λk hk b=>⟨.inr hk,by rw[a];exact b,hblk k (λe=>B k hk (e▸p))⟩)
 ·rw [gt_set_ne _ _ _ _ e,gt_set_ne _ _ _ _ e]
  exact l.mono (C i q) (λk hk b=>⟨.inl (v i k q hk).1,by rw[a];exact b,hblk k (λe=>(v i k q hk).2.1 (by rw[e];rfl))⟩)
end
theorem PresX.oG {F U:Nat->Prop}{w:World}{vo vp vc u:Value}{P:Pr}{y:List Int}(h:PresX F w vo vp vc P) (i:Nat) (m:i<P.powers.length) (v:Ints U w u y) (A:∀k,U k->¬F k) :
  ∃ g cap z,vp=.slice (some ⟨g,0,none⟩) P.powers.length cap/\F g/\g<w.heap.size/\w.cell? ⟨g,i,none⟩=some z/\w.frozen? ⟨g,i,none⟩=false /\
   Pres3 (λk=>F k\/U k) (w.setCell ⟨g,i,none⟩ u) vo vp vc (setP P i y):=by
 obtain⟨Fo,Fp,Fc,h1,n,B,r,l,C⟩:=h;rcases SlI.form n with⟨_,e⟩|⟨g,cap,rfl,a,hgl⟩
 ·rw[e] at m;simp at m
 obtain⟨⟨z,hz⟩,hf⟩:=SlI.place n i m;have j:(w.setCell ⟨g,i,none⟩ u).heap.size=w.heap.size:=by simp[World.setCell]
 have hblk:∀k,k≠g->(w.setCell ⟨g,i,none⟩ u).heap[k]? = w.heap[k]? :=λk hk=>Below.heap_setCell _ _ _ _ (by simpa using hk);have p:SlI (λF w u (x:List Int)=>Ints F w u x) 24 Fp w (.slice (some ⟨g,0,none⟩) P.powers.length cap) P.powers:=SlI.map (λ_ _ _ _ h=>h.ints) n;have q:RdOk (λF w u (x:List Int)=>Ints F w u x):=⟨λh D=>Ints.mono h D,λh=>by obtain⟨_,_,rfl,_⟩:=h.shape;rfl⟩;have E:=SlI.oF q p v (λk hk h=>A k hk (l k h).1) i;refine⟨g,cap,z,rfl,(l g a).1,hgl,hz,hf,⟨?_,?_,?_⟩⟩
 ·exact Ints.mono h1.ints (λk hk b=>⟨.inl (r k hk).1,by rw[j];exact b,hblk k (λe=>(r k hk).2.1 (e▸a))⟩)
 ·exact Rows2.sub (S:=λk=>Fp k\/U k) E (λk hk _=>hk.elim (λh => .inl (l k h).1) .inr)
 ·exact Rows3.mono (Rows3I.rows B) (λk hk b=>⟨.inl (C k hk),by rw[j];exact b,hblk k (λe=>(l g a).2 (e▸hk))⟩)
theorem PresX.Cr {F U:Nat->Prop}{w:World}{vo vp vc u:Value}{P:Pr}{y:List Int}(h:PresX F w vo vp vc P) (i j:Nat) (v:i<P.conj.length) (L:j<(gt P.conj i).length) (hu:Ints U w u y) (hU:∀k,U k->¬F k) :
  ∃ g cap b l z,vc=.slice (some ⟨g,0,none⟩) P.conj.length cap/\F g/\g<w.heap.size/\w.cell? ⟨g,i,none⟩=some (.slice (some ⟨b,0,none⟩) (gt P.conj i).length l)/\F b/\b≠g/\b<w.heap.size /\
   w.cell? ⟨b,j,none⟩=some z/\w.frozen? ⟨b,j,none⟩=false/\Pres3 (λk=>F k\/U k) (w.setCell ⟨b,j,none⟩ u) vo vp vc (setC P i j y):=by
 obtain⟨Fo,Fp,Fc,h1,h2,M,X,Y,D⟩:=h;rcases SlI.form M with⟨_,e⟩|⟨g,cap,rfl,E,hgl⟩
 ·rw[e] at v;simp at v
 have N:=M;obtain⟨H,G,hvl,hl,hO,hF,K,hd,Z⟩:=M;have hn:H.length=P.conj.length:=hvl;have p:=Z i v;rcases SlI.form p with⟨_,e⟩|⟨b,l,A,I,hbl⟩
 ·rw[e] at L;simp at L
 rw[A] at p;obtain⟨B,q,_⟩:=K i b v I;have q:b≠g:=λe=>q (by rw[e];rfl);obtain⟨⟨z,hz⟩,hf⟩:=SlI.place p j L
 have O:w.cell? ⟨g,i,none⟩=some (.slice (some ⟨b,0,none⟩) (gt P.conj i).length l):=by
  rw[<-A];have C:OwnV 0 25 w (.slice (some ⟨g,0,none⟩) P.conj.length cap) H:=hO;exact C.cell i (by omega)
 have J:SlI (λF w u (x:List Int)=>Ints F w u x) 24 (G i) w (.slice (some ⟨b,0,none⟩) (gt P.conj i).length l) (gt P.conj i):=SlI.map (λ_ _ _ _ h=>h.ints) p;have Q:RdOk (λF w u (x:List Int)=>Ints F w u x):=⟨λh hb=>Ints.mono h hb,λh=>by obtain⟨_,_,rfl,_⟩:=h.shape;rfl⟩;have hp:=SlI.oF Q J hu (λk hk h=>hU k hk (D k (K i k v h).1)) j;have r:(w.setCell ⟨b,j,none⟩ u).heap.size=w.heap.size:=by simp[World.setCell]
 have hblk:∀k,k≠b->(w.setCell ⟨b,j,none⟩ u).heap[k]? = w.heap[k]? :=λk hk=>Below.heap_setCell _ _ _ _ (by simpa using hk);have R:=Rows3I.rows N;refine⟨g,cap,b,l,z,rfl,D g E,hgl,O,D b B,q,hbl,hz,hf,⟨?_,?_,?_⟩⟩
 ·exact Ints.mono h1.ints (λk hk n=>⟨.inl (X k hk).1,by rw[r];exact n,hblk k (λe=>(X k hk).2.2 (e▸B))⟩)
 ·exact Rows2.mono (RowsI.rows h2) (λk hk n=>⟨.inl (Y k hk).1,by rw[r];exact n,hblk k (λe=>(Y k hk).2 (e▸B))⟩)
 ·refine ⟨_,cap,by show _=Value.slice _ (P.conj.set i _).length _;rw[List.length_set],⟨?_,?_,λh=>by cases h⟩,λk hk => ?_⟩
  ·obtain ⟨a,c,e,T,_⟩:=Sl.shape R
   cases e
   show(P.conj.set i _).length<=_;rw[List.length_set];exact T
  ·show(P.conj.set i _).length<=_;rw[List.length_set];exact hl
  ·have hk:k<P.conj.length:=by
    have hk:k<(P.conj.set i ((gt P.conj i).set j y)).length:=hk;rw[List.length_set] at hk;exact hk
   show ∃ah off V,_/\_/\_/\_/\Rows2 _ _ V (gt (P.conj.set i ((gt P.conj i).set j y)) k)
   have C:OwnV 0 25 w (.slice (some ⟨g,0,none⟩) P.conj.length cap) H:=hO
   have W:(w.setCell ⟨b,j,none⟩ u).cell? ⟨g,0+k,none⟩=some (gt H k):=by
    rw[Nat.zero_add,World.cell?_of_block (w:=w) (a:=⟨g,k,none⟩) (hblk g (λe=>q e.symm))];exact C.cell k (by omega)
   refine⟨g,0,gt H k,rfl,.inl (D g E),by rw[r];exact hgl,W,?_⟩;by_cases e:i=k
   ·subst e
    rw[gt_set_eq _ _ _ v,A];exact Rows2.sub (S:=λk=>G i k\/U k) hp (λk hk _=>hk.elim (λh => .inl (D k (K i k v h).1)) .inr)
   ·rw [gt_set_ne _ _ _ _ e]
    have hr:=RowsI.rows (Z k hk);exact Rows2.mono hr (λm hm n=>⟨.inl (D m (K k m hk hm).1),by rw[r];exact n,hblk m (λT=>e (hd i k b v hk I (T▸hm)))⟩)
end Go.Proofs.YtdcobapnlpeaaaaGreat
