/- Merged from templates. -/
import Derived.Test.YtldheeicjnncoaaGreatF8
import Derived.Sort.OwnSortedInts
import Derived.Shelf.SlicesE.Reverse
import Derived.Laws.CopyOwn
import Derived.Deep.RegionLaw
import Derived.Shelf.Bits.Mul64
set_option maxRecDepth 100000
set_option maxHeartbeats 8000000
namespace Go.Proofs.YtldheeicjnncoaaGreat
open Go.RowKit
theorem l07Word_ok (w:World) (v:Value) (e:List Int) (S:Nat->Prop) (M:Ints S w v e) (hn:e.length<=6) (D:∀i,i<e.length->0<=gt e i/\gt e i<=7) :
  Calls Tryz.prog 355 #[v] w (Ret w λw' r=>Own w.heap.size w' r (nWord e e.length)):=by
 obtain⟨a,cap,rfl,_,_⟩:=M.shape
 have C:∀i,gt e i<=7:=λi=>by
  by_cases h:i<e.length
  ·exact(D i h).2
  ·rw[gt_big (by omega)];decide
 have N:=Lib.hid (And.intro C D);clear C D;go_enter Tryz.func355,Tryz.ntmps355;go_wp2;go_loopw [3,4] (λE F wr=>∃(i:Nat) (v3:Value),v3=E/\F=.int .i64 i/\i<=e.length/\Ext w wr/\Own w.heap.size wr v3 (nWord e i)) (λ_ F _=>e.length-(intOf F).toNat)
 case atStart=>exact⟨0,_,rfl,rfl,by omega,World.grownBy_alloc _ _ _,World.ownsRow_lit w #[] 0 (Nat.le_refl _) (by decide) rfl⟩
 case round=>
  obtain⟨i,v3,rfl,rfl,hi,hg,hO⟩:=hrel;by_cases m:i<e.length
  ·have O:(i:Int)<e.length:=by omega
   obtain⟨b,off,rfl,_,_,Q⟩:=Ints.at M i m;obtain⟨x,hx⟩:∃x,x=(gt e i).toNat:=⟨_,rfl⟩;have G:=N.out.2 i m;have p:gt e i=(x:Int):=by omega
   have W:x<=7:=by omega
   have q:nWord e (i+1)=nWord e i++List.replicate x ((i:Int)+1):=by rw[nWord,hx]
   have u:=nWord_len N.out.1 i;rw[p] at Q;have R:=Lib.hid (And.intro q u);clear q u G p hx;go_wp2;have y:Own w.heap.size wr v3 (nWord e i++List.replicate 0 ((i:Int)+1)):=by simpa using hO
   clear hO;go_loopw [3,5] (λE H wr=>∃(k:Nat) (v4:Value),v4=E/\H=.int .i64 k/\k<=x/\Ext w wr/\Own w.heap.size wr v4 (nWord e i++List.replicate k ((i:Int)+1))) (λ_ H _=>x-(intOf H).toNat)
   case atStart=>exact⟨0,_,rfl,rfl,by omega,hg,y⟩
   case round=>
    clear y hg;obtain⟨k,v4,rfl,rfl,hk,hg,hO⟩:=hrel;have z:=hg.cell Q (by simp);by_cases U:k<x
    ·have I:(k:Int)<x:=by omega
     have j:(nWord e i++List.replicate k ((i:Int)+1)).length<=1000:=by rw[List.length_append,List.length_replicate];have:=R.out.2;omega
     have X:=Lib.hid j;clear j;go_wp2_with (first|(at_builtin;refine wp_app_ints rfl _ _ rfl w.heap.size v4 _ rfl (hO.ext0 (World.grownBy_alloc _ _ _)) _ _ rfl Any (ints_lit wr _) (by have:=X.out;simp only[List.length_cons,List.length_nil];omega) (by have:=hg.size;simp;omega) ?_;intro v5 V A B _)|fail)
     have l:wr.grownBy V v4.ownBlock:=grown_trans (grown_of_ext _ (World.grownBy_alloc _ _ _)) B;have J:Ext w V:=grown_own hg l (λb C m=>by have:=(hO.lt b C).1;omega);rw[List.append_assoc,<-List.replicate_succ'] at A;clear hO B l z;go_roundw
     case rel=>exact⟨k+1,v5,rfl,by go_num,by omega,J,A⟩
     case measure=>simp[intOf];omega
    ·have K:k=x:=by omega
     subst K;rw[<-R.out.1] at hO;go_wp2;clear z;go_roundw
     case rel=>exact⟨i+1,v4,rfl,by go_num,by omega,hg,hO⟩
     case measure=>simp[intOf];omega
  ·have L:i=e.length:=by omega
   subst L;go_wp2;go_ret;exact⟨_,rfl,hg,hO⟩
end Go.Proofs.YtldheeicjnncoaaGreat
namespace Go.Proofs.YtldheeicjnncoaaGreat
section
open Go.Proofs Go.Shelf Go.RowKit Go.Lib Go.Sort
def Tryz.reverseInts_ren : Go.Shelf.Ren := ⟨fun | 35 => 305 | n => n, fun | 22 => 24 | 23 => 2 | 3 => 3 | 4 => 4 | 0 => 0 | n => n, fun | n => n⟩
theorem Tryz.reverseInts : Go.Proofs.SlLaysE.n35 Tryz.prog Tryz.reverseInts_ren := {
  mixed := by kernel_rfl
  f35 := ⟨Tryz.f305.name, by decide, Tryz.func305.trans (congrArg some (by kernel_rfl))⟩
  t0 := Tryz.underlying0
  a0 := Tryz.isAgg0
  z0 := Tryz.sizeOf0
  v0 := Tryz.zeroValue0
  t3 := Tryz.underlying3
  a3 := Tryz.isAgg3
  z3 := Tryz.sizeOf3
  v3 := Tryz.zeroValue3
  t4 := Tryz.underlying4
  a4 := Tryz.isAgg4
  z4 := Tryz.sizeOf4
  v4 := Tryz.zeroValue4
  t22 := Tryz.underlying24
  a22 := Tryz.isAgg24
  z22 := Tryz.sizeOf24
  v22 := Tryz.zeroValue24
  a23 := Tryz.isAgg2
  z23 := Tryz.sizeOf2 }
theorem reverseI_ok (w:World) (base:Nat) (v:Value) (l:List Int) (h:Own base w v l) (u:l.length<=9223372036854775807) :
  Calls Tryz.prog 305 #[v] w λe w'=>e=.returned (.tuple #[])/\Own base w' v l.reverse/\w.grownBy w' v.ownBlock:=by
 obtain⟨y,h1|⟨g,cap,cur,hv,a,p,hn,b,k,q⟩⟩:=id h
 ·obtain ⟨rfl,hn⟩:=h1
  have i:l=[]:=List.eq_nil_of_length_eq_zero hn;subst i;have j:=AnyE.slices_Reverse_empty Tryz.reverseInts none 0 w;change Calls Tryz.prog 305 _ _ _ at j;refine j.mono ?_;rintro e w' ⟨rfl,rfl⟩;exact⟨rfl,h,grown_refl _ _⟩
 ·subst hv
  have m:cur.toList.take l.length=l.map (Value.int .i64):=by rw[Nat.mul_one] at q;exact q
  have j:=AnyE.slices_Reverse Tryz.reverseInts (Value.int .i64) (λ_=>rfl) g 0 cap l w (holds_of_blockI p m) u;change Calls Tryz.prog 305 _ _ _ at j;refine j.mono ?_;rintro e w' ⟨rfl,n,rfl⟩;have o:=ownsRow_sortedI (w:=w) (n:=n) (os := #[]) (ss:=l) (ts:=l.reverse) (by simp) a p hn b k;have r:=grownBy_sortedI (w:=w) (g:=g) (n:=n) (os := #[]) l.reverse.toArray;rw[grow_empty] at o r;refine⟨rfl,?_,r⟩;show World.ownsRow _ _ _ _ _ _ _
  rw[List.length_reverse];exact o
end
open Go.RowKit
theorem invertWord_ok (w:World) (v:Value) (l:List Int) (S:Nat->Prop) (I:Ints S w v l) (hn:l.length<=1000) (A:∀i,i<l.length -> -1000<=gt l i/\gt l i<=1000) :
  Calls Tryz.prog 226 #[v] w (Ret w λw' r=>Own w.heap.size w' r (invWord l)):=by
 obtain⟨a,cap,rfl,_,_⟩:=I.shape;have K:=Lib.hid A;clear A;go_enter Tryz.func226,Tryz.ntmps226;go_wp2;go_loopw [3,8] (λL G wr=>∃(i:Nat) (v3:Value),v3=L/\G=.int .i64 i/\i<=l.length/\Ext w wr/\Own w.heap.size wr v3 ((l.take i).map (λx => -x))) (λ_ G _=>l.length-(intOf G).toNat)
 case atStart=>exact⟨0,_,rfl,rfl,by omega,Ext.refl _,World.ownsRow_nil _ _ _ _⟩
 case round=>
  obtain⟨i,v3,rfl,rfl,hi,E,hO⟩:=hrel;obtain⟨m,B⟩:∃m,m=(l.take i).map (λx => -x):=⟨_,rfl⟩;have y:m.length=i:=by rw[B,List.length_map,List.length_take];omega
  rw[<-B] at hO;by_cases e:i<l.length
  ·have J:(i:Int)<l.length:=by omega
   obtain⟨b,off,rfl,_,_,hc⟩:=Ints.at (I.ext E) i e;have M:=K.out i e;have N:IntKind.i64.wrap (-(gt l i)) = -(gt l i):=IntWalk.i64_in _ (by omega)
   have C:(l.take (i+1)).map (λx => -x)=m++[-(gt l i)]:=by
    rw[B,List.take_add_one,List.map_append,List.getElem?_eq_getElem e];simp[gt_eq l i e]
   have D:=Lib.hid (And.intro y C);clear y C B;go_wp2_with (first|(at_builtin;refine wp_app_ints rfl _ _ rfl w.heap.size v3 _ rfl (hO.ext0 (World.grownBy_alloc _ _ _)) _ _ rfl Any (ints_lit wr _) (by have:=D.out.1;simp only[List.length_cons,List.length_nil];omega) (by have:=E.size;simp;omega) ?_;intro v5 F k j _)|fail)
   have p:wr.grownBy F v3.ownBlock:=grown_trans (grown_of_ext _ (World.grownBy_alloc _ _ _)) j;have z:Ext w F:=grown_own E p (λb A e=>by have:=(hO.lt b A).1;omega);clear hO j p hc N;go_roundw
   case rel=>exact⟨i+1,v5,rfl,by go_num,by omega,z,by rw[D.out.2];exact k⟩
   case measure=>simp[intOf];omega
  ·have H:i=l.length:=by omega
   subst H;have q:m.length<=9223372036854775807:=by omega
   have u:m.reverse=invWord l:=by rw[B,List.take_length];rfl
   have D:=Lib.hid (And.intro u q);clear y B u q;go_wp2_with fail
   refine Calls.mono (reverseI_ok wr w.heap.size v3 m hO D.out.2) ?_;rintro O F ⟨rfl,k,j⟩;have z:Ext w F:=grown_own E j (λb A e=>by have:=(hO.lt b A).1;omega);rw[D.out.1] at k;clear hO j;go_wp2;go_ret;exact⟨_,rfl,z,k⟩
section
open Go.Proofs Go.Shelf Go.RowKit Go.Lib
def Tryz.bitsMul_ren : Go.Shelf.Ren := ⟨fun | 212 => 304 | 263 => 350 | 264 => 351 | n => n, fun | 46 => 206 | 51 => 271 | 146 => 277 | 53 => 69 | 148 => 279 | n => n, fun | n => n⟩
theorem Tryz.bitsMul : Go.Proofs.Lays.n212 Tryz.prog Tryz.bitsMul_ren := {
  mixed := by kernel_rfl
  f212 := Tryz.func304.trans (congrArg some (by kernel_rfl))
  f263 := Tryz.func350.trans (congrArg some (by kernel_rfl))
  f264 := Tryz.func351.trans (congrArg some (by kernel_rfl))
  t46 := Tryz.underlying206
  a46 := Tryz.isAgg206
  z46 := Tryz.sizeOf206
  v46 := Tryz.zeroValue206
  t51 := Tryz.underlying271
  a51 := Tryz.isAgg271
  z51 := Tryz.sizeOf271
  v51 := Tryz.zeroValue271
  t53 := Tryz.underlying69
  a53 := Tryz.isAgg69
  z53 := Tryz.sizeOf69
  v53 := Tryz.zeroValue69
  t146 := Tryz.underlying277
  a146 := Tryz.isAgg277
  z146 := Tryz.sizeOf277
  v146 := Tryz.zeroValue277
  t148 := Tryz.underlying279
  a148 := Tryz.isAgg279
  z148 := Tryz.sizeOf279
  v148 := Tryz.zeroValue279 }
theorem bitsMul_ok (c:Nat) (w:World) (a:c<=1000):Calls Tryz.prog 304 #[.int .u64 1,.int .u64 (c:Int)] w λe w'=>e=.returned (.tuple #[.int .u64 0,.int .u64 (c:Int)])/\w'=w:=by
 have h:=Any.bits_Mul Tryz.bitsMul 1 c (by omega) (by omega) w;change Calls Tryz.prog 304 _ _ _ at h;refine h.mono ?_;rintro e w' ⟨rfl,rfl⟩;rw[Nat.one_mul,Nat.div_eq_of_lt (by omega),Nat.mod_eq_of_lt (by omega)];exact⟨rfl,rfl⟩
end
open Go.RowKit
def repC (y:Int) (c n:Nat):List Value:=List.replicate n (.int .i64 y)++List.replicate (c-n) (.int .i64 0)
theorem repC_len {y:Int}{c n:Nat}(h:n<=c):(repC y c n).length=c:=by unfold repC;simp;omega
theorem repC_splice {y:Int}{c n m:Nat}(h:n+m<=c):splice (repC y c n) n (List.replicate m (.int .i64 y))=repC y c (n+m):=by
 unfold splice repC;rw[List.take_append_of_le_length (by simp),List.take_of_length_le (by simp),List.drop_append,List.length_replicate,List.length_replicate,List.drop_replicate,List.drop_replicate,<-List.append_assoc,<-List.append_assoc];rw[show n-(n+m)=0 by omega,show c-n-(n+m-n)=c-(n+m) by omega];simp[List.replicate_append_replicate]
theorem ext_of_below {w w':World}(h:Below w.heap.size w w'):Ext w w':=⟨h.os,h.tape,h.output,h.size,λk hk _=>h.block k hk⟩
theorem srcOne {w:World}{b off:Nat}{u:Value}(h:w.cell? ⟨b,off,none⟩=some u):∀j v,([u]:List Value)[j]? = some v->w.cell? ((⟨b,off,none⟩:Addr).add j)=some v:=λj v a=>by
 have e:j=0:=by
  have:=(List.getElem?_eq_some_iff.1 a).1;simpa using this
 subst e;have:u=v:=by simpa using a
 subst this;simpa [Addr.add] using h
theorem srcRep {w:World}{H c n m:Nat}{y:Int}{T:Nat}(h:w.heap[H]? = some (.cells (repC y c n).toArray T (0,0))) (l:m<=n) :
  ∀j v,(List.replicate m (Value.int .i64 y))[j]? = some v->w.cell? ((⟨H,0,none⟩:Addr).add j)=some v:=λj v a=>by
 have b:j<m:=by
  have:=(List.getElem?_eq_some_iff.1 a).1;simpa using this
 have:Value.int .i64 y=v:=by
  rw[List.getElem?_eq_getElem (by simpa using b)] at a;simpa using a
 subst this
 have e:(repC y c n)[j]? = some (.int .i64 y):=by
  unfold repC;rw[List.getElem?_append_left (by simp;omega),List.getElem?_eq_getElem (by simp;omega)];simp
 have k:w.cell? ⟨H,0+j,none⟩=some (.int .i64 y):=by
  simp only[World.cell?,h,Nat.zero_add,Option.isSome_none,Bool.false_eq_true,if_false];rw[<-Array.getElem?_toList];exact e
 unfold Addr.add;split
 ·rename_i i;subst i;exact k
 ·exact k
theorem rowOf {base H c:Nat}{w:World}(h:Own base w (.slice (some ⟨H,0,none⟩) c c) (List.replicate c 0)):∃a:Array Value,w.heap[H]? = some (.cells a 2 (0,0))/\∀y,a=(repC y c 0).toArray:=by
 obtain⟨_,h|⟨g,cp,a,hv,_,hb,_,_,hsz,b⟩⟩:=h
 ·exact absurd h.1 (by simp)
 simp only[Value.slice.injEq,Option.some.injEq,Addr.mk.injEq] at hv;obtain⟨⟨rfl,_⟩,_,rfl⟩:=hv;refine⟨a,hb,λy => ?_⟩;apply Array.ext';have e:a.toList.length=c:=by simpa using hsz
 rw[List.length_replicate,List.take_of_length_le (by omega)] at b;rw[b];simp[repC]
theorem repeatI_ok (w:World) (v:Value) (y:Int) (c:Nat) (S:Nat->Prop) (K:Ints S w v [y]) (Q:1<=c/\c<=1000) :
  Calls Tryz.prog 225 #[v,.int .i64 (c:Int)] w (Ret w λw' r=>Own w.heap.size w' r (List.replicate c y)):=by
 obtain⟨a,cap,rfl,j,_⟩:=K.shape;obtain⟨b,off,rfl,_,_,hcell⟩:=Ints.at K 0 (by simp);have j:1<=cap:=j;have hy:gt [y] 0=y:=rfl;rw[hy,Nat.add_zero] at hcell;have L:[y].length=1:=rfl;rw[L];go_enter Tryz.func225,Tryz.ntmps225;go_wp2_with fail
 refine Calls.mono (bitsMul_ok c w Q.2) ?_;rintro e1 e ⟨rfl,rfl⟩;go_wp2_with (first|(at_make;refine wp_make_ints rfl _ _ rfl e.heap.size c e.heap.size rfl (c:Int) rfl rfl rfl (by omega) (Nat.le_refl _) ?_;intro w2 q u R;obtain⟨W,p,k⟩:=rowOf q;rw[k y] at p;have z:=u.cell hcell (by simp);clear q k)|(refine wpList_copy_splice rfl _ _ _ _ rfl 2 (by kernel_rfl) (by kernel_rfl) (some ⟨e.heap.size,0,none⟩) (some ⟨b,off,none⟩) c c 1 cap rfl rfl e.heap.size 0 (repC y c 0) 2 p [.int .i64 y] (Nat.min_eq_left Q.1).symm (λ_=>⟨rfl,_,rfl,srcOne z⟩) (by rw[repC_len (by omega)];simp;omega) (by simp;rfl) e.heap.size e u.below (Nat.le_refl _) ?_;intro U A B)|fail)
 have l:Hid (U.heap[e.heap.size]? = some (.cells (repC y c 1).toArray 2 (0,0))):=by
  have:=A;rw[show([.int .i64 y]:List Value)=List.replicate 1 (.int .i64 y) from rfl,repC_splice (by omega)] at this;exact this
 have C:Ext e U:=ext_of_below B;clear A B p z;go_wp2;go_loopw [8] (λM wr=>∃n:Nat,M=.int .i64 n/\1<=n/\n<=c/\Ext e wr/\Hid (wr.heap[e.heap.size]? = some (.cells (repC y c n).toArray 2 (0,0)))) (λM _=>c-(intOf M).toNat)
 case atStart=>exact⟨1,rfl,by omega,by omega,C,l⟩
 case round=>
  clear C l;obtain⟨n,rfl,h1,hn,hE,hb⟩:=hrel;by_cases X:n<c
  ·have V:(n:Int)<c:=by omega
   obtain⟨m,D⟩:∃m,m=Nat.min n (c-n):=⟨_,rfl⟩;have N:m<=n/\m<=c-n/\1<=m:=⟨by rw[D];exact Nat.min_le_left _ _,by rw[D];exact Nat.min_le_right _ _,by rw[D];exact Nat.le_min.2 ⟨h1,by omega⟩⟩;have E:(List.replicate m (Value.int .i64 y)).length=Nat.min n (c-n):=by rw[List.length_replicate,D]
   have F:Below e.heap.size e wr.drew:=Ext.below (grown_trans hE (grown_drew wr none));have i:¬c=n:=by omega
   have G:wr.drew.heap[e.heap.size]? = some (.cells (repC y c n).toArray 2 (0,0)):=hb.out;have H:=Lib.hid (And.intro E (And.intro F (And.intro i G)));clear D E F i G;go_wp2;go_region_law (refine step_copy_splice rfl _ _ _ _ rfl 2 (by kernel_rfl) (by kernel_rfl) (if c=n then some ⟨e.heap.size,0,none⟩ else some ⟨e.heap.size,n,none⟩) (some ⟨e.heap.size,0,none⟩) (c-n) (c-n) n c (by kernel_rfl) (by kernel_rfl) e.heap.size n (repC y c n) 2 H.out.2.2.2 (List.replicate m (.int .i64 y)) H.out.1 (λ_=>⟨if_neg H.out.2.2.1,_,rfl,srcRep H.out.2.2.2 N.1⟩) (by rw[repC_len hn,List.length_replicate];omega) (λv K=>by rw[(List.mem_replicate.1 K).2];rfl) e.heap.size e H.out.2.1 (Nat.le_refl _) ?_;intro Y I J)
   have O:Hid (Y.heap[e.heap.size]? = some (.cells (repC y c (n+m)).toArray 2 (0,0))):=by
    have:=I;rw[repC_splice (by omega)] at this;exact this
   have Z:=ext_of_below J;have aa:(List.replicate m (Value.int .i64 y)).length=m:=List.length_replicate;have ab:IntKind.i64.wrap ((n:Int)+m)=n+m:=IntWalk.i64_in _ (by omega);clear I J hE hb;go_wp2;go_roundw
   case rel=>exact⟨n+m,by omega,by omega,by omega,O⟩
   case measure=>simp[intOf];omega
  ·have i:n=c:=by omega
   subst i
   have hO:Own e.heap.size wr (.slice (some ⟨e.heap.size,0,none⟩) n n) (List.replicate n y):=by
    refine⟨by simp,.inr ⟨e.heap.size,n,_,by rw[List.length_replicate],Nat.le_refl _,hb.out,by simp,by unfold maxLen;omega,by rw[List.size_toArray,repC_len (Nat.le_refl _)];omega,by simp[repC]⟩⟩
   go_wp2;go_ret;exact⟨_,rfl,hE,hO⟩
end Go.Proofs.YtldheeicjnncoaaGreat
namespace Go.Proofs.YtldheeicjnncoaaGreat
open Go.RowKit
theorem step_app_many (T E:Nat) (z:Value) (bytes:Nat) (H:Tryz.prog.underlying T=some (.slice E)) (hE:(Tryz.prog.info? E).map (λi=>(i.zero,i.size,i.bytes))=some (some z,1,bytes))
  (C:z.cells.size=1) (D:bytes<=64) {ops:Array Oper}{o:Oper}{a:Act}{K:Act->World->Prop}{Q:Exit->Act->World->Prop}{W:Prop}{w:World}(r:o.guard=none) (s x:Operand)
  (I:o.op=Op.call { callee:=Callee.builtin Builtin.append,args := #[s,x],argTypes := #[T,T] }) (base g cap:Nat) (xs:List Value) (J:a.eval s=.slice (some ⟨g,0,none⟩) xs.length cap) (k:OwnV base E w (.slice (some ⟨g,0,none⟩) xs.length cap) xs)
  (G:Option Addr) (m c:Nat) (news:List Value) (hx:a.eval x=.slice G m c) (O:news.length=m) (L:G=none->c=0)
  (l:∀j,j<m->∃b off,G=some ⟨b,off,none⟩/\w.cell? ⟨b,off+j,none⟩=some (gt news j)) (h1:∀u,u∈news->u.oneCell'=true) (R:xs.length+m<=1000000) (y:base<=w.heap.size)
  (h:∀v' w',OwnV base E w' v' (xs++news)->w.grownBy w' (some g)->K (a.put o.dst v') w') :
  if Region.wanted o (yielded ops a.tmps)=true then Oper.wp Tryz.prog o a w K Q else W:=by
 obtain⟨M,hi,hz0,hz1,hz2⟩:=info_parts hE;have X:Region.wanted o (yielded ops a.tmps)=true:=by simp[Region.wanted,r]
 rcases Nat.eq_zero_or_pos m with rfl|S
 ·have hn:news=[]:=List.eq_nil_of_length_eq_zero O
  subst hn;have p:=k;rw[List.append_nil] at h;cases G with
  | none=>
   have B:=L rfl;subst B;rw[if_pos X];have F:=run_append_owned_none (P:=Tryz.prog) (w:=w) base T o.type E M 1 H hi _ xs.length xs k;unfold Oper.wp;simp[execOp,I,resolve,invoke,builtin,J,hx,F,Result.andThen]
   exact h _ _ p (grown_refl _ _)
  | some Y=>
   have U:xs.length<=cap:=by
    rcases k.form with⟨h,_⟩|⟨Z,cp,hv,B,_⟩
    ·cases h
    ·simp only[Value.slice.injEq] at hv;omega
   refine step_append_at w r s x T I E M z 1 bytes H hi hz0 hz1 hz2 C (by decide) g 0 xs.length cap xs J (by omega) (λj u q => ?_) Y 0 c [] hx rfl (by simp) (by simp) (λ_ j q=>by simp at q) (by unfold maxLen;omega) (by have:=Nat.mul_le_mul (show xs.length+0<=1000000 by omega) D;omega) (λ_ => ?_) (λh=>by omega)
   ·have A:j<xs.length:=by
     rcases Nat.lt_or_ge j xs.length with h|h
     ·exact h
     ·rw[List.getElem?_eq_none h] at q;cases q
    rw[Nat.zero_add,k.cell j A];simp[gt,q]
   ·have e:w.setCells g (0+xs.length*1) []=w:=by simp[World.setCells]
    rw[e];exact h _ _ p (grown_refl _ _)
 ·obtain ⟨b,off,rfl,_⟩:=l 0 S
  refine step_append_lies w r s x T I base E M z 1 bytes H hi hz0 hz1 hz2 C (by decide) _ xs.length xs J k ⟨b,off,none⟩ m c news hx (by omega) (λj u q => ?_) h1 S (by unfold maxLen;omega) (by have:=Nat.mul_le_mul (show xs.length+m<=1000000 by omega) D;omega) y w.heap.size rfl ?_
  ·have A:j<m:=by
    rcases Nat.lt_or_ge j news.length with h|h
    ·omega
    ·rw[List.getElem?_eq_none h] at q;cases q
   obtain⟨b',off',he,B⟩:=l j A;cases he
   have N:gt news j=u:=by simp[gt,q]
   rw[N] at B;unfold Addr.add;split
   ·rename_i h0;subst h0;exact B
   ·exact B
  ·intro Z V w' k1 k2 k3 _
   exact h _ w' (by unfold OwnV;rw[List.length_append,O];exact k1) k2
theorem l01Own2N_ok (w:World) (v:Value) (L:List (List Int)) (S:Nat->Prop) (J:Rows2 S w v L) (K:∀x∈L,x.length<=1000000) (M:L.length<=1000000) :
  Calls Tryz.prog 216 #[v] w (Ret w λw' r=>RowsO w.heap.size w' r L/\∃g cap,r=.slice (some ⟨g,0,none⟩) L.length cap):=by
 obtain⟨a,cap,rfl,_,_⟩:=Sl.shape J;have Q:=Lib.hid K;clear K;go_enter Tryz.func216,Tryz.ntmps216;go_wp2;go_loopw [3,4] (λR A wr=>∃(i:Nat) (v4:Value),v4=R/\A=.int .i64 i/\i<=L.length/\Ext w wr/\RowsO w.heap.size wr v4 (L.take i)/\Hid (∃g cap,v4=.slice (some ⟨g,0,none⟩) i cap)) (λ_ A _=>L.length-(intOf A).toNat)
 case atStart=>exact⟨0,_,rfl,rfl,by omega,World.grownBy_alloc _ _ _,⟨[],λ_ _=>False,rfl,World.ownsRow_lit w #[] 0 (Nat.le_refl _) (by decide) rfl,by simp,by simp,by simp⟩,Lib.hid ⟨_,_,rfl⟩⟩
 case round=>
  obtain⟨i,v4,rfl,rfl,hi,z,hO,hN⟩:=hrel;by_cases l:i<L.length
  ·have N:(i:Int)<L.length:=by omega
   obtain⟨b,off,a2,cap2,rfl,_,_,hc,hr⟩:=Rows2.at (Rows2.ext J z) i l;have e:=take_succ_gt L i l;have p:=Q.out _ (gtMem l);have B:(L.take i).length<=1000000:=by rw[List.length_take];omega
   have m:=Lib.hid (And.intro e p);clear e p;go_wp2_with fail
   refine Calls.mono (l01Own_ok wr _ (gt L i) _ hr (by have:=m.out.2;omega)) ?_;rintro Y O ⟨U,rfl,C,fT⟩;have q:OwnIn (From wr.heap.size) O U (gt L i):=OwnIn.of fT (by have:=m.out.2;omega) (λj h1 _=>h1);obtain⟨Z,capy,gz,_,_⟩:=q.ints.shape;subst gz;clear hc;go_wp2_with (first|(at_builtin;refine wp_app_row rfl _ _ rfl w.heap.size wr O v4 _ (L.take i) (gt L i) rfl hO C q rfl rfl B z.size ?_;intro v5 w5 u D V;have y:=hO.extw z (Nat.le_refl _) D)|fail)
   have E:Hid (∃g cap,v5=.slice (some ⟨g,0,none⟩) (i+1) cap):=by
    obtain⟨W,G,F,H,_⟩:=u;have k:W.length=i+1:=by rw[F,List.length_append,List.length_take];simp;omega
    rcases H.form with⟨_,X⟩|⟨g,cp,h1,_⟩
    ·rw[X] at k;simp at k
    ·exact Lib.hid ⟨g,cp,by rw[h1,k]⟩
   go_roundw
   case rel=>exact⟨i+1,v5,rfl,by go_num,by omega,y,by rw[m.out.1];exact u,E⟩
   case measure=>simp[intOf];omega
  ·have I:i=L.length:=by omega
   subst I;rw[List.take_length] at hO;obtain⟨g,cp,eW⟩:=hN.out;subst eW;clear hN;go_wp2;go_ret;exact⟨_,rfl,z,hO,_,_,rfl⟩
theorem step_app_list {ops:Array Oper}{o:Oper}{a:Act}{K:Act->World->Prop}{Q:Exit->Act->World->Prop}{A:Prop}{w:World}(p:o.guard=none) (s x:Operand)
  (C:o.op=Op.call { callee:=Callee.builtin Builtin.append,args := #[s,x],argTypes := #[24,24] }) (B g cap n:Nat) (l m:List Int) (q:l.length=n) (D:a.eval s=.slice (some ⟨g,0,none⟩) n cap)
  (i:Own B w (.slice (some ⟨g,0,none⟩) n cap) l) (v:Value) (S:Nat->Prop) (E:Ints S w v m) (hx:a.eval x=v) (k:l.length+m.length<=1000000) (e:B<=w.heap.size)
  (h:∀v' w',Own B w' v' (l++m)->w.grownBy w' (some g)->K (a.put o.dst v') w') :
  if Region.wanted o (yielded ops a.tmps)=true then Oper.wp Tryz.prog o a w K Q else A:=by
 subst q;obtain⟨F,c,rfl,⟨_,_,hn⟩,hc⟩:=E;have r:(l.map (Value.int .i64)).length=l.length:=List.length_map ..;refine step_app_many 24 2 (.int .i64 0) 8 und_ints Tryz.infoInt rfl (by decide) p s x C B g cap (l.map (Value.int .i64)) (by rw[r];exact D) (by have:=i.v;rw[r];exact this) F m.length c (m.map (Value.int .i64)) hx (by simp) hn (λj y => ?_) (λu z => ?_) (by rw[r];exact k) e (λv' w' G H => ?_)
 ·obtain ⟨b,off,u,h1,_,_,I,h3⟩:=hc j y
  exact⟨b,off,h1,by rw[I,h3];simp[gt,y]⟩
 ·simp at z
  obtain⟨x,_,rfl⟩:=z;rfl
 ·exact h v' w' (Own.of (by rw[List.map_append];exact G)) H
theorem vec_word {P:Pr}(hP:Valid P) {e:List Int}(h:Vec P.orders e):(∀i,i<e.length->0<=gt e i/\gt e i<=7)/\(nWord e e.length=nWord e P.orders.length)/\(nWord e P.orders.length).length<=42 /\
  (∀i,i<(nWord e P.orders.length).length -> -1000<=gt (nWord e P.orders.length) i/\gt (nWord e P.orders.length) i<=1000):=by
 have a:=hP.n6
 have h1:∀i,i<e.length->0<=gt e i/\gt e i<=7:=λi hi=>by
  have b:=h.2 i (by rw[<-h.1];exact hi);have j:=hP.ord7 i (by rw[<-h.1];exact hi);omega
 refine⟨h1,by rw[h.1],?_,λi hi => ?_⟩
 ·have:=nWord_len (e:=e) (λi=>by
   by_cases hi:i<e.length
   ·exact(h1 i hi).2
   ·rw[gt_big (by omega)];decide) P.orders.length
  omega
 ·have:=WordN.nWord e P.orders.length (Nat.le_refl _) _ (gtMem hi)
  omega
theorem relPow_len {P:Pr}(hP:Valid P) {i:Nat}(hi:i<P.orders.length):(relPow P i).length<=50:=by
 have h1:=(vec_word hP (hP.pv i hi).1).2.2.1;have a:=hP.ord7 i hi;unfold relPow;rw[List.length_append,List.length_replicate,invWord_len];omega
theorem relCon_len {P:Pr}(hP:Valid P) {i k:Nat}(hi:i<P.orders.length) (hk:k<P.orders.length-1-i):(relCon P i k).length<=50:=by
 have h1:=(vec_word hP ((hP.cv i hi).2 k hk).1).2.2.1;unfold relCon;rw[List.length_append,invWord_len];simp;omega
theorem relTo_len {P:Pr}(hP:Valid P):∀i,i<=P.orders.length->(relTo P i).length<=P.orders.length+6*i
 | 0,_=>by rw[relTo,relPs_len];omega
 | i+1,h=>by
  have h1:=relTo_len hP i (by omega);have a:=(hP.cv i (by omega)).1;have:=hP.n6;rw[relTo,List.length_append,relCs_len];omega
theorem relators_ok (P:Pr) (hP:Valid P) (w:World) (pv:Value) (Sp:Nat->Prop) (aV:PresV Sp w pv P) :
  Calls Tryz.prog 132 #[pv] w (Ret w λw' v=>∃a n c,v=.tuple #[.slice a n c,.int .i64 0]/\RowsO w.heap.size w' (.slice a n c) (relsP P)):=by
 have ay:=hP.n6;have bu:P.powers.length<=P.orders.length/\P.orders.length<=P.powers.length:=by have:=hP.pl;omega
 have bv:P.conj.length<=P.orders.length/\P.orders.length<=P.conj.length:=by have:=hP.cl;omega
 obtain⟨vo,vp,vc,rfl,h3⟩:=aV;obtain⟨ao,u,rfl,_,_⟩:=h3.o.shape;obtain⟨ap,q,rfl,_,_⟩:=Sl.shape h3.p;obtain⟨ac,y,rfl,_,_⟩:=Sl.shape h3.c;have aA:Ext w (w.alloc (.cells #[.slice ao P.orders.length u,.slice ap P.powers.length q,.slice ac P.conj.length y] 28)):=World.grownBy_alloc _ _ _;have aB:(w.alloc (.cells #[.slice ao P.orders.length u,.slice ap P.powers.length q,.slice ac P.conj.length y] 28)).heap.size=w.heap.size+1:=by simp
 have Y:=h3.ext aA;obtain⟨_,dM,aW,hcc,_⟩:=Box3.made w 28 (.slice ao P.orders.length u) (.slice ap P.powers.length q) (.slice ac P.conj.length y);have al:=isPresentation_ok (w.alloc (.cells #[.slice ao P.orders.length u,.slice ap P.powers.length q,.slice ac P.conj.length y] 28)) (.agg #[.slice ao P.orders.length u,.slice ap P.powers.length q,.slice ac P.conj.length y]) P Sp ⟨_,_,_,rfl,Y⟩;rw[validB_true hP] at al;have aX:=Y.o;have aY:=Y.p;have aZ:=Y.c;have HO:=Lib.hid hP.ord7;go_enter Tryz.func132,Tryz.ntmps132;go_wp2_with fail
 refine Calls.mono al ?_;rintro e1 z ⟨v1,rfl,D,rfl⟩;clear al;generalize a0:w.alloc (.cells #[.slice ao P.orders.length u,.slice ap P.powers.length q,.slice ac P.conj.length y] 28)=w0 at *;clear a0;have am:=D.cell dM (by simp);have HS:=Lib.hid aB;clear aB;have bz:w.heap.size<=z.heap.size:=by have:=HS.out;have:=D.size;omega
 go_wp2;clear am;go_loopw [4,18] (λov iv wr=>∃(i:Nat) (v4:Value),v4=ov/\iv=.int .i64 i/\i<=P.orders.length/\Ext z wr/\RowsO z.heap.size wr v4 (relPs P i)) (λ_ iv _=>P.orders.length-(intOf iv).toNat)
 case atStart=>exact⟨0,_,rfl,rfl,by omega,Ext.refl _,SlO.nil _ _ _ _⟩
 case round=>
  obtain⟨i,v4,rfl,rfl,hi,A,hO⟩:=hrel;have m:=grown_trans D A;have Z:=relPs_len P i;obtain⟨R,I⟩:∃R,R=relPs P i:=⟨_,rfl⟩;rw[<-I] at hO Z;obtain⟨a4,J,hv4,_,_⟩:=SlD.shape (hO.toD (by omega));subst hv4;have a5:=Lib.hid Z;clear Z;by_cases e:i<P.orders.length
  ·have aD:(i:Int)<P.orders.length:=by omega
   obtain⟨b,off,rfl,_,_,hc⟩:=Ints.at (aX.ext m) i e;obtain⟨x,hx⟩:∃x,x=(gt P.orders i).toNat:=⟨_,rfl⟩;have a6:=HO.out i e;have aE:gt P.orders i=(x:Int):=by omega
   have a7:1<=x/\x<=1000:=by omega
   rw[aE] at hc;have hrel:relPow P i=List.replicate x ((i:Int)+1)++invWord (nWord (gt P.powers i) P.orders.length):=by rw[hx];rfl
   have B:=relPow_len hP e;have K:=vec_word hP (hP.pv i e).1;have L:relPs P (i+1)=R++[relPow P i]:=by rw[I];rfl
   have r:=Lib.hid (And.intro hrel (And.intro B (And.intro K L)));clear hrel B K L a6 hx aE I;have bA:(i:Int)<P.powers.length:=by omega
   obtain⟨bp,op,a2,ae,rfl,_,_,aF,pz⟩:=Rows2.at aY i (by omega);have e1:∀w',Ext z w'->w'.cell? ⟨w.heap.size,1,none⟩=some (.slice (some ⟨bp,op,none⟩) P.powers.length q):=λw' h=>(grown_trans D h).cell aW (by simp);have e2:∀w',Ext z w'->w'.cell? ⟨bp,op+i,none⟩=some (.slice a2 (gt P.powers i).length ae):=λw' h=>(grown_trans D h).cell aF (by simp);have a8:=Ints.ext pz m;have bC:IntKind.i64.wrap ((i:Int)+1)=(i:Int)+1:=IntWalk.i64_in _ (by omega);go_wp2;have M:Ext wr (wr.alloc (.cells #[.int .i64 ((i:Int)+1)] 2)).drew:=grown_trans (World.grownBy_alloc _ _ _) (grown_drew _ _);have E:=Ints.ext (ints_lit wr ((i:Int)+1)) (grown_drew (wr.alloc (.cells #[.int .i64 ((i:Int)+1)] 2)) none)
   go_region_held3 (λw'=>Ext z w') (first|exact grown_trans A (grown_drew _ _)|exact grown_trans A (by assumption)|exact F|exact grown_trans A (grown_trans C (World.grownBy_alloc _ _ _)))
    (first
     | (go_at_call 225;refine Calls.mono (Calls.rel2 (w0:=wr) (by assumption) (repeatI_ok _ _ ((i:Int)+1) x Any (by first|exact E|exact Ints.ext E (by assumption)|exact Ints.ext E (grown_trans af ag)) a7)) ?_;rintro eR wR ⟨vR,rfl,aG,qZ,aq,N⟩;obtain⟨gR,cR,aH,_,_⟩:=N.form (by rw[List.length_replicate];omega);rw[List.length_replicate] at aH;subst aH)
     | (go_at_call 227;refine Calls.mono (Calls.rel2 (w0:=wr) (by assumption) (normalWord_ok _ _ (gt P.powers i) Any (Ints.sub (Ints.ext a8 (by assumption)) (λ_ _ _=>trivial)) (by have:=r.out.2.2.1.1;rw[(hP.pv i e).1.1];exact ay) r.out.2.2.1.1)) ?_;rintro eN wN ⟨vN,rfl,iV,af,q9,G⟩;rw[r.out.2.2.1.2.1] at G;have O:=G.ints (by have:=r.out.2.2.1.2.2.1;omega))
     | (go_at_call 226;refine Calls.mono (Calls.rel2 (w0:=wr) (by assumption) (invertWord_ok _ _ (nWord (gt P.powers i) P.orders.length) Any (by first|exact Ints.sub O (λ_ _ _=>trivial)|exact Ints.sub (Ints.ext O (by assumption)) (λ_ _ _=>trivial)) (by have:=r.out.2.2.1.2.2.1;omega) r.out.2.2.1.2.2.2)) ?_;rintro eI wI ⟨vI,rfl,Q,ag,mI,j5⟩;have S:=j5.ints (by rw[invWord_len];have:=r.out.2.2.1.2.2.1;omega))
     | (refine step_app_list rfl _ _ rfl wr.heap.size gR cR x (List.replicate x ((i:Int)+1)) (invWord (nWord (gt P.powers i) P.orders.length)) (List.length_replicate ..) rfl (by first|exact N.weak aq|exact(N.weak aq).ext0 (by assumption)|exact(N.weak aq).ext0 (grown_trans af ag)) _ Any (by first|exact Ints.sub S (λ_ _ _=>trivial)|exact Ints.sub (Ints.ext S (by assumption)) (λ_ _ _=>trivial)) rfl (by rw[List.length_replicate,invWord_len];have:=r.out.2.2.1.2.2.1;omega) (by first|exact Q.size|exact aG.size) ?_
        intro vL wL U V;rw[<-r.out.1] at U;have H:OwnIn (From wr.heap.size) wL vL (relPow P i):=OwnIn.of U (by have:=r.out.2.1;omega) (λj h1 _=>h1)
        have C:Ext wr wL:=by
         have bI:wr.heap.size<=gR:=by have:=(N.lt gR rfl).1;omega
         first|exact grown_own Q V (λj hj e=>by cases hj;omega)|exact grown_own aG V (λj hj e=>by cases hj;omega)
        obtain⟨aL,cL,kR,_,_⟩:=H.ints.shape;subst kR)
     | (refine step_app_row rfl _ _ rfl z.heap.size wr wL _ _ R (relPow P i) rfl hO C H rfl rfl (by have:=a5.out;omega) A.size ?_;intro v5 w5 W ab ah;have F:Ext z w5:=grown_own A ab (λj hj e=>by have:=(hO.lt j hj).1;omega)))
   rw[<-r.out.2.2.2] at W;clear e1 e2 M E hO hc;go_wp2;go_roundw
   case rel=>exact⟨i+1,v5,rfl,by go_num,by omega,F,W⟩
   case measure=>simp[intOf];omega
  ·have au:i=P.orders.length:=by omega
   subst au;have aI:RowsO z.heap.size wr (.slice a4 R.length J) (relTo P 0):=by rw[I] at hO ⊢;exact hO
   have am:=m.cell dM (by simp);clear hO I;go_wp2;clear am;go_loopw [4,43] (λov iv wr=>∃(i:Nat) (v4:Value),v4=ov/\iv=.int .i64 i/\i<=P.orders.length/\Ext z wr/\RowsO z.heap.size wr v4 (relTo P i)) (λ_ iv _=>P.orders.length-(intOf iv).toNat)
   case atStart=>exact⟨0,_,rfl,rfl,by omega,A,aI⟩
   case round=>
    clear aI A m;obtain⟨i,v4,rfl,rfl,hi,A,hO⟩:=hrel;have m:=grown_trans D A;have Z:=relTo_len hP i hi;by_cases e:i<P.orders.length
    ·have aD:(i:Int)<P.orders.length:=by omega
     have bK:(i:Int)<P.conj.length:=by omega
     have aJ:=m.cell hcc (by simp);obtain⟨bc,oc,a2,ae,rfl,_,_,jZ,hrc⟩:=Rows3.at aZ i (by omega);have aK:=m.cell jZ (by simp);have aM:=hP.cv i e;have aN:RowsO z.heap.size wr v4 (relTo P i++relCs P i 0):=by rw[relCs,List.append_nil];exact hO
     have aO:=Lib.hid aM;clear aM hO;go_wp2;clear aJ aK;go_loopw [4,52] (λov kv wr=>∃(k:Nat) (v4:Value),v4=ov/\kv=.int .i64 k/\k<=(gt P.conj i).length/\Ext z wr/\RowsO z.heap.size wr v4 (relTo P i++relCs P i k)) (λ_ kv _=>(gt P.conj i).length-(intOf kv).toNat)
     case atStart=>exact⟨0,_,rfl,rfl,by omega,A,aN⟩
     case round=>
      clear aN;clear A m;obtain⟨k,v4,rfl,rfl,hk,A,hO⟩:=hrel;have m:=grown_trans D A;have ai:=aO.out.1;have ad:(relTo P i++relCs P i k).length<=100:=by rw[List.length_append,relCs_len];omega
      obtain⟨R,I⟩:∃R,R=relTo P i++relCs P i k:=⟨_,rfl⟩;rw[<-I] at hO ad;obtain⟨a4,J,hv4,_,_⟩:=SlD.shape (hO.toD (by omega));subst hv4;by_cases aQ:k<(gt P.conj i).length
      ·have bd:(k:Int)<(gt P.conj i).length:=by omega
       obtain⟨bk,ok,a3,cap3,rfl,_,_,mQ,aR⟩:=Rows2.at hrc k aQ;have be:=m.cell mQ (by simp);have av:=(aO.out.2 k (by omega)).1;have K:=vec_word hP av;have B:=relCon_len hP (k:=k) e (by omega);have bL:i+k+1<P.orders.length:=by omega
       have L:relTo P i++relCs P i (k+1)=R++[relCon P i k]:=by rw[I,relCs,List.append_assoc]
       have aS:(gt (gt P.conj i) k).length<=6:=by rw[av.1];exact ay
       have r:=Lib.hid (And.intro K (And.intro B (And.intro L (And.intro ad aS))));clear K B L av I ai ad aS;have bf:IntKind.i64.wrap ((i:Int)+1)=(i:Int)+1:=IntWalk.i64_in _ (by omega);have bg:IntKind.i64.wrap ((i:Int)+k)=(i:Int)+k:=IntWalk.i64_in _ (by omega);have bh:IntKind.i64.wrap ((i:Int)+k+2)=(i:Int)+k+2:=IntWalk.i64_in _ (by omega);have bi:IntKind.i64.wrap (-((i:Int)+1)) = -((i:Int)+1):=IntWalk.i64_in _ (by omega);go_wp2_with fail
       have M:Ext wr (wr.alloc (.cells #[.int .i64 (-((i:Int)+1)),.int .i64 ((i:Int)+k+2),.int .i64 ((i:Int)+1)] 2)):=World.grownBy_alloc _ _ _;have aT:Own wr.heap.size (wr.alloc (.cells #[.int .i64 (-((i:Int)+1)),.int .i64 ((i:Int)+k+2),.int .i64 ((i:Int)+1)] 2)) (.slice (some ⟨wr.heap.size,0,none⟩) 3 3) [-((i:Int)+1),(i:Int)+k+2,(i:Int)+1]:=World.ownsRow_lit wr #[.int .i64 (-((i:Int)+1)),.int .i64 ((i:Int)+k+2),.int .i64 ((i:Int)+1)] 3 (Nat.le_refl _) (by decide) rfl;generalize bj:wr.alloc (.cells #[.int .i64 (-((i:Int)+1)),.int .i64 ((i:Int)+k+2),.int .i64 ((i:Int)+1)] 2)=wl at *;clear bj bf bg bh bi be mQ;refine Calls.mono (normalWord_ok wl _ (gt (gt P.conj i) k) Any (Ints.sub (Ints.ext aR (grown_trans m M)) (λ_ _ _=>trivial)) r.out.2.2.2.2 r.out.1.1) ?_;rintro eN wN ⟨vN,rfl,iV,G⟩;rw[r.out.1.2.1] at G;have O:=G.ints (by have:=r.out.1.2.2.1;omega);go_wp2_with fail
       refine Calls.mono (invertWord_ok wN _ (nWord (gt (gt P.conj i) k) P.orders.length) Any (Ints.sub O (λ_ _ _=>trivial)) (by have:=r.out.1.2.2.1;omega) r.out.1.2.2.2) ?_;rintro eI wI ⟨vI,rfl,Q,j5⟩;have S:=j5.ints (by rw[invWord_len];have:=r.out.1.2.2.1;omega);have aj:=grown_trans iV Q;have ak:=aT.ext0 aj;have X:=grown_trans M aj;clear G O j5 iV Q aT M;go_wp2_with (first|(at_builtin;refine wp_app_ints rfl _ _ rfl wr.heap.size _ _ rfl ak _ _ rfl _ S (by rw[invWord_len];have:=r.out.1.2.2.1;simp only[List.length_cons,List.length_nil];omega) X.size ?_;intro vL wL U V _;have C:Ext wr wL:=grown_own X V (λj hj e=>by have:=own_blk hj;omega);have H:OwnIn (From wr.heap.size) wL vL (relCon P i k):=OwnIn.of (l:=relCon P i k) U (by have:=r.out.2.1;omega) (λj h1 _=>h1);obtain⟨aL,cL,kR,_,_⟩:=H.ints.shape;subst kR;clear U ak S V X)|(at_builtin;refine wp_app_row rfl _ _ rfl z.heap.size wr wL _ _ R (relCon P i k) rfl hO C H rfl rfl (by have:=r.out.2.2.2.1;omega) A.size ?_;intro v5 w5 W ab ah)|fail)
       have F:Ext z w5:=grown_own A ab (λj hj e=>by have:=(hO.lt j hj).1;omega);rw[<-r.out.2.2.1] at W;clear hO H ab ah C;go_roundw
       case rel=>exact⟨k+1,v5,rfl,by go_num,by omega,F,W⟩
       case measure=>simp[intOf];omega
      ·have bl:k=(gt P.conj i).length:=by omega
       subst bl;have bm:RowsO z.heap.size wr (.slice a4 R.length J) (relTo P (i+1)):=by rw[relTo,<-I];exact hO
       clear hO I ai ad;go_wp2;go_roundw
       case rel=>exact⟨i+1,_,rfl,by go_num,by omega,A,bm⟩
       case measure=>simp[intOf];omega
    ·have au:i=P.orders.length:=by omega
     subst au;have aU:RowsO w.heap.size wr v4 (relsP P):=hO.weak (by omega);obtain⟨az,capz,fR,_,_⟩:=SlD.shape (hO.toD (by omega));subst fR;clear hO;go_wp2;go_ret2
     exact⟨_,rfl,grown_trans aA m,_,_,_,rfl,aU⟩
theorem evaluate_ok (Q:Pr) (G:Grp Q) (w:World) (p wv N:Value) (W:List Int) (Is:List (List Int)) (Sp Sw Si:Nat->Prop) (R:PresP Sp w p Q) (hw:Ints Sw w wv W) (hi:Rows2 Si w N Is) (hI:∀x∈Is,Vec Q.orders x)
  (hW:WordN Is.length W) (an:W.length<=1000) (ap:Is.length<=6) :
  Calls Tryz.prog 228 #[p,wv,N] w (Ret w λw' v=>Own w.heap.size w' v (evalTo Q Is W W.length)):=by
 have hP:=G.v;have ab:=hP.n6;obtain⟨pb,po,rfl⟩:=R.shape;obtain⟨ao,capo,dM,hoi⟩:=R.ordAt;obtain⟨aw,capw,rfl,_,_⟩:=hw.shape;obtain⟨ai,capi,rfl,_,_⟩:=Sl.shape hi;have S:=Lib.hid (And.intro hI hW);clear hI hW;go_enter Tryz.func228,Tryz.ntmps228;go_wp2_with (first|(at_make;refine wp_make_ints rfl _ _ rfl w.heap.size Q.orders.length w.heap.size rfl _ rfl rfl rfl (by omega) (Nat.le_refl _) ?_;intro w1 U ac aj)|fail)
 clear dM;generalize Value.slice (some ⟨w.heap.size,0,none⟩) Q.orders.length Q.orders.length=r at *;go_loopw [19] (λN wr=>∃k:Nat,N=.int .i64 k/\k<=W.length/\Ext w wr/\Own w.heap.size wr r (evalTo Q Is W k)) (λN _=>W.length-(intOf N).toNat)
 case atStart=>exact⟨0,rfl,by omega,ac,U⟩
 case round=>
  clear U;obtain⟨k,rfl,hk,D,hO⟩:=hrel;have hE:=G.eval_vec S.out.1 S.out.2 k hk;by_cases V:k<W.length
  ·have ak:(k:Int)<W.length:=by omega
   obtain⟨bw,ow,rfl,_,_,J⟩:=Ints.at (hw.ext D) k V;obtain⟨l,O⟩:∃l,l=gt W k:=⟨_,rfl⟩;rw[<-O] at J;have hb:=S.out.2 l (by rw[O];exact gtMem V);obtain⟨E,q⟩:∃E,E=evalTo Q Is W k:=⟨_,rfl⟩;rw[<-q] at hO hE;by_cases i:l<0
   ·obtain ⟨t,ht⟩:∃t:Nat,t=(-l-1).toNat:=⟨_,rfl⟩
    have u:t<Is.length:=by omega
    have y : -l=(t:Int)+1:=by omega
    have b:=S.out.1 _ (gtMem u);have z:evalTo Q Is W (k+1)=rMul Q E (rInv Q (gt Is t)):=by rw[evalTo,<-O,if_pos i,<-ht,q]
    have K:=G.invV b;have X:=G.iInv_eq b;have A:=G.tv_eq hE K;have a:=abs_ok l wr (by omega);rw[if_pos i,y] at a;have Y:(t:Int)<Is.length:=by omega
    have ad:IntKind.i64.wrap ((t:Int)+1-1)=(t:Int):=by rw[show(t:Int)+1-1=t by omega];exact IntWalk.i64_in _ (by omega)
    obtain⟨bx,ox,a2,cap2,rfl,_,_,B,L⟩:=Rows2.at (Rows2.ext hi D) t u;have m:=Lib.hid (And.intro b (And.intro z (And.intro K (And.intro X (And.intro A hE)))));clear b z K X A hE q O ht y;go_wp2_with fail
    refine Calls.mono a ?_;rintro e2 w2 ⟨rfl,rfl⟩;clear a;go_wp2_with fail
    refine Calls.mono (invert_ok Q hP wr _ _ (gt Is t) Sp Si (R.ext D) L m.out.1) ?_;rintro e3 w3 ⟨v3,rfl,hg3,F⟩;rw[m.out.2.2.2.1] at F;have H:=hO.ext0 hg3;have I:=grown_trans D hg3;have Z:(rInv Q (gt Is t)).length<=6:=by rw[m.out.2.2.1.1];exact ab
    have aa:Ints (Off r.ownBlock) w3 v3 (rInv Q (gt Is t)):=ints_of_own F (by omega) (λj hj e=>by have h1:=(F.lt j hj).1;have h2:=(hO.lt j e).2;omega);clear F J B;go_wp2_with fail
    refine Calls.mono (timesVector_ok Q hP w.heap.size w3 _ r v3 E _ (R.mono (off_of H (Nat.le_refl _) I)) H m.out.2.2.2.2.2 aa m.out.2.2.1) ?_;rintro e4 w4 ⟨v4,rfl,M,rfl,jT⟩;have C:=mut_ext I H (Nat.le_refl _) M;rw[m.out.2.2.2.2.1,<-m.out.2.1] at jT;clear hO H aa Z;go_wp2;go_roundw
    case rel=>exact⟨k+1,by go_num,by omega,C,jT⟩
    case measure=>simp[intOf];omega
   ·obtain ⟨t,ht⟩:∃t:Nat,t=(l-1).toNat:=⟨_,rfl⟩
    have u:t<Is.length:=by omega
    have y:l=(t:Int)+1:=by omega
    have b:=S.out.1 _ (gtMem u);have z:evalTo Q Is W (k+1)=rMul Q E (gt Is t):=by rw[evalTo,<-O,if_neg i,<-ht,q]
    have A:=G.tv_eq hE b;have a:=abs_ok l wr (by omega);rw[if_neg i] at a;have Y:(t:Int)<Is.length:=by omega
    have ad:IntKind.i64.wrap (l-1)=(t:Int):=by rw[y,show(t:Int)+1-1=t by omega];exact IntWalk.i64_in _ (by omega)
    obtain⟨bx,ox,a2,cap2,rfl,_,_,B,L⟩:=Rows2.at hi t u;have m:=Lib.hid (And.intro b (And.intro z (And.intro A hE)));clear b z A hE q O ht y;have B:=D.cell B (by simp);go_wp2_with fail
    refine Calls.mono a ?_;rintro e2 w2 ⟨rfl,rfl⟩;clear a;go_wp2_with fail
    refine Calls.mono (timesVector_ok Q hP w.heap.size wr _ r _ E _ (R.mono (off_of hO (Nat.le_refl _) D)) hO m.out.2.2.2 (L.mono (off_of hO (Nat.le_refl _) D)) m.out.1) ?_;rintro e4 w4 ⟨v4,rfl,M,rfl,jT⟩;have C:=mut_ext D hO (Nat.le_refl _) M;rw[m.out.2.2.1,<-m.out.2.1] at jT;clear hO J B;go_wp2;go_roundw
    case rel=>exact⟨k+1,by go_num,by omega,C,jT⟩
    case measure=>simp[intOf];omega
  ·have ae:k=W.length:=by omega
   subst ae;go_wp2;go_ret;exact⟨_,rfl,D,hO⟩
theorem respects_ok (Q:Pr) (G:Grp Q) (w:World) (N p q:Value) (R Is:List (List Int)) (O S U:Nat->Prop) (hr:Rows2 O w N R) (hp:PresP S w p Q) (hi:Rows2 U w q Is) (hI:∀x∈Is,Vec Q.orders x)
  (V:∀x∈R,WordN Is.length x/\x.length<=1000) (H:Is.length<=6) :
  Calls Tryz.prog 133 #[N,p,q] w (Ret w λ_ v=>∃r:Bool,v=.bool r/\(r=true↔∀x∈R,evalTo Q Is x x.length=zeros Q.orders.length)):=by
 have hP:=G.v;have I:=hP.n6;obtain⟨ar,capr,rfl,_,_⟩:=Sl.shape hr;have J:=Lib.hid (And.intro hI V);clear hI V;go_enter Tryz.func133,Tryz.ntmps133;go_wp2;go_loopw [11] (λq wr=>∃k:Nat,q=.int .i64 k/\k<=R.length/\Ext w wr/\Hid (∀j,j<k->evalTo Q Is (gt R j) (gt R j).length=zeros Q.orders.length)) (λq _=>R.length-(intOf q).toNat)
 case atStart=>exact⟨0,rfl,by omega,Ext.refl _,Lib.hid (λj h=>by omega)⟩
 case round=>
  obtain⟨k,rfl,hk,u,hZ⟩:=hrel;by_cases i:k<R.length
  ·have W:(k:Int)<R.length:=by omega
   obtain⟨bx,ox,a2,cap2,rfl,_,_,y,z⟩:=Rows2.at (Rows2.ext hr u) k i;have b:=J.out.2 _ (gtMem i);obtain⟨X,K⟩:∃X,X=gt R k:=⟨_,rfl⟩;rw[<-K] at y z b;have hV:=G.eval_vec J.out.1 b.1 _ (Nat.le_refl _);obtain⟨E,hE⟩:∃E,E=evalTo Q Is X X.length:=⟨_,rfl⟩;have Y:=isZeroB_zeros (l:=E) (o:=Q.orders) (by rw[hE];exact hV);have A:E.length<=6:=by rw[hE,hV.1];exact I
   have a:=Lib.hid (And.intro K (And.intro b (And.intro hE (And.intro Y A))));clear K b hE Y A hV;go_wp2_with fail
   refine Calls.mono (evaluate_ok Q G wr _ _ _ X Is S O U (hp.ext u) z (Rows2.ext hi u) J.out.1 a.out.2.1.1 a.out.2.1.2 H) ?_;rintro e2 w2 ⟨v2,rfl,hg2,m⟩;rw[<-a.out.2.2.1] at m;have B:=m.ints (by have:=a.out.2.2.2.2;omega);go_wp2_with fail
   refine Calls.mono (isZero_ok _ E w2 _ B) ?_;rintro e3 w3 ⟨rfl,rfl⟩;have e:=grown_trans u hg2;clear m B y;cases F:isZeroB E with
   | true=>
    have C:=a.out.2.2.2.1.1 F;have L:=Lib.hid C;clear F C;go_wp2;go_roundw
    case rel=>exact⟨k+1,by go_num,by omega,e,Lib.hid (λj hj=>by
     rcases Nat.lt_succ_iff_lt_or_eq.1 hj with h|h
     ·exact hZ.out j h
     ·rw[h,<-a.out.1,<-a.out.2.2.1];exact L.out)⟩
    case measure=>simp[intOf];omega
   | false=>
    have D:¬ ∀x∈R,evalTo Q Is x x.length=zeros Q.orders.length:=λh=>by
     have h1:=h _ (gtMem i);rw[<-a.out.1,<-a.out.2.2.1] at h1;have:=a.out.2.2.2.1.2 h1;rw[F] at this;cases this
    have L:=Lib.hid D;clear F D;go_wp2;go_ret;exact⟨_,rfl,e,false,rfl,by simp only[Bool.false_eq_true,false_iff];exact L.out⟩
  ·have M:k=R.length:=by omega
   subst M;go_wp2;go_ret
   exact ⟨_,rfl,u,true,rfl,by
    simp only[true_iff];intro x hx;obtain⟨l,Z,rfl⟩:=List.getElem_of_mem hx;rw[<-gt_eq R l Z];exact hZ.out l Z⟩
end Go.Proofs.YtldheeicjnncoaaGreat
namespace Go.Proofs.YtldheeicjnncoaaGreat
theorem relTo_word {P:Pr}(hP:Valid P):∀i,i<=P.orders.length->∀x∈relTo P i,WordN P.orders.length x/\x.length<=1000:=by
 have b:∀k,k<=P.orders.length->∀x∈relPs P k,WordN P.orders.length x/\x.length<=1000:=by
  intro k;induction k with
  | zero=>intro _ x hx;cases hx
  | succ k a=>
   intro hk x hx;rcases List.mem_append.1 hx with h|h
   ·exact a (by omega) x h
   ·rw [List.mem_singleton.1 h]
    exact⟨relPow_word (by omega),by have:=relPow_len hP (i:=k) (by omega);omega⟩
 have e:∀i k,i<P.orders.length->k<=P.orders.length-1-i->∀x∈relCs P i k,WordN P.orders.length x/\x.length<=1000:=by
  intro i k hi;induction k with
  | zero=>intro _ x hx;cases hx
  | succ k a=>
   intro hk x hx;rcases List.mem_append.1 hx with h|h
   ·exact a (by omega) x h
   ·rw [List.mem_singleton.1 h]
    exact⟨relCon_word (by omega),by have:=relCon_len hP (i:=i) (k:=k) hi (by omega);omega⟩
 intro i;induction i with
 | zero=>intro _ x hx;exact b _ (Nat.le_refl _) x hx
 | succ i a=>
  intro hi x hx;rcases List.mem_append.1 hx with h|h
  ·exact a (by omega) x h
  ·exact e i _ (by omega) (by have:=(hP.cv i (by omega)).1;omega) x h
end Go.Proofs.YtldheeicjnncoaaGreat
namespace Go.Proofs.YtldheeicjnncoaaGreat
open Go.RowKit
def HomP (S:Nat->Prop) (w:World) (b:Nat) (P Q:Pr) (Is:List (List Int)):Prop:=
 PresP S w (.pointer (some ⟨b,0,none⟩)) P/\PresP S w (.pointer (some ⟨b,3,none⟩)) Q/\∃a c,w.cell? ⟨b,6,none⟩=some (.slice a Is.length c)/\Rows2 S w (.slice a Is.length c) Is
theorem HomP.ext {S:Nat->Prop}{w w':World}{b:Nat}{P Q:Pr}{Is:List (List Int)}(h:HomP S w b P Q Is) (e:Ext w w'):HomP S w' b P Q Is:=by
 obtain⟨h1,h2,a,c,h3,h4⟩:=h;exact⟨h1.ext e,h2.ext e,a,c,e.cell h3 (by simp),Rows2.ext h4 e⟩
set_option linter.unusedSimpArgs false in
theorem isHom_ok (P Q:Pr) (Is:List (List Int)) (w:World) (b:Nat) (hh:HomP Any w b P Q Is) :
  Calls Tryz.prog 152 #[.pointer (some ⟨b,0,none⟩)] w (Ret w λ_ v=>∃r:Bool,v=.bool r/\(r=true↔HomB P Q Is)):=by
 obtain⟨hp,hq,ai,ci,fk,B⟩:=hh;obtain⟨vo,vp,vc,_,_,hc0,m,q,h3⟩:=hp.at;simp only[Nat.zero_add] at m q;obtain⟨ao,C,rfl,_,_⟩:=h3.o.shape;obtain⟨ap,D,rfl,_,_⟩:=Sl.shape h3.p;obtain⟨ac,E,rfl,_,_⟩:=Sl.shape h3.c;have F:∀w',Ext w w'->w'.cell? ⟨b,0,none⟩=some (.slice ao P.orders.length C):=λw' h=>h.cell hc0 (by simp);have H:∀w',Ext w w'->w'.cell? ⟨b,1,none⟩=some (.slice ap P.powers.length D):=λw' h=>h.cell m (by simp);have I:∀w',Ext w w'->w'.cell? ⟨b,2,none⟩=some (.slice ac P.conj.length E):=λw' h=>h.cell q (by simp);have z:∀w',Ext w w'->w'.cell? ⟨b,6,none⟩=some (.slice ai Is.length ci):=λw' h=>h.cell fk (by simp);clear hc0 m q fk;go_enter Tryz.func152,Tryz.ntmps152;go_wp2;cases hr:rconsB P with
 | false=>
  have A:=Lib.hid hr;clear hr;refine wp_region_held_drew (S:=λw'=>Ext w w') (by kernel_rfl) (by first|exact grown_drew _ _|assumption) (λj => ?_);refine wpAnyH_take (i:=0) (v := ?v0) rfl (by kernel_rfl) (by kernel_rfl) (by kernel_rfl) (λ_ _ _ h=>h) (Or.inl ⟨by rfl,?hy0⟩) (by assumption) ?rj
  case hy0=>(intro w a;(try dsimp only at a);go_simp;try with_reducible rfl)
  try simp only[Act.put,List.getElem_toArray,List.getElem_cons_succ,List.getElem_cons_zero,List.setIfInBounds_toArray,List.set_cons_zero,List.set_cons_succ]
  refine wpAnyH_take (i:=1) (v := ?v1) rfl (by kernel_rfl) (by kernel_rfl) (by kernel_rfl) (λ_ _ _ h=>h) (Or.inl ⟨by rfl,?hy1⟩) (by assumption) ?rq
  case hy1=>(intro w a;(try dsimp only at a);go_simp;try with_reducible rfl)
  try simp only[Act.put,List.getElem_toArray,List.getElem_cons_succ,List.getElem_cons_zero,List.setIfInBounds_toArray,List.set_cons_zero,List.set_cons_succ]
  refine wpAnyH_take (i:=2) (v := ?v2) rfl (by kernel_rfl) (by kernel_rfl) (by kernel_rfl) (λ_ _ _ h=>h) (Or.inl ⟨by rfl,?hy2⟩) (by assumption) ?ru
  case hy2=>(intro w a;(try dsimp only at a);go_simp;try with_reducible rfl)
  try simp only[Act.put,List.getElem_toArray,List.getElem_cons_succ,List.getElem_cons_zero,List.setIfInBounds_toArray,List.set_cons_zero,List.set_cons_succ]
  refine wpAnyH_take (i:=3) (v := ?v3) rfl (by kernel_rfl) (by kernel_rfl) (by kernel_rfl) (λ_ _ _ h=>h) (Or.inl ⟨by rfl,?fV⟩) (by assumption) ?ry
  case fV=>(intro w a;(try dsimp only at a);go_simp;try with_reducible rfl)
  try simp only[Act.put,List.getElem_toArray,List.getElem_cons_succ,List.getElem_cons_zero,List.setIfInBounds_toArray,List.set_cons_zero,List.set_cons_succ]
  refine wpAnyH_ready (rs:=[4]) (by kernel_rfl) (by simp) ?_;refine AllReadyH.cons rfl (λY l => ?_) AllReadyH.nil;go_simp;go_at_call 21;refine Calls.mono (Calls.rel (w0:=w) (by first|exact grown_drew _ _|assumption) (isConsistent_ok P _ _ Any ⟨_,_,_,rfl,Pres3.ext h3 (by first|exact grown_drew _ _|assumption)⟩)) ?_;rintro eA wA ⟨vA,rfl,eu,hsA,rfl⟩;rw[icons_eq,A.out];go_wp2_with fail
  refine l.out _ _ ?_ (λj => ?_)
  ·first|exact grown_drew _ _|assumption
  clear l Y;try simp only[Act.put,List.getElem_toArray,List.getElem_cons_succ,List.getElem_cons_zero,List.setIfInBounds_toArray,List.set_cons_zero,List.set_cons_succ]
  refine wpAnyH_take (i:=5) (v := ?v5) rfl (by kernel_rfl) (by kernel_rfl) (by kernel_rfl) (λ_ _ _ h=>h) (Or.inl ⟨by rfl,?pE⟩) (by assumption) ?rz
  case pE=>(intro w a;(try dsimp only at a);go_simp;try with_reducible rfl)
  try simp only[Act.put,List.getElem_toArray,List.getElem_cons_succ,List.getElem_cons_zero,List.setIfInBounds_toArray,List.set_cons_zero,List.set_cons_succ]
  refine wpAnyH_take (i:=6) (v := ?v6) rfl (by kernel_rfl) (by kernel_rfl) (by kernel_rfl) (λ_ _ _ h=>h) (Or.inl ⟨by rfl,?pF⟩) (by assumption) ?rA
  case pF=>(intro w a;(try dsimp only at a);go_simp;try with_reducible rfl)
  try simp only[Act.put,List.getElem_toArray,List.getElem_cons_succ,List.getElem_cons_zero,List.setIfInBounds_toArray,List.set_cons_zero,List.set_cons_succ]
  refine wpAnyH_take (i:=7) (v:=undef) rfl (by kernel_rfl) (by kernel_rfl) (by kernel_rfl) (λ_ _ _ h=>h) (Or.inr ⟨by rfl,rfl⟩) (by assumption) ?_;try simp only[Act.put,List.getElem_toArray,List.getElem_cons_succ,List.getElem_cons_zero,List.setIfInBounds_toArray,List.set_cons_zero,List.set_cons_succ]
  refine wpAnyH_take (i:=8) (v:=undef) rfl (by kernel_rfl) (by kernel_rfl) (by kernel_rfl) (λ_ _ _ h=>h) (Or.inr ⟨by rfl,rfl⟩) (by assumption) ?_;try simp only[Act.put,List.getElem_toArray,List.getElem_cons_succ,List.getElem_cons_zero,List.setIfInBounds_toArray,List.set_cons_zero,List.set_cons_succ]
  refine wpAnyH_take (i:=9) (v:=undef) rfl (by kernel_rfl) (by kernel_rfl) (by kernel_rfl) (λ_ _ _ h=>h) (Or.inr ⟨by rfl,rfl⟩) (by assumption) ?_;try simp only[Act.put,List.getElem_toArray,List.getElem_cons_succ,List.getElem_cons_zero,List.setIfInBounds_toArray,List.set_cons_zero,List.set_cons_succ]
  refine wpAnyH_take (i:=10) (v:=undef) rfl (by kernel_rfl) (by kernel_rfl) (by kernel_rfl) (λ_ _ _ h=>h) (Or.inr ⟨by rfl,rfl⟩) (by assumption) ?_;try simp only[Act.put,List.getElem_toArray,List.getElem_cons_succ,List.getElem_cons_zero,List.setIfInBounds_toArray,List.set_cons_zero,List.set_cons_succ]
  refine wpAnyH_take (i:=11) (v:=undef) rfl (by kernel_rfl) (by kernel_rfl) (by kernel_rfl) (λ_ _ _ h=>h) (Or.inr ⟨by rfl,rfl⟩) (by assumption) ?_;try simp only[Act.put,List.getElem_toArray,List.getElem_cons_succ,List.getElem_cons_zero,List.setIfInBounds_toArray,List.set_cons_zero,List.set_cons_succ]
  refine wpAnyH_take (i:=12) (v:=undef) rfl (by kernel_rfl) (by kernel_rfl) (by kernel_rfl) (λ_ _ _ h=>h) (Or.inr ⟨by rfl,rfl⟩) (by assumption) ?_;try simp only[Act.put,List.getElem_toArray,List.getElem_cons_succ,List.getElem_cons_zero,List.setIfInBounds_toArray,List.set_cons_zero,List.set_cons_succ]
  refine wpAnyH_take (i:=13) (v:=undef) rfl (by kernel_rfl) (by kernel_rfl) (by kernel_rfl) (λ_ _ _ h=>h) (Or.inr ⟨by rfl,rfl⟩) (by assumption) ?_;try simp only[Act.put,List.getElem_toArray,List.getElem_cons_succ,List.getElem_cons_zero,List.setIfInBounds_toArray,List.set_cons_zero,List.set_cons_succ]
  refine wpAnyH_take (i:=14) (v:=undef) rfl (by kernel_rfl) (by kernel_rfl) (by kernel_rfl) (λ_ _ _ h=>h) (Or.inr ⟨by rfl,rfl⟩) (by assumption) ?_;try simp only[Act.put,List.getElem_toArray,List.getElem_cons_succ,List.getElem_cons_zero,List.setIfInBounds_toArray,List.set_cons_zero,List.set_cons_succ]
  refine wpAnyH_take (i:=15) (v:=undef) rfl (by kernel_rfl) (by kernel_rfl) (by kernel_rfl) (λ_ _ _ h=>h) (Or.inr ⟨by rfl,rfl⟩) (by assumption) ?_;try simp only[Act.put,List.getElem_toArray,List.getElem_cons_succ,List.getElem_cons_zero,List.setIfInBounds_toArray,List.set_cons_zero,List.set_cons_succ]
  refine wpAnyH_take (i:=16) (v:=undef) rfl (by kernel_rfl) (by kernel_rfl) (by kernel_rfl) (λ_ _ _ h=>h) (Or.inr ⟨by rfl,rfl⟩) (by assumption) ?_;try simp only[Act.put,List.getElem_toArray,List.getElem_cons_succ,List.getElem_cons_zero,List.setIfInBounds_toArray,List.set_cons_zero,List.set_cons_succ]
  refine wpAnyH_take (i:=17) (v:=undef) rfl (by kernel_rfl) (by kernel_rfl) (by kernel_rfl) (λ_ _ _ h=>h) (Or.inr ⟨by rfl,rfl⟩) (by assumption) ?_;try simp only[Act.put,List.getElem_toArray,List.getElem_cons_succ,List.getElem_cons_zero,List.setIfInBounds_toArray,List.set_cons_zero,List.set_cons_succ]
  refine wpAnyH_take (i:=18) (v:=undef) rfl (by kernel_rfl) (by kernel_rfl) (by kernel_rfl) (λ_ _ _ h=>h) (Or.inr ⟨by rfl,rfl⟩) (by assumption) ?_;try simp only[Act.put,List.getElem_toArray,List.getElem_cons_succ,List.getElem_cons_zero,List.setIfInBounds_toArray,List.set_cons_zero,List.set_cons_succ]
  refine wpAnyH_take (i:=19) (v := ?v19) rfl (by kernel_rfl) (by kernel_rfl) (by kernel_rfl) (λ_ _ _ h=>h) (Or.inl ⟨by rfl,?pG⟩) (by assumption) ?rC
  case pG=>(intro w a;(try dsimp only at a);go_simp;try with_reducible rfl)
  try simp only[Act.put,List.getElem_toArray,List.getElem_cons_succ,List.getElem_cons_zero,List.setIfInBounds_toArray,List.set_cons_zero,List.set_cons_succ]
  refine wpAnyH_take (i:=20) (v := ?v20) rfl (by kernel_rfl) (by kernel_rfl) (by kernel_rfl) (λ_ _ _ h=>h) (Or.inl ⟨by rfl,?pH⟩) (by assumption) ?rE
  case pH=>(intro w a;(try dsimp only at a);go_simp;try with_reducible rfl)
  try simp only[Act.put,List.getElem_toArray,List.getElem_cons_succ,List.getElem_cons_zero,List.setIfInBounds_toArray,List.set_cons_zero,List.set_cons_succ]
  refine wpAnyH_take (i:=21) (v:=undef) rfl (by kernel_rfl) (by kernel_rfl) (by kernel_rfl) (λ_ _ _ h=>h) (Or.inr ⟨by rfl,rfl⟩) (by assumption) ?_;try simp only[Act.put,List.getElem_toArray,List.getElem_cons_succ,List.getElem_cons_zero,List.setIfInBounds_toArray,List.set_cons_zero,List.set_cons_succ]
  refine wpAnyH_take (i:=22) (v:=undef) rfl (by kernel_rfl) (by kernel_rfl) (by kernel_rfl) (λ_ _ _ h=>h) (Or.inr ⟨by rfl,rfl⟩) (by assumption) ?_;try simp only[Act.put,List.getElem_toArray,List.getElem_cons_succ,List.getElem_cons_zero,List.setIfInBounds_toArray,List.set_cons_zero,List.set_cons_succ]
  refine wpAnyH_take (i:=23) (v:=undef) rfl (by kernel_rfl) (by kernel_rfl) (by kernel_rfl) (λ_ _ _ h=>h) (Or.inr ⟨by rfl,rfl⟩) (by assumption) ?_;try simp only[Act.put,List.getElem_toArray,List.getElem_cons_succ,List.getElem_cons_zero,List.setIfInBounds_toArray,List.set_cons_zero,List.set_cons_succ]
  refine wpAnyH_take (i:=24) (v:=undef) rfl (by kernel_rfl) (by kernel_rfl) (by kernel_rfl) (λ_ _ _ h=>h) (Or.inr ⟨by rfl,rfl⟩) (by assumption) ?_;try simp only[Act.put,List.getElem_toArray,List.getElem_cons_succ,List.getElem_cons_zero,List.setIfInBounds_toArray,List.set_cons_zero,List.set_cons_succ]
  refine wpAnyH_take (i:=25) (v:=undef) rfl (by kernel_rfl) (by kernel_rfl) (by kernel_rfl) (λ_ _ _ h=>h) (Or.inr ⟨by rfl,rfl⟩) (by assumption) ?_;try simp only[Act.put,List.getElem_toArray,List.getElem_cons_succ,List.getElem_cons_zero,List.setIfInBounds_toArray,List.set_cons_zero,List.set_cons_succ]
  refine wpAnyH_take (i:=26) (v:=undef) rfl (by kernel_rfl) (by kernel_rfl) (by kernel_rfl) (λ_ _ _ h=>h) (Or.inr ⟨by rfl,rfl⟩) (by assumption) ?_;try simp only[Act.put,List.getElem_toArray,List.getElem_cons_succ,List.getElem_cons_zero,List.setIfInBounds_toArray,List.set_cons_zero,List.set_cons_succ]
  refine wpAnyH_take (i:=27) (v:=undef) rfl (by kernel_rfl) (by kernel_rfl) (by kernel_rfl) (λ_ _ _ h=>h) (Or.inr ⟨by rfl,rfl⟩) (by assumption) ?_;try simp only[Act.put,List.getElem_toArray,List.getElem_cons_succ,List.getElem_cons_zero,List.setIfInBounds_toArray,List.set_cons_zero,List.set_cons_succ]
  refine wpAnyH_take (i:=28) (v:=undef) rfl (by kernel_rfl) (by kernel_rfl) (by kernel_rfl) (λ_ _ _ h=>h) (Or.inr ⟨by rfl,rfl⟩) (by assumption) ?_;try simp only[Act.put,List.getElem_toArray,List.getElem_cons_succ,List.getElem_cons_zero,List.setIfInBounds_toArray,List.set_cons_zero,List.set_cons_succ]
  refine wpAnyH_take (i:=29) (v:=undef) rfl (by kernel_rfl) (by kernel_rfl) (by kernel_rfl) (λ_ _ _ h=>h) (Or.inr ⟨by rfl,rfl⟩) (by assumption) ?_;try simp only[Act.put,List.getElem_toArray,List.getElem_cons_succ,List.getElem_cons_zero,List.setIfInBounds_toArray,List.set_cons_zero,List.set_cons_succ]
  refine wpAnyH_take (i:=30) (v := ?v30) rfl (by kernel_rfl) (by kernel_rfl) (by kernel_rfl) (λ_ _ _ h=>h) (Or.inl ⟨by rfl,?pI⟩) (by assumption) ?rF
  case pI=>(intro w a;(try dsimp only at a);go_simp;try with_reducible rfl)
  try simp only[Act.put,List.getElem_toArray,List.getElem_cons_succ,List.getElem_cons_zero,List.setIfInBounds_toArray,List.set_cons_zero,List.set_cons_succ]
  refine wpAnyH_done (by kernel_rfl) ?_ _;clear F H I z;go_wp2;go_ret;exact⟨_,rfl,eu,false,rfl,by simp only[Bool.false_eq_true,false_iff];rintro⟨h,_⟩;rw[A.out] at h;cases h⟩
 | true =>
  have G:=grp_of_r hr;have A:=Lib.hid hr;clear hr;by_cases k:Is.length=P.orders.length
  ·have Z:((Is.length:Int) != (P.orders.length:Int))=false:=by simp;omega
   have aa:=G.v.n6;have ab:Is.length<=6:=by omega
   have V:=Lib.hid k;clear k aa
   go_region_held3 (λw'=>Ext w w') (first|exact grown_drew _ _|assumption)
    (first
     | (go_at_call 130;refine Calls.mono (Calls.rel (w0:=w) (by assumption) (areElements_ok Q _ _ _ Is Any Any (hq.ext (by assumption)) (Rows2.ext B (by assumption)))) ?_;rintro eB W ⟨vB,rfl,hgB,hsB,rB,rfl,mR⟩;have J:=Lib.hid mR;clear mR)
     | (go_at_call 21;refine Calls.mono (Calls.rel (w0:=w) (by first|exact grown_drew _ _|assumption) (isConsistent_ok P _ _ Any ⟨_,_,_,rfl,Pres3.ext h3 (by first|exact grown_drew _ _|assumption)⟩)) ?_;rintro eA wA ⟨vA,rfl,eu,hsA,rfl⟩;rw[icons_eq,A.out]))
   have K:=F W hgB;have L:=H W hgB;have M:=I W hgB;cases rB with
   | false=>
    clear F H I z K L M;go_wp2;go_ret;exact⟨_,rfl,hgB,false,rfl,by simp only[Bool.false_eq_true,false_iff];rintro⟨_,h1,_,h2,_⟩;have:=J.out.2 ⟨h1,h2⟩;cases this⟩
   | true=>
    have u:=J.out.1 rfl;have GQ:=grp_of_r u.1;have y:=Lib.hid u;clear u;clear F H I;go_wp2_with fail
    clear K L M;refine Calls.mono (relators_ok P G.v W _ Any ⟨_,_,_,rfl,Pres3.ext h3 hgB⟩) ?_;rintro eC X ⟨vC,rfl,gm,aR,nR,cR,rfl,N⟩;have e:=grown_trans hgB gm;have ad:=z X e;have O:=relTo_word G.v P.orders.length (Nat.le_refl _);have ae:=relTo_len G.v P.orders.length (Nat.le_refl _);have R:=RowsD.rows (N.toD (by have:=G.v.n6;show(relTo P P.orders.length).length<=_;omega));have af:=Lib.hid (show ∀x∈relsP P,WordN Is.length x/\x.length<=1000 from λx hx=>by rw[V.out];exact O x hx);clear O ae N;have e7:∀w',Ext X w'->w'.cell? ⟨b,6,none⟩=some (.slice ai Is.length ci):=λw' h=>z w' (grown_trans e h);clear z;go_wp2
    go_region_held3 (λw'=>Ext X w') (first|exact grown_drew _ _|assumption)
     (first
      | (go_at_call 133;refine Calls.mono (Calls.rel (w0:=X) (by first|exact grown_drew _ _|assumption) (respects_ok Q GQ _ _ _ _ (relsP P) Is _ Any Any (Rows2.ext R (by first|exact grown_drew _ _|assumption)) (hq.ext (grown_trans e (by first|exact grown_drew _ _|assumption))) (Rows2.ext B (grown_trans e (by first|exact grown_drew _ _|assumption))) y.out.2 af.out ab)) ?_;rintro eD wD ⟨vD,rfl,gD,jV,rD,rfl,mS⟩;have U:=Lib.hid mS;clear mS))
    clear ad e7;go_wp2;go_ret;exact⟨_,rfl,grown_trans e gD,rD,rfl,⟨λh=>⟨A.out,y.out.1,V.out,y.out.2,U.out.1 h⟩,λh=>U.out.2 h.2.2.2.2⟩⟩
  ·have Z:((Is.length:Int) != (P.orders.length:Int))=true:=by simp;omega
   have V:=Lib.hid k;clear k;refine wp_region_held_drew (S:=λw'=>Ext w w') (by kernel_rfl) (by first|exact grown_drew _ _|assumption) (λj => ?_);refine wpAnyH_take (i:=0) (v := ?rG) rfl (by kernel_rfl) (by kernel_rfl) (by kernel_rfl) (λ_ _ _ h=>h) (Or.inl ⟨by rfl,?pJ⟩) (by assumption) ?rH
   case pJ=>(intro w a;(try dsimp only at a);go_simp;try with_reducible rfl)
   try simp only[Act.put,List.getElem_toArray,List.getElem_cons_succ,List.getElem_cons_zero,List.setIfInBounds_toArray,List.set_cons_zero,List.set_cons_succ]
   refine wpAnyH_take (i:=1) (v := ?rJ) rfl (by kernel_rfl) (by kernel_rfl) (by kernel_rfl) (λ_ _ _ h=>h) (Or.inl ⟨by rfl,?pK⟩) (by assumption) ?rK
   case pK=>(intro w a;(try dsimp only at a);go_simp;try with_reducible rfl)
   try simp only[Act.put,List.getElem_toArray,List.getElem_cons_succ,List.getElem_cons_zero,List.setIfInBounds_toArray,List.set_cons_zero,List.set_cons_succ]
   refine wpAnyH_take (i:=2) (v := ?rL) rfl (by kernel_rfl) (by kernel_rfl) (by kernel_rfl) (λ_ _ _ h=>h) (Or.inl ⟨by rfl,?pL⟩) (by assumption) ?rM
   case pL=>(intro w a;(try dsimp only at a);go_simp;try with_reducible rfl)
   try simp only[Act.put,List.getElem_toArray,List.getElem_cons_succ,List.getElem_cons_zero,List.setIfInBounds_toArray,List.set_cons_zero,List.set_cons_succ]
   refine wpAnyH_take (i:=3) (v := ?rN) rfl (by kernel_rfl) (by kernel_rfl) (by kernel_rfl) (λ_ _ _ h=>h) (Or.inl ⟨by rfl,?pM⟩) (by assumption) ?rO
   case pM=>(intro w a;(try dsimp only at a);go_simp;try with_reducible rfl)
   try simp only[Act.put,List.getElem_toArray,List.getElem_cons_succ,List.getElem_cons_zero,List.setIfInBounds_toArray,List.set_cons_zero,List.set_cons_succ]
   refine wpAnyH_ready (rs:=[4]) (by kernel_rfl) (by simp) ?_;refine AllReadyH.cons rfl (λY l => ?_) AllReadyH.nil;go_simp;go_at_call 21;refine Calls.mono (Calls.rel (w0:=w) (by first|exact grown_drew _ _|assumption) (isConsistent_ok P _ _ Any ⟨_,_,_,rfl,Pres3.ext h3 (by first|exact grown_drew _ _|assumption)⟩)) ?_;rintro eA wA ⟨vA,rfl,eu,hsA,rfl⟩;rw[icons_eq,A.out];go_wp2_with fail
   refine l.out _ _ ?_ (λj => ?_)
   ·first|exact grown_drew _ _|assumption
   clear l Y;try simp only[Act.put,List.getElem_toArray,List.getElem_cons_succ,List.getElem_cons_zero,List.setIfInBounds_toArray,List.set_cons_zero,List.set_cons_succ]
   refine wpAnyH_take (i:=5) (v := ?rP) rfl (by kernel_rfl) (by kernel_rfl) (by kernel_rfl) (λ_ _ _ h=>h) (Or.inl ⟨by rfl,?pN⟩) (by assumption) ?rQ
   case pN=>(intro w a;(try dsimp only at a);go_simp;try with_reducible rfl)
   try simp only[Act.put,List.getElem_toArray,List.getElem_cons_succ,List.getElem_cons_zero,List.setIfInBounds_toArray,List.set_cons_zero,List.set_cons_succ]
   refine wpAnyH_take (i:=6) (v := ?rR) rfl (by kernel_rfl) (by kernel_rfl) (by kernel_rfl) (λ_ _ _ h=>h) (Or.inl ⟨by rfl,?pO⟩) (by assumption) ?rS
   case pO=>(intro w a;(try dsimp only at a);go_simp;try with_reducible rfl)
   try simp only[Act.put,List.getElem_toArray,List.getElem_cons_succ,List.getElem_cons_zero,List.setIfInBounds_toArray,List.set_cons_zero,List.set_cons_succ]
   refine wpAnyH_take (i:=7) (v := ?rT) rfl (by kernel_rfl) (by kernel_rfl) (by kernel_rfl) (λ_ _ _ h=>h) (Or.inl ⟨by rfl,?pP⟩) (by assumption) ?rU
   case pP=>(intro w a;(try dsimp only at a);go_simp;try with_reducible rfl)
   try simp only[Act.put,List.getElem_toArray,List.getElem_cons_succ,List.getElem_cons_zero,List.setIfInBounds_toArray,List.set_cons_zero,List.set_cons_succ]
   refine wpAnyH_take (i:=8) (v := ?rV) rfl (by kernel_rfl) (by kernel_rfl) (by kernel_rfl) (λ_ _ _ h=>h) (Or.inl ⟨by rfl,?pQ⟩) (by assumption) ?rW
   case pQ=>(intro w a;(try dsimp only at a);go_simp;try with_reducible rfl)
   try simp only[Act.put,List.getElem_toArray,List.getElem_cons_succ,List.getElem_cons_zero,List.setIfInBounds_toArray,List.set_cons_zero,List.set_cons_succ]
   refine wpAnyH_take (i:=9) (v := ?rX) rfl (by kernel_rfl) (by kernel_rfl) (by kernel_rfl) (λ_ _ _ h=>h) (Or.inl ⟨by rfl,?pR⟩) (by assumption) ?rY
   case pR=>(intro w a;(try dsimp only at a);go_simp;try with_reducible rfl)
   try simp only[Act.put,List.getElem_toArray,List.getElem_cons_succ,List.getElem_cons_zero,List.setIfInBounds_toArray,List.set_cons_zero,List.set_cons_succ]
   refine wpAnyH_take (i:=10) (v := ?rZ) rfl (by kernel_rfl) (by kernel_rfl) (by kernel_rfl) (λ_ _ _ h=>h) (Or.inl ⟨by rfl,?pS⟩) (by assumption) ?r6
   case pS=>(intro w a;(try dsimp only at a);go_simp;try with_reducible rfl)
   try simp only[Act.put,List.getElem_toArray,List.getElem_cons_succ,List.getElem_cons_zero,List.setIfInBounds_toArray,List.set_cons_zero,List.set_cons_succ]
   refine wpAnyH_take (i:=11) (v := ?r7) rfl (by kernel_rfl) (by kernel_rfl) (by kernel_rfl) (λ_ _ _ h=>h) (Or.inl ⟨by rfl,?pT⟩) (by assumption) ?r8
   case pT=>(intro w a;(try dsimp only at a);go_simp;try with_reducible rfl)
   try simp only[Act.put,List.getElem_toArray,List.getElem_cons_succ,List.getElem_cons_zero,List.setIfInBounds_toArray,List.set_cons_zero,List.set_cons_succ]
   refine wpAnyH_take (i:=12) (v := ?r9) rfl (by kernel_rfl) (by kernel_rfl) (by kernel_rfl) (λ_ _ _ h=>h) (Or.inl ⟨by rfl,?pU⟩) (by assumption) ?sj
   case pU=>(intro w a;(try dsimp only at a);go_simp;try with_reducible rfl)
   try simp only[Act.put,List.getElem_toArray,List.getElem_cons_succ,List.getElem_cons_zero,List.setIfInBounds_toArray,List.set_cons_zero,List.set_cons_succ]
   refine wpAnyH_take (i:=13) (v := ?sk) rfl (by kernel_rfl) (by kernel_rfl) (by kernel_rfl) (λ_ _ _ h=>h) (Or.inl ⟨by rfl,?pV⟩) (by assumption) ?sr
   case pV=>(intro w a;(try dsimp only at a);go_simp;try with_reducible rfl)
   try simp only[Act.put,List.getElem_toArray,List.getElem_cons_succ,List.getElem_cons_zero,List.setIfInBounds_toArray,List.set_cons_zero,List.set_cons_succ]
   refine wpAnyH_take (i:=14) (v := ?su) rfl (by kernel_rfl) (by kernel_rfl) (by kernel_rfl) (λ_ _ _ h=>h) (Or.inl ⟨by rfl,?pW⟩) (by assumption) ?sw
   case pW=>(intro w a;(try dsimp only at a);go_simp;try with_reducible rfl)
   try simp only[Act.put,List.getElem_toArray,List.getElem_cons_succ,List.getElem_cons_zero,List.setIfInBounds_toArray,List.set_cons_zero,List.set_cons_succ]
   refine wpAnyH_take (i:=15) (v := ?sy) rfl (by kernel_rfl) (by kernel_rfl) (by kernel_rfl) (λ_ _ _ h=>h) (Or.inl ⟨by rfl,?pX⟩) (by assumption) ?sA
   case pX=>(intro w a;(try dsimp only at a);go_simp;try with_reducible rfl)
   try simp only[Act.put,List.getElem_toArray,List.getElem_cons_succ,List.getElem_cons_zero,List.setIfInBounds_toArray,List.set_cons_zero,List.set_cons_succ]
   refine wpAnyH_take (i:=16) (v := ?sD) rfl (by kernel_rfl) (by kernel_rfl) (by kernel_rfl) (λ_ _ _ h=>h) (Or.inl ⟨by rfl,?pY⟩) (by assumption) ?sF
   case pY=>(intro w a;(try dsimp only at a);go_simp;try with_reducible rfl)
   try simp only[Act.put,List.getElem_toArray,List.getElem_cons_succ,List.getElem_cons_zero,List.setIfInBounds_toArray,List.set_cons_zero,List.set_cons_succ]
   refine wpAnyH_take (i:=17) (v := ?sG) rfl (by kernel_rfl) (by kernel_rfl) (by kernel_rfl) (λ_ _ _ h=>h) (Or.inl ⟨by rfl,?pZ⟩) (by assumption) ?sH
   case pZ=>(intro w a;(try dsimp only at a);go_simp;try with_reducible rfl)
   try simp only[Act.put,List.getElem_toArray,List.getElem_cons_succ,List.getElem_cons_zero,List.setIfInBounds_toArray,List.set_cons_zero,List.set_cons_succ]
   refine wpAnyH_take (i:=18) (v := ?sI) rfl (by kernel_rfl) (by kernel_rfl) (by kernel_rfl) (λ_ _ _ h=>h) (Or.inl ⟨by rfl,?p5⟩) (by assumption) ?sJ
   case p5=>(intro w a;(try dsimp only at a);go_simp;try with_reducible rfl)
   try simp only[Act.put,List.getElem_toArray,List.getElem_cons_succ,List.getElem_cons_zero,List.setIfInBounds_toArray,List.set_cons_zero,List.set_cons_succ]
   refine wpAnyH_take (i:=19) (v := ?sK) rfl (by kernel_rfl) (by kernel_rfl) (by kernel_rfl) (λ_ _ _ h=>h) (Or.inl ⟨by rfl,?p6⟩) (by assumption) ?sL
   case p6=>(intro w a;(try dsimp only at a);go_simp;try with_reducible rfl)
   try simp only[Act.put,List.getElem_toArray,List.getElem_cons_succ,List.getElem_cons_zero,List.setIfInBounds_toArray,List.set_cons_zero,List.set_cons_succ]
   refine wpAnyH_take (i:=20) (v := ?sM) rfl (by kernel_rfl) (by kernel_rfl) (by kernel_rfl) (λ_ _ _ h=>h) (Or.inl ⟨by rfl,?p7⟩) (by assumption) ?sN
   case p7=>(intro w a;(try dsimp only at a);go_simp;try with_reducible rfl)
   try simp only[Act.put,List.getElem_toArray,List.getElem_cons_succ,List.getElem_cons_zero,List.setIfInBounds_toArray,List.set_cons_zero,List.set_cons_succ]
   refine wpAnyH_take (i:=21) (v:=undef) rfl (by kernel_rfl) (by kernel_rfl) (by kernel_rfl) (λ_ _ _ h=>h) (Or.inr ⟨by rfl,rfl⟩) (by assumption) ?_;try simp only[Act.put,List.getElem_toArray,List.getElem_cons_succ,List.getElem_cons_zero,List.setIfInBounds_toArray,List.set_cons_zero,List.set_cons_succ]
   refine wpAnyH_take (i:=22) (v:=undef) rfl (by kernel_rfl) (by kernel_rfl) (by kernel_rfl) (λ_ _ _ h=>h) (Or.inr ⟨by rfl,rfl⟩) (by assumption) ?_;try simp only[Act.put,List.getElem_toArray,List.getElem_cons_succ,List.getElem_cons_zero,List.setIfInBounds_toArray,List.set_cons_zero,List.set_cons_succ]
   refine wpAnyH_take (i:=23) (v:=undef) rfl (by kernel_rfl) (by kernel_rfl) (by kernel_rfl) (λ_ _ _ h=>h) (Or.inr ⟨by rfl,rfl⟩) (by assumption) ?_;try simp only[Act.put,List.getElem_toArray,List.getElem_cons_succ,List.getElem_cons_zero,List.setIfInBounds_toArray,List.set_cons_zero,List.set_cons_succ]
   refine wpAnyH_take (i:=24) (v:=undef) rfl (by kernel_rfl) (by kernel_rfl) (by kernel_rfl) (λ_ _ _ h=>h) (Or.inr ⟨by rfl,rfl⟩) (by assumption) ?_;try simp only[Act.put,List.getElem_toArray,List.getElem_cons_succ,List.getElem_cons_zero,List.setIfInBounds_toArray,List.set_cons_zero,List.set_cons_succ]
   refine wpAnyH_take (i:=25) (v:=undef) rfl (by kernel_rfl) (by kernel_rfl) (by kernel_rfl) (λ_ _ _ h=>h) (Or.inr ⟨by rfl,rfl⟩) (by assumption) ?_;try simp only[Act.put,List.getElem_toArray,List.getElem_cons_succ,List.getElem_cons_zero,List.setIfInBounds_toArray,List.set_cons_zero,List.set_cons_succ]
   refine wpAnyH_take (i:=26) (v:=undef) rfl (by kernel_rfl) (by kernel_rfl) (by kernel_rfl) (λ_ _ _ h=>h) (Or.inr ⟨by rfl,rfl⟩) (by assumption) ?_;try simp only[Act.put,List.getElem_toArray,List.getElem_cons_succ,List.getElem_cons_zero,List.setIfInBounds_toArray,List.set_cons_zero,List.set_cons_succ]
   refine wpAnyH_take (i:=27) (v:=undef) rfl (by kernel_rfl) (by kernel_rfl) (by kernel_rfl) (λ_ _ _ h=>h) (Or.inr ⟨by rfl,rfl⟩) (by assumption) ?_;try simp only[Act.put,List.getElem_toArray,List.getElem_cons_succ,List.getElem_cons_zero,List.setIfInBounds_toArray,List.set_cons_zero,List.set_cons_succ]
   refine wpAnyH_take (i:=28) (v:=undef) rfl (by kernel_rfl) (by kernel_rfl) (by kernel_rfl) (λ_ _ _ h=>h) (Or.inr ⟨by rfl,rfl⟩) (by assumption) ?_;try simp only[Act.put,List.getElem_toArray,List.getElem_cons_succ,List.getElem_cons_zero,List.setIfInBounds_toArray,List.set_cons_zero,List.set_cons_succ]
   refine wpAnyH_take (i:=29) (v:=undef) rfl (by kernel_rfl) (by kernel_rfl) (by kernel_rfl) (λ_ _ _ h=>h) (Or.inr ⟨by rfl,rfl⟩) (by assumption) ?_;try simp only[Act.put,List.getElem_toArray,List.getElem_cons_succ,List.getElem_cons_zero,List.setIfInBounds_toArray,List.set_cons_zero,List.set_cons_succ]
   refine wpAnyH_take (i:=30) (v := ?sO) rfl (by kernel_rfl) (by kernel_rfl) (by kernel_rfl) (λ_ _ _ h=>h) (Or.inl ⟨by rfl,?p8⟩) (by assumption) ?sP
   case p8=>(intro w a;(try dsimp only at a);go_simp;try with_reducible rfl)
   try simp only[Act.put,List.getElem_toArray,List.getElem_cons_succ,List.getElem_cons_zero,List.setIfInBounds_toArray,List.set_cons_zero,List.set_cons_succ]
   refine wpAnyH_done (by kernel_rfl) ?_ _;clear F H I z;go_wp2;go_ret;exact⟨_,rfl,eu,false,rfl,by simp only[Bool.false_eq_true,false_iff];rintro⟨_,_,h,_⟩;exact V.out h⟩
theorem applyHom_ok (P Q:Pr) (GQ:Grp Q) (Is:List (List Int)) (w:World) (b:Nat) (hh:HomP Any w b P Q Is) (hI:∀x∈Is,Vec Q.orders x) (Z:Value) (X:List Int) (Sx:Nat->Prop) (hx:Ints Sx w Z X) (al:X.length<=Is.length/\Is.length<=X.length)
  (am:Is.length<=6) (hX:∀i,i<X.length->0<=gt X i/\gt X i<=1000) :
  Calls Tryz.prog 155 #[.pointer (some ⟨b,0,none⟩),Z] w (Ret w λw' v=>Own w.heap.size w' v (prodR Q Is X X.length)):=by
 have hP:=GQ.v;have an:=hP.n6;obtain⟨hp,hq,ai,ci,fk,iN⟩:=hh;obtain⟨ao,capo,dM,hoi⟩:=hq.ordAt;obtain⟨ax,capx,rfl,_,_⟩:=hx.shape;have O:=Lib.hid (And.intro hI hX);clear hI hX;go_enter Tryz.func155,Tryz.ntmps155;go_wp2_with (first|(at_make;refine wp_make_ints rfl _ _ rfl w.heap.size Q.orders.length w.heap.size rfl _ rfl rfl rfl (by omega) (Nat.le_refl _) ?_;intro w1 y A ac)|fail)
 clear dM;generalize Value.slice (some ⟨w.heap.size,0,none⟩) Q.orders.length Q.orders.length=r at *;go_loopw [17] (λR wr=>∃i:Nat,R=.int .i64 i/\i<=X.length/\Ext w wr/\Own w.heap.size wr r (prodR Q Is X i)) (λR _=>X.length-(intOf R).toNat)
 case atStart=>exact⟨0,rfl,by omega,A,y⟩
 case round=>
  clear y A;obtain⟨i,rfl,hi,k,hO⟩:=hrel;by_cases B:i<X.length
  ·have ad:(i:Int)<X.length:=by omega
   obtain⟨bx,ox,rfl,_,_,C⟩:=Ints.at (hx.ext k) i B;obtain⟨m,hm⟩:∃m:Nat,m=(gt X i).toNat:=⟨_,rfl⟩;have D:=O.out.2 i B;have F:gt X i=(m:Int):=by omega
   have ap:m<=1000:=by omega
   rw[F] at C;have G:i<Is.length:=by omega
   have ae:(i:Int)<Is.length:=by omega
   obtain⟨bz,oz,a2,H,rfl,_,_,I,J⟩:=Rows2.at iN i G;have l:=O.out.1 _ (gtMem G);obtain⟨z,S⟩:∃z,z=gt Is i:=⟨_,rfl⟩;rw[<-S] at I J l;have e:=GQ.prodR_vec O.out.1 X i (by omega);obtain⟨E,hE⟩:∃E,E=prodR Q Is X i:=⟨_,rfl⟩;rw[<-hE] at hO e;have K:prodR Q Is X (i+1)=rMul Q E (pw Q z m):=by rw[prodR_step D.1,hE,S,hm]
   have L:Own w.heap.size wr r (rMul Q E (pw Q z 0)):=by rw[pw_zero,GQ.grp.er _ e];exact hO
   have p:=Lib.hid (And.intro l (And.intro e K));clear l e K hO hE S F D hm;go_wp2;clear C;go_loopw [23] (λtv wr=>∃t:Nat,tv=.int .i64 t/\t<=m/\Ext w wr/\Own w.heap.size wr r (rMul Q E (pw Q z t))) (λtv _=>m-(intOf tv).toNat)
   case atStart=>exact⟨0,rfl,by omega,k,L⟩
   case round=>
    clear L k;obtain⟨t,rfl,ht,k,hO⟩:=hrel;by_cases ag:t<m
    ·have U:(t:Int)<m:=by omega
     have q:=GQ.mulV p.out.2.1 (GQ.pw_vec p.out.1 t);have u:=GQ.tv_eq q p.out.1;rw[GQ.step_mul p.out.2.1 p.out.1] at u;have HT:=Lib.hid (And.intro q u);clear q u;have e1:∀w',Ext w w'->w'.cell? ⟨b,6,none⟩=some (.slice (some ⟨bz,oz,none⟩) Is.length ci):=λw' h=>h.cell fk (by simp);have e2:∀w',Ext w w'->w'.cell? ⟨bz,oz+i,none⟩=some (.slice a2 z.length H):=λw' h=>h.cell I (by simp);have j:Ext w wr.drew:=grown_trans k (grown_drew _ _);have a:=hO.ext0 (grown_drew wr none);go_wp2
     go_region_held3 (λw'=>Ext w w') (first|exact j|assumption)
      (first
       | (go_at_call 243;refine Calls.mono (timesVector_ok Q hP w.heap.size wr.drew _ r _ (rMul Q E (pw Q z t)) z (hq.mono (off_of a (Nat.le_refl _) j)) a HT.out.1 (J.mono (off_of a (Nat.le_refl _) j)) p.out.1) ?_;rintro e4 w4 ⟨v4,rfl,V,rfl,M⟩;have N:=mut_ext j a (Nat.le_refl _) V))
     rw[HT.out.2] at M;clear e1 e2 hO a;go_wp2;go_roundw
     case rel=>exact⟨t+1,by go_num,by omega,N,M⟩
     case measure=>simp[intOf];omega
    ·have W:t=m:=by omega
     subst W;rw[<-p.out.2.2] at hO;go_wp2;go_roundw
     case rel=>exact⟨i+1,by go_num,by omega,k,hO⟩
     case measure=>simp[intOf];omega
  ·have Y:i=X.length:=by omega
   subst Y;go_wp2;go_ret;exact⟨_,rfl,k,hO⟩
theorem preClosure_ok (P Q:Pr) (B:Grp P) (GQ:Grp Q) (Is:List (List Int)) (H:List Int->Prop) (S:Sub Q H) (w:World) (b c1 c2:Nat) (C:Value) (D:Nat->Prop) (E:HomP Any w b P Q Is) (hI:∀x∈Is,Vec Q.orders x)
  (q:Is.length=P.orders.length) (h1:w.cell? ⟨c1,0,none⟩=some (.pointer (some ⟨b,0,none⟩))) (F:w.cell? ⟨c2,0,none⟩=some C) (G:Rows2 D w C (cseq Q H)) (I:Value) (X:List Int) (K:Nat->Prop) (hx:Ints K w I X) (u:Vec P.orders X) :
  Calls Tryz.prog 242 #[I,.pointer (some ⟨c1,0,none⟩),.pointer (some ⟨c2,0,none⟩)] w (Ret w λ_ v=>∃r:Bool,v=.bool r/\(r=true↔H (prodR Q Is X Is.length))):=by
 have L:=B.v.n6;have y:=u.1
 have J:∀i,i<X.length->0<=gt X i/\gt X i<=1000:=λi hi=>by
  have U:=u.2 i (by omega);have V:=B.v.ord7 i (by omega);omega
 have j:X.length<=Is.length/\Is.length<=X.length:=by omega
 have z:Is.length<=6:=by omega
 have k:X.length=Is.length:=by omega
 have W:=isMember_ok Q GQ;obtain⟨M,l,rfl,_,_⟩:=Sl.shape G;obtain⟨Y,capx,rfl,_,_⟩:=hx.shape;have a:=GQ.prodR_vec hI X X.length j.1;have m:(prodR Q Is X X.length).length<=6:=by rw[a.1];exact GQ.v.n6
 have p:=Lib.hid (And.intro J (And.intro k (And.intro a (And.intro m hI))));clear J k a m y hI q u;have N:∀w',Ext w w'->w'.cell? ⟨c1,0,none⟩=some (.pointer (some ⟨b,0,none⟩)):=λw' h=>h.cell h1 (by simp);have O:∀w',Ext w w'->w'.cell? ⟨c2,0,none⟩=some (.slice M (cseq Q H).length l):=λw' h=>h.cell F (by simp);clear h1 F;go_enter Tryz.func242,Tryz.ntmps242;go_wp2
 go_region_held3 (λw'=>Ext w w') (first|exact grown_drew _ _|assumption)
  (first
   | (go_at_call 155;refine Calls.mono (Calls.rel (w0:=w) (by first|exact grown_drew _ _|assumption) (applyHom_ok P Q GQ Is _ b (E.ext (by first|exact grown_drew _ _|assumption)) p.out.2.2.2.2 _ X _ (hx.ext (by first|exact grown_drew _ _|assumption)) j z p.out.1)) ?_;rintro Z wA ⟨vA,rfl,e,hsA,fE⟩;have A:=fE.ints (by have:=p.out.2.2.2.1;omega))
   | (go_at_call 188;refine Calls.mono (Calls.rel (w0:=w) e (isMember_ok Q GQ _ _ _ _ H (prodR Q Is X X.length) Any D _ S (E.2.1.ext e) (Rows2.ext G e) A p.out.2.2.1)) ?_;rintro eB wB ⟨vB,rfl,hgB,hsB,r,rfl,hr⟩;have R:=Lib.hid hr;clear hr))
 clear N O;go_wp2;go_ret;exact⟨_,rfl,hgB,r,rfl,by rw[<-p.out.2.1];exact R.out⟩
theorem elementsWithPre_ok (P:Pr) (G:Grp P) (w:World) (p c1 c2:Value) (has:List Int->Prop) (Sp:Nat->Prop) (U:PresP Sp w p P)
  (hc:∀(w':World) (xv:Value) (X:List Int) (Sx:Nat->Prop),Ext w w'->Ints Sx w' xv X->Vec P.orders X->Calls Tryz.prog 242 #[xv,c1,c2] w' (Ret w' λ_ v=>∃r:Bool,v=.bool r/\(r=true↔has X))) :
  Calls Tryz.prog 229 #[p,.func (.func 242) #[] #[c1,c2]] w (Ret w λw' v=>RowsO w.heap.size w' v (cseq P (genP P (λy=>Vec P.orders y/\has y)))):=by
 have hP:=G.v;have ar:=hP.n6;have V:ordP P<=729:=hP.le729;have W:=hP.ordP_pos;obtain⟨pb,po,rfl⟩:=U.shape;have HC:=Lib.hid hc;clear hc;go_enter Tryz.func229,Tryz.ntmps229;go_wp2_with fail
 refine Calls.mono (newSequence_ok P w _ Sp (λ_=>False) U ar) ?_;rintro e1 R ⟨v1,rfl,Y,sb,gb,rfl,C⟩;have aK:=C.tab.lt;have aL:=C.sB;have aM:=C.slt;go_wp2_with fail
 refine Calls.mono (allElements_ok P hP R _ Sp (U.ext Y)) ?_;rintro e2 Z ⟨v2,rfl,hg2,hE⟩;have au:(allEl P).length=(ordP P).toNat:=by simp[allEl]
 have J:Rows2 (λk=>R.heap.size<=k) Z v2 (allEl P):=RowsD.rows (SlO.toD hE (by omega));obtain⟨aE,aa,fJ,_,_⟩:=Sl.shape J;subst fJ;obtain⟨N,hN⟩:∃N,N=(allEl P).length:=⟨_,rfl⟩;rw[<-hN];rw[<-hN] at J;have av:N<=729:=by omega
 have ab:=C.kept (bad':=λ_=>False) hg2.size (λk hk _=>hg2.block k hk (by simp)) (λ_ _ h=>h)
 have ac:Ind P (genP P (takeP P has 0)) (gt (List.replicate P.orders.length ([]:List Int))):=by
  rw[takeP_zero,G.genP_none];exact G.ind_one
 have ad:=grown_trans Y hg2;have aO:R.heap.size<=Z.heap.size:=hg2.size;have HN:=Lib.hid (And.intro hN ac);clear hN ac au hE V W C;go_wp2;go_loopw [13] (λiv wr=>∃(k:Nat) (t:List (List Int)),iv=.int .i64 k/\k<=N/\Z.grownBy wr (some gb)/\SeqAt w.heap.size (λ_=>False) wr sb gb (.pointer (some ⟨pb,po,none⟩)) P.orders.length t/\Hid (Ind P (genP P (takeP P has k)) (gt t))) (λiv _=>N-(intOf iv).toNat)
 case atStart=>exact⟨0,_,rfl,by omega,grown_refl _ _,ab,Lib.hid HN.out.2⟩
 case round=>
  clear ab;obtain⟨k,t,rfl,hk,hg,C,hI⟩:=hrel;have b:Ext w wr:=grown_own ad hg (λj S l=>by cases S;omega);by_cases l:k<N
  ·have aG:(k:Int)<N:=by omega
   have D:k<(allEl P).length:=by rw[<-HN.out.1];exact l
   have K:Rows2 (λk=>R.heap.size<=k) wr (.slice aE N aa) (allEl P):=Rows2.mono J (frame_of hg (λj S _=>⟨S,λe=>by cases e;omega⟩));rw[HN.out.1] at K;obtain⟨bx,ox,a2,m,hab,_,_,ae,L⟩:=Rows2.at K k D;subst hab;have M:Vec P.orders (gt (allEl P) k):=genP_takeP_vec hP (has:=λ_=>True) (k:=(allEl P).length) _ ⟨by rw[List.take_length];exact gtMem D,trivial⟩;obtain⟨x,hx⟩:∃x,x=gt (allEl P) k:=⟨_,rfl⟩;rw[<-hx] at ae L M;have q:=takeP_yes (has:=has) D;have O:=takeP_no (has:=has) D;rw[<-hx] at q O;have HX:=Lib.hid (And.intro M (And.intro q O));clear M q O hx;have u:=HC.out wr _ x _ b L HX.out.1;go_wp2_with fail
   refine Calls.mono u ?_;rintro e3 E ⟨v3,rfl,a,r,rfl,hr⟩;clear u ae;have z:Z.grownBy E (some gb):=grown_trans hg (grown_of_ext _ a);have Q:=C.kept (bad':=λ_=>False) a.size (λk hk _=>a.block k hk (by simp)) (λ_ _ h=>h);have aR:R.heap.size<=E.heap.size:=by have:=z.size;omega
   have af:=grown_trans b a;have ag:=Ints.ext L a;cases r with
   | false=>
    have ah:Ind P (genP P (takeP P has (k+1))) (gt t):=by
     rw[HX.out.2.2 (λh=>by have:=hr.2 h;cases this)];exact hI.out
    have ay:=Lib.hid ah;clear ah hr hI;go_wp2;go_roundw
    case rel=>exact⟨k+1,t,by go_num,by omega,z,Q,ay⟩
    case measure=>simp[intOf];omega
   | true=>
    have A:=HX.out.2.1 (hr.1 rfl);have az:=Lib.hid A;clear A hr;have B:Ext E (E.alloc (.cells #[.slice a2 x.length m] 24)):=World.grownBy_alloc _ _ _;have F:=Q.kept (bad':=λ_=>False) B.size (λk hk _=>B.block k hk (by simp)) (λ_ _ h=>h)
    have H:Rows2 (λk=>¬(k=gb\/k=sb)) (E.alloc (.cells #[.slice a2 x.length m] 24)) (.slice (some ⟨E.heap.size,0,none⟩) 1 1) [x]:=by
     refine⟨some ⟨E.heap.size,0,none⟩,1,rfl,⟨by simp,by simp,λh=>by cases h⟩,λi hi=>⟨E.heap.size,0,.slice a2 x.length m,rfl,by omega,by simp,?_,?_⟩⟩
     ·have:i=0:=by simpa using hi
      subst this;rw[World.cell?_alloc_at _ _ _ _ rfl];rfl
     ·have:i=0:=by simpa using hi
      subst this
      exact Ints.sub (Ints.ext ag B) (λj S _=>by
       have S:R.heap.size<=j:=S;omega)
    have ai:∀y∈[x],Vec P.orders y:=λy hy=>by rw[List.mem_singleton.1 hy];exact HX.out.1
    have HL:=Lib.hid (And.intro H ai);clear H ai;have I:=grown_trans af B;go_wp2_with fail
    refine Calls.mono (add_ok P G _ sb gb w.heap.size _ _ [x] t (genP P (takeP P has k)) (U.mono (λk _ l=>⟨by omega,Nat.lt_of_lt_of_le l I.size,I.block k l (by simp)⟩)) F hI.out HL.out.2 HL.out.1 (by simp)) ?_;rintro e5 w5 ⟨t5,g5,rfl,aj,hs5,hA,_,_⟩
    have ak:Ind P (genP P (takeP P has (k+1))) (gt t5):=by
     rw[az.out,<-genP_or];exact hA
    have aA:=Lib.hid ak;clear ak hA;have al:Z.grownBy w5 (some gb):=grown_trans (grown_trans z (grown_of_ext _ B)) aj;clear hI C Q F aj K;go_wp2;go_roundw
    case rel=>exact⟨k+1,t5,by go_num,by omega,al,hs5,aA⟩
    case measure=>simp[intOf];omega
  ·have aB:k=N:=by omega
   have am:Ind P (genP P (λy=>Vec P.orders y/\has y)) (gt t):=by
    have:=hI.out;rw[aB,HN.out.1,takeP_all hP] at this;exact this
   have aC:=Lib.hid am;clear am hI;go_wp2_with fail
   refine Calls.mono (canonical_ok P G wr sb gb w.heap.size _ t _ _ _ (U.ext b) C aC.out) ?_;rintro e3 E ⟨v3,rfl,a,hO⟩;go_wp2;go_ret;exact⟨_,rfl,grown_trans b a,hO.weak b.size⟩
theorem preimage_ok (P Q:Pr) (p:Grp P) (GQ:Grp Q) (Is:List (List Int)) (H:List Int->Prop) (S:Sub Q H) (w:World) (b:Nat) (q:Value) (r:Nat->Prop) (u:HomP Any w b P Q Is) (hI:∀x∈Is,Vec Q.orders x)
  (i:Is.length=P.orders.length) (z:Rows2 r w q (cseq Q H)) :
  Calls Tryz.prog 153 #[.pointer (some ⟨b,0,none⟩),q] w (Ret w λw' v=>RowsO w.heap.size w' v (cseq P (genP P (backP P Q Is H)))):=by
 obtain⟨j,a,rfl,_,_⟩:=Sl.shape z;have A:=Lib.hid (And.intro hI i);clear hI i;go_enter Tryz.func153,Tryz.ntmps153;have e:Ext w ((w.alloc (.cells #[.pointer (some ⟨b,0,none⟩)] 143)).alloc (.cells #[.slice j (cseq Q H).length a] 25)):=grown_trans (World.grownBy_alloc _ _ _) (World.grownBy_alloc _ _ _)
 have l:((w.alloc (.cells #[.pointer (some ⟨b,0,none⟩)] 143)).alloc (.cells #[.slice j (cseq Q H).length a] 25)).cell? ⟨w.heap.size,0,none⟩=some (.pointer (some ⟨b,0,none⟩)):=by
  have h1:(w.alloc (.cells #[.pointer (some ⟨b,0,none⟩)] 143)).cell? ⟨w.heap.size,0,none⟩=some (.pointer (some ⟨b,0,none⟩)):=by rw[World.cell?_alloc_at _ _ _ _ rfl];rfl
  exact(World.grownBy_alloc _ _ none).cell h1 (by simp)
 have m:((w.alloc (.cells #[.pointer (some ⟨b,0,none⟩)] 143)).alloc (.cells #[.slice j (cseq Q H).length a] 25)).cell? ⟨w.heap.size+1,0,none⟩=some (.slice j (cseq Q H).length a):=by
  rw[World.cell?_alloc_at _ _ _ _ (by simp)];rfl
 go_wp2_with fail
 refine Calls.mono (elementsWithPre_ok P p _ _ _ _ (λy=>H (prodR Q Is y Is.length)) Any (u.1.ext e) (λw' B X C k hx D=>preClosure_ok P Q p GQ Is H S w' b w.heap.size (w.heap.size+1) _ r (u.ext (grown_trans e k)) A.out.1 A.out.2 (k.cell l (by simp)) (k.cell m (by simp)) (Rows2.ext z (grown_trans e k)) B X C hx D)) ?_;rintro E F ⟨v1,rfl,hg1,hO⟩;go_wp2;go_ret;exact⟨_,rfl,grown_trans e hg1,hO.weak e.size⟩
def HomV (S:Nat->Prop) (w:World) (v:Value) (P Q:Pr) (Is:List (List Int)):Prop:=
 ∃vo vp vc a up b e,v=.agg #[vo,vp,vc,a,up,b,e]/\Pres3 S w vo vp vc P/\Pres3 S w a up b Q/\Rows2 S w e Is
theorem HomP.box {w:World}{vo vp vc b up e l:Value}{P Q:Pr}{Is:List (List Int)}{S:Nat->Prop}(h1:Pres3 S w vo vp vc P) (q:Pres3 S w b up e Q) (r:Rows2 S w l Is) (T:Nat) :
  HomP Any (w.alloc (.cells #[vo,vp,vc,b,up,e,l] T)) w.heap.size P Q Is:=by
 have m:Ext w (w.alloc (.cells #[vo,vp,vc,b,up,e,l] T)):=World.grownBy_alloc _ _ _;have j:∀i,(w.alloc (.cells #[vo,vp,vc,b,up,e,l] T)).cell? ⟨w.heap.size,i,none⟩ = #[vo,vp,vc,b,up,e,l][i]? :=λi=>World.cell?_alloc_at _ _ _ _ rfl;have p:∀ {x y z R},Pres3 S w x y z R->Pres3 Any (w.alloc (.cells #[vo,vp,vc,b,up,e,l] T)) x y z R:=λh=>(h.ext m).mono (λk _ hk=>⟨trivial,hk,rfl⟩);obtain⟨a,c,rfl,hl,hcc⟩:=r;refine⟨⟨_,_,vo,vp,vc,rfl,trivial,by simp,by rw[j];rfl,by rw[j];rfl,by rw[j];rfl,p h1⟩,⟨_,_,b,up,e,rfl,trivial,by simp,by rw[j];rfl,by rw[j];rfl,by rw[j];rfl,p q⟩,a,c,by rw[j];rfl,?_⟩;exact Rows2.sub (Rows2.ext ⟨a,c,rfl,hl,hcc⟩ m) (λ_ _ _=>trivial)
open Classical in
noncomputable def kerC (P Q:Pr) (Is:List (List Int)):Int:=if HomB P Q Is then 0 else 1
open Classical in
noncomputable def kerL (P Q:Pr) (Is:List (List Int)):List (List Int):=if HomB P Q Is then cseq P (genP P (backP P Q Is (λx=>x=zeros Q.orders.length))) else []
theorem ker_yes {P Q:Pr}{Is:List (List Int)}(h:HomB P Q Is):kerC P Q Is=0/\kerL P Q Is=cseq P (genP P (backP P Q Is (λx=>x=zeros Q.orders.length))):=by unfold kerC kerL;rw[if_pos h,if_pos h];exact⟨rfl,rfl⟩
theorem ker_no {P Q:Pr}{Is:List (List Int)}(h:¬HomB P Q Is):kerC P Q Is=1/\kerL P Q Is=[]:=by unfold kerC kerL;rw[if_neg h,if_neg h];exact⟨rfl,rfl⟩
theorem cseq_trivial {Q:Pr}(G:Grp Q):cseq Q (λx=>x=zeros Q.orders.length)=[]:=by
 have S:=G.sub_one;have h:=(G.seq_facts S).2.1;have h1:=(G.seq_facts S).1;cases b:cseq Q (λx=>x=zeros Q.orders.length) with
 | nil=>rfl
 | cons z l=>
  rw[b] at h h1;have e:=h z (List.mem_cons_self ..);have i:=(h1.1 z (List.mem_cons_self ..));have a:=i.2.2;rw[e] at a;have j:gt (zeros Q.orders.length) (dep (zeros Q.orders.length))=0:=gt_replicate _ _;rw[j] at a;exact absurd a (by decide)
theorem iKer_ok (P Q:Pr) (Is:List (List Int)) (w:World) (u:Value) (B:Nat->Prop) (C:HomV B w u P Q Is) :
  Calls Tryz.prog 53 #[u] w (Ret w λw' v=>∃a n c,v=.tuple #[.slice a n c,.int .i64 (kerC P Q Is)]/\RowsO w.heap.size w' (.slice a n c) (kerL P Q Is)):=by
 obtain⟨vo,vp,vc,uo,up,uc,vi,rfl,h1,h2,h3⟩:=C;have hB:=HomP.box h1 h2 h3 62;have j:Ext w (w.alloc (.cells #[vo,vp,vc,uo,up,uc,vi] 62)):=World.grownBy_alloc _ _ _;go_enter Tryz.func53,Tryz.ntmps53;go_wp2_with fail
 refine Calls.mono (isHom_ok P Q Is _ w.heap.size hB) ?_;rintro D z ⟨v1,rfl,hg1,r,rfl,hr⟩;have q:=hB.ext hg1;have b:=grown_trans j hg1;clear hB hg1 j;cases r with
 | false=>
  obtain⟨k,l⟩:=ker_no (P:=P) (Q:=Q) (Is:=Is) (λh=>by have:=hr.2 h;cases this);have e:=Lib.hid (And.intro k l);clear k l hr;go_wp2;go_ret2
  exact⟨_,rfl,b,none,0,0,by rw[e.out.1];rfl,by rw[e.out.2];exact SlO.nil _ _ _ _⟩
 | true=>
  have hH:=hr.1 rfl;obtain⟨k,l⟩:=ker_yes hH;have p:=grp_of_r hH.1;have GQ:=grp_of_r hH.2.1
  have m:Rows2 Any z (.slice none 0 0) (cseq Q (λx=>x=zeros Q.orders.length)):=by
   rw[cseq_trivial GQ];exact⟨none,0,rfl,⟨by simp,by simp,λ_=>rfl⟩,λi hi=>by simp at hi⟩
  have e:=Lib.hid (And.intro k (And.intro l hH));clear k l hr hH;go_wp2_with fail
  refine Calls.mono (preimage_ok P Q p GQ Is _ GQ.sub_one z w.heap.size _ Any q e.out.2.2.2.2.2.1 e.out.2.2.2.2.1 m) ?_;rintro E F ⟨v2,rfl,hg2,hO⟩;rw[<-e.out.2.1] at hO
  have A:(kerL P Q Is).length<=6:=by
   rw[e.out.2.1];have:=p.cseq_len (p.genP_sub (Q:=backP P Q Is (λx=>x=zeros Q.orders.length)) (λy h=>h.1));have:=p.v.n6;omega
  obtain⟨G,capz,fR,_,_⟩:=SlD.shape (hO.toD (by omega));subst fR;go_wp2;go_ret2
  exact⟨_,rfl,grown_trans b hg2,_,_,_,by rw[e.out.1];rfl,hO.weak b.size⟩
end Go.Proofs.YtldheeicjnncoaaGreat
