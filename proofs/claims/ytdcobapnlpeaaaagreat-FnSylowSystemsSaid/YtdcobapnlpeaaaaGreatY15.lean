/- Merged from templates. -/
import Derived.Test.YtdcobapnlpeaaaaGreatY14
import Derived.Shelf.SlSortCmp.NoneTotal
import Derived.Sort.OwnSortedInts
import Derived.Shelf.Spec.SlicesGrow
set_option maxRecDepth 100000
set_option maxHeartbeats 8000000
namespace Go.Proofs.YtdcobapnlpeaaaaGreat
open Go.RowKit
def iO (P:Pr) (X y:List Int):Prop:=∃k,y=pw P X k
theorem Grp.Al {P:Pr}(G:Grp P) {X:List Int}(a:Vec P.orders X):Sub P (iO P X):=
 G.sub_closed (λ_ ⟨k,e⟩=>by rw[e];exact G.pw_vec a k) ⟨0,rfl⟩ (λ_ _ ⟨k,e⟩ ⟨l,e2⟩=>⟨k+l,by rw[e,e2,G.pw_add a]⟩)
theorem Am {P:Pr}{X:List Int}{K:List Int->Prop}(S:Sub P K) (a:K X):∀x,iO P X x->K x:=λ_ ⟨k,e⟩=>by rw[e];exact S.pw a k
theorem Grp.Ao {P:Pr}(G:Grp P) {X:List Int}(a:Vec P.orders X):iO P X X:=⟨1,(G.pw_one a).symm⟩
theorem uB {P:Pr}(pr:List Int) (d:Nat):fo P pr d∣fo P pr (d+1):=by
 by_cases h:gt P.orders d∈pr
 ·rw[qJ h];exact Int.dvd_mul_right _ _
 ·rw[ue h];exact Int.dvd_refl _
theorem Ap {P:Pr}(pr:List Int) {d n:Nat}(h:d<=n):fo P pr d∣fo P pr n:=by
 induction n with
 | zero=>
  have:d=0:=by omega
  subst this;exact Int.dvd_refl _
 | succ n a=>
  rcases Nat.lt_or_ge d (n+1) with h1|h1
  ·exact Int.dvd_trans (a (by omega)) (uB pr n)
  ·have:d=n+1:=by omega
   subst this;exact Int.dvd_refl _
theorem Aq (P:Pr) (G:Grp P) (w:World) (p x:Value) (X:List Int) (Sp Sx:Nat->Prop) (M:PresP Sp w p P) (hx:Ints Sx w x X) (N:Vec P.orders X) :
  Calls Tryz.prog 102 #[p,x] w (Ret w λ_ v=>∃m:Int,v=.int .i64 m/\1<=m/\m<=729/\∀pr:List Int,(∀d,pv (ey G (iO P X)) d->gt P.orders d∈pr)->m∣dU P pr):=by
 have hP:=G.v;have ag:=hP.n6;obtain⟨pb,po,rfl⟩:=M.shape;obtain⟨ao,capo,fI,O⟩:=M.ordAt;have Q:=Lib.hid fI;clear fI;have B:=hP.le729;have l:∀d,d<=P.orders.length->prodTo P.orders d<=729:=λd I=>by have:=hP.pre d I;omega
 have n:=Lib.hid l;clear l B;go_enter Tryz.func102,Tryz.ntmps102;go_wp2;go_loopw [5,6,7] (λkv dv nv wr=>∃(d:Nat) (m:Int),dv=.int .i64 d/\kv=.int .i64 m/\d<=P.orders.length/\1<=m/\m<=prodTo P.orders d/\Ext w wr/\Ints Any wr nv (pw P X m.toNat)/\T P d (pw P X m.toNat)/\Hid (∀pr:List Int,(∀d,pv (ey G (iO P X)) d->gt P.orders d∈pr)->m∣fo P pr d)) (λ_ dv _ _=>P.orders.length-(intOf dv).toNat)
 case atStart=>
  have e:pw P X (1:Int).toNat=X:=G.pw_one N;exact⟨0,1,rfl,rfl,by omega,by omega,by simp[prodTo],Ext.refl _,by rw[e];exact Ints.sub hx (λ_ _ _=>trivial),by rw[e];exact T_zero.2 N,Lib.hid (λ_ _=>Int.one_dvd _)⟩
 case round=>
  obtain⟨d,m,rfl,rfl,I,hm1,C,z,q,J,r⟩:=hrel;obtain⟨Y,R⟩:∃Y,Y=pw P X m.toNat:=⟨_,rfl⟩;rw[<-R] at q J;have K:=Lib.hid R;clear R;have S:m<=729:=by have:=n.out d I;omega
  have ai:Y.length<=P.orders.length/\P.orders.length<=Y.length:=by rw[J.1.1];omega
  obtain⟨an,Eg,rfl,_,_⟩:=q.shape;have j:=Lib.hid (And.intro J C);clear J C;cases hz:isZeroB Y with
  | true=>
   have Z:∀pr:List Int,(∀d,pv (ey G (iO P X)) d->gt P.orders d∈pr)->m∣dU P pr:=λpr h=>Int.dvd_trans (r.out pr h) (Ap pr I);have H0:=Lib.hid Z;clear Z;go_wp2_with (go_at_call 208;refine(isZero_ok _ _ wr Any q).mono ?_;rintro A w1 ⟨rfl,rfl⟩)
   go_ret;exact⟨_,rfl,z,m,rfl,hm1,S,H0.out⟩
  | false=>
   have g:d<P.orders.length:=by
    rcases Nat.lt_or_ge d P.orders.length with h|h
    ·exact h
    ·exfalso
     have:isZeroB Y=true:=Ak.2 (λk hk=>j.out.1.2 k (by omega));rw[hz] at this;cases this
   obtain⟨b,off,hab,_,_,hc⟩:=Ints.at q d (by omega);cases hab
   have al:(d:Int)<Y.length:=by omega
   by_cases a:gt Y d=0
   ·have hb:(gt Y d != 0)=false:=by simp[a]
    have D:=j.out.1.up a;have u:Hid (∀pr:List Int,(∀d,pv (ey G (iO P X)) d->gt P.orders d∈pr)->m∣fo P pr (d+1)):=Lib.hid (λpr h=>Int.dvd_trans (r.out pr h) (uB pr d))
    have i:m<=prodTo P.orders (d+1):=by
     have h1:=j.out.2;have h2:=hP.ord7 d g;have h3:prodTo P.orders d*1<=prodTo P.orders d*gt P.orders d:=Int.mul_le_mul_of_nonneg_left (by omega) (by omega);simp only[prodTo];omega
    have E:=Lib.hid (And.intro D i);clear D i;clear a;go_wp2_with (go_at_call 208;refine(isZero_ok _ _ wr Any q).mono ?_;rintro A w1 ⟨rfl,rfl⟩)
    go_roundw
    case rel=>exact⟨d+1,m,by go_num,rfl,by omega,hm1,E.out.2,z,by rw[<-K.out];exact q,by rw[<-K.out];exact E.out.1,u⟩
    case measure=>simp[intOf];omega
   ·have hb:(gt Y d != 0)=true:=by simp[a]
    have ho:=hP.ord7 d g
    have u:Hid (∀pr:List Int,(∀d,pv (ey G (iO P X)) d->gt P.orders d∈pr)->m*gt P.orders d∣fo P pr (d+1)):=Lib.hid (λpr h=>by
     have U:pv (ey G (iO P X)) d:=⟨g,⟨Y,j.out.1.1⟩,⟨m.toNat,K.out⟩,j.out.1.2,a⟩;rw[qJ (h d U)];exact Int.mul_dvd_mul (r.out pr h) (Int.dvd_refl _))
    obtain⟨b2,off2,kD,_,_,hc2⟩:=Ints.at (O.ext z) d g;cases kD
    have F:=z.cell Q.out (by simp);have ap:(d:Int)<P.orders.length:=by omega
    have y:=G.pw_order g j.out.1
    have A:pw P Y (gt P.orders d).toNat=pw P X (m*gt P.orders d).toNat:=by
     rw[K.out,<-G.pw_mul N];congr 1
     have:((m.toNat*(gt P.orders d).toNat:Nat):Int)=m*gt P.orders d:=by
      rw[Int.natCast_mul,show((m.toNat:Nat):Int)=m by omega,show(((gt P.orders d).toNat:Nat):Int)=gt P.orders d by omega]
     omega
    rw[A] at y;have e2:iPow P Y (gt P.orders d)=pw P X (m*gt P.orders d).toNat:=by rw[G.iPow_eq j.out.1.1];exact A
    have i:m*gt P.orders d<=prodTo P.orders (d+1):=Int.mul_le_mul_of_nonneg_right j.out.2 (by omega);have aq:prodTo P.orders (d+1)<=729:=n.out (d+1) (by omega)
    have V:1<=m*gt P.orders d:=by
     have:1*1<=m*gt P.orders d:=Int.mul_le_mul hm1 (by omega) (by omega) (by omega);omega
    have ar:IntKind.i64.wrap (m*gt P.orders d)=m*gt P.orders d:=IntWalk.i64_in _ (by omega);have L:=Lib.hid (And.intro e2 (And.intro y i));clear A e2 y i a;go_wp2_with (first|(go_at_call 208;refine(isZero_ok _ _ wr Any q).mono ?_;rintro A w1 ⟨rfl,rfl⟩)|fail)
    refine Calls.mono (power_ok P hP wr _ _ _ (gt P.orders d) _ _ (M.ext z) q j.out.1.1 (by omega)) ?_;rintro eA wA ⟨vA,rfl,dR,H⟩;rw[L.out.1] at H;have ac:=dR.cell F (by simp);have ad:=dR.cell hc2 (by simp);have W:Ints Any wA vA (pw P X (m*gt P.orders d).toNat):=H.ints (by rw[L.out.2.1.1.1];omega);clear F hc2 hc;go_wp2;go_roundw
    case rel=>exact⟨d+1,m*gt P.orders d,by go_num,rfl,by omega,V,L.out.2.2,grown_trans z dR,W,L.out.2.1,u⟩
    case measure=>simp[intOf];omega
theorem uC (P:Pr) (u:List (List Int)) (S:List (List (List Int))):∀t,(fu P u S t).1.length=S.length+(fu P u S t).2
 | 0=>rfl
 | t + 1=>by
  have a:=uC P u S t;by_cases h:dK P u (elAt P (t:Int))∈(fu P u S t).1
  ·rw[oC h];exact a
  ·rw [oD h]
   simp only[List.length_append,List.length_singleton];omega
section
variable {P:Pr}(G:Grp P)
include G
end
end Go.Proofs.YtdcobapnlpeaaaaGreat
namespace Go.Proofs.YtdcobapnlpeaaaaGreat
open Go.Proofs Go.Shelf Go.RowKit Go.Lib Go.Sort
def Tryz.sortRows_ren : Go.Shelf.Ren := ⟨fun | 6 => 247 | 15 => 297 | 14 => 296 | 28 => 332 | 29 => 333 | 20 => 324 | 21 => 325 | 22 => 326 | 23 => 327 | 24 => 328 | 25 => 329 | 26 => 330 | 27 => 331 | 46 => 351 | 47 => 352 | 48 => 353 | 49 => 354 | 50 => 355 | 57 => 367 | n => n, fun | 22 => 25 | 24 => 24 | 25 => 195 | 3 => 3 | 39 => 139 | 0 => 0 | 53 => 266 | 55 => 62 | 4 => 4 | 46 => 260 | 45 => 259 | 50 => 193 | 5 => 5 | 9 => 9 | 66 => 281 | 70 => 285 | 76 => 296 | 77 => 297 | n => n, fun | n => n⟩
theorem Tryz.sortRows : Go.Proofs.SlLaysF.n6 Tryz.prog Tryz.sortRows_ren := {
  mixed := by kernel_rfl
  f6 := ⟨Tryz.f247.name, by decide, Tryz.func247.trans (congrArg some (by kernel_rfl))⟩
  f14 := ⟨Tryz.f296.name, by decide, Tryz.func296.trans (congrArg some (by kernel_rfl))⟩
  f15 := Tryz.func297.trans (congrArg some (by kernel_rfl))
  f20 := ⟨Tryz.f324.name, by decide, Tryz.func324.trans (congrArg some (by kernel_rfl))⟩
  f21 := ⟨Tryz.f325.name, by decide, Tryz.func325.trans (congrArg some (by kernel_rfl))⟩
  f22 := ⟨Tryz.f326.name, by decide, Tryz.func326.trans (congrArg some (by kernel_rfl))⟩
  f23 := ⟨Tryz.f327.name, by decide, Tryz.func327.trans (congrArg some (by kernel_rfl))⟩
  f24 := ⟨Tryz.f328.name, by decide, Tryz.func328.trans (congrArg some (by kernel_rfl))⟩
  f25 := ⟨Tryz.f329.name, by decide, Tryz.func329.trans (congrArg some (by kernel_rfl))⟩
  f26 := ⟨Tryz.f330.name, by decide, Tryz.func330.trans (congrArg some (by kernel_rfl))⟩
  f27 := ⟨Tryz.f331.name, by decide, Tryz.func331.trans (congrArg some (by kernel_rfl))⟩
  f28 := Tryz.func332.trans (congrArg some (by kernel_rfl))
  f29 := Tryz.func333.trans (congrArg some (by kernel_rfl))
  f46 := ⟨Tryz.f351.name, by decide, Tryz.func351.trans (congrArg some (by kernel_rfl))⟩
  f47 := Tryz.func352.trans (congrArg some (by kernel_rfl))
  f48 := Tryz.func353.trans (congrArg some (by kernel_rfl))
  f49 := ⟨Tryz.f354.name, by decide, Tryz.func354.trans (congrArg some (by kernel_rfl))⟩
  f50 := ⟨Tryz.f355.name, by decide, Tryz.func355.trans (congrArg some (by kernel_rfl))⟩
  f57 := ⟨Tryz.f367.name, by decide, Tryz.func367.trans (congrArg some (by kernel_rfl))⟩
  t0 := Tryz.underlying0
  a0 := Tryz.isAgg0
  z0 := Tryz.sizeOf0
  v0 := Tryz.zeroValue0
  t3 := Tryz.underlying3
  a3 := Tryz.isAgg3
  z3 := Tryz.sizeOf3
  v3 := Tryz.zeroValue3
  t4 := Tryz.underlying4
  a4 := Tryz.isAgg4
  z4 := Tryz.sizeOf4
  v4 := Tryz.zeroValue4
  t5 := Tryz.underlying5
  a5 := Tryz.isAgg5
  z5 := Tryz.sizeOf5
  v5 := Tryz.zeroValue5
  t9 := Tryz.underlying9
  a9 := Tryz.isAgg9
  z9 := Tryz.sizeOf9
  v9 := Tryz.zeroValue9
  t22 := Tryz.underlying25
  a22 := Tryz.isAgg25
  z22 := Tryz.sizeOf25
  v22 := Tryz.zeroValue25
  a24 := Tryz.isAgg24
  z24 := Tryz.sizeOf24
  t25 := Tryz.underlying195
  a25 := Tryz.isAgg195
  z25 := Tryz.sizeOf195
  v25 := Tryz.zeroValue195
  t39 := Tryz.underlying139
  a39 := Tryz.isAgg139
  z39 := Tryz.sizeOf139
  v39 := Tryz.zeroValue139
  t45 := Tryz.underlying259
  a45 := Tryz.isAgg259
  z45 := Tryz.sizeOf259
  v45 := Tryz.zeroValue259
  t46 := Tryz.underlying260
  a46 := Tryz.isAgg260
  z46 := Tryz.sizeOf260
  v46 := Tryz.zeroValue260
  t50 := Tryz.underlying193
  a50 := Tryz.isAgg193
  z50 := Tryz.sizeOf193
  v50 := Tryz.zeroValue193
  t53 := Tryz.underlying266
  a53 := Tryz.isAgg266
  z53 := Tryz.sizeOf266
  v53 := Tryz.zeroValue266
  t55 := Tryz.underlying62
  a55 := Tryz.isAgg62
  z55 := Tryz.sizeOf62
  v55 := Tryz.zeroValue62
  t66 := Tryz.underlying281
  a66 := Tryz.isAgg281
  z66 := Tryz.sizeOf281
  v66 := Tryz.zeroValue281
  t70 := Tryz.underlying285
  a70 := Tryz.isAgg285
  z70 := Tryz.sizeOf285
  v70 := Tryz.zeroValue285
  t76 := Tryz.underlying296
  a76 := Tryz.isAgg296
  z76 := Tryz.sizeOf296
  v76 := Tryz.zeroValue296
  t77 := Tryz.underlying297
  a77 := Tryz.isAgg297
  z77 := Tryz.sizeOf297
  v77 := Tryz.zeroValue297 }
section
variable {α:Type} [Inhabited α] {enc:α->Value}
theorem holds_of_blockV {w:World}{g:Nat}{a:Array Value}{e:TypeId}{ss:List α}(i:w.heap[g]? = some (.cells a e (0,0))) (k:a.toList.take ss.length=ss.map enc):Go.Sort.Holds enc w g 0 ss.toArray:=by
 intro j l;have b:j<ss.length:=by simpa using l
 refine⟨?_,by simp[World.frozen?,i]⟩;have h1:(a.toList.take ss.length)[j]? = (ss.map enc)[j]? :=by rw[k]
 rw[List.getElem?_take_of_lt b] at h1;simp only[World.cell?,i,Nat.zero_add];simp only[Option.isSome_none,Bool.false_eq_true,if_false];rw[<-Array.getElem?_toList,h1];simp[b]
theorem heap_sortedV {w:World}{g n:Nat}{os:Array Obj}{j:Array Value}{e:TypeId}{k:Nat × Nat}(d:Array α) (l:w.heap[g]? = some (.cells j e k)) :
  (sortWorld enc w g 0 n d os).heap[g]? = some (.cells (putCells enc 0 d j) e k):=by
 have m:g<w.heap.size:=(Array.getElem?_eq_some_iff.1 l).1;unfold sortWorld;rw[heap_grow_old _ _ (by simpa using m)];simp[putRow,mapBlock,Sort.ahead,Array.getElem?_modify,l,onCells]
theorem grownBy_sortedV {w:World}{g n:Nat}{os:Array Obj}(d:Array α):w.grownBy (sortWorld enc w g 0 n d os) (some g):=by
 unfold sortWorld;refine⟨rfl,rfl,rfl,by simp,λk hk i => ?_⟩;rw[heap_grow_old _ _ (by simpa using hk)];have:g≠k:=λe=>i (by rw[e]);simp[putRow,mapBlock,Sort.ahead,Array.getElem?_modify,this]
theorem take_putCellsV (b:Array Value) (ts:List α) (h:ts.length<=b.size):(putCells enc 0 ts.toArray b).toList.take ts.length=ts.map enc:=by
 apply List.ext_getElem?;intro j;by_cases e:j<ts.length
 ·rw [List.getElem?_take_of_lt e,Array.getElem?_toList]
  simp[putCells,e,show j<b.size by omega]
 ·rw[List.getElem?_take_eq_none (by omega),List.getElem?_eq_none (by simp;omega)]
theorem ownsRow_sortedV {w:World}{base g cap n:Nat}{e:TypeId}{os:Array Obj}{a:Array Value}{ss ts:List α}(k:ts.length=ss.length) (b:base<=g) (l:w.heap[g]? = some (.cells a e (0,0)))
  (h1:ss.length<=cap) (m:cap<=maxLen) (p:a.size=cap*1) :
  (sortWorld enc w g 0 n ts.toArray os).ownsRow base e 1 (.slice (some ⟨g,0,none⟩) ss.length cap) ss.length (ts.map enc):=
 ⟨by simp[k],.inr ⟨g,cap,_,rfl,b,heap_sortedV _ l,h1,m,by simp[putCells,p],by rw[Nat.mul_one,<-k];exact take_putCellsV a ts (by omega)⟩⟩
end
def encAt (a:List Value) (k:Nat):Value:=if k<a.length then gt a k else .slice none 0 0
def cfAt (L:List (List Int)) (i j:Nat):Int:=cmpL (gt L i) (gt L j)
theorem ltOf_true {L:List (List Int)}{x y:Nat} : ltOf (cfAt L) x y=true↔cmpL (gt L x) (gt L y)<0:=by unfold ltOf;rw[decide_eq_true_iff];rfl
theorem ltOf_false {L:List (List Int)}{x y:Nat} : ltOf (cfAt L) x y=false↔0<=cmpL (gt L x) (gt L y):=by
 unfold ltOf;rw[decide_eq_false_iff_not];show ¬(cmpL (gt L x) (gt L y)<0)↔_;omega
theorem swo_cfAt (L:List (List Int)):SWO (ltOf (cfAt L)) where
 irrefl x:=by
  have:=(cmpL_zero (gt L x) (gt L x)).2 rfl;rw[ltOf_false];omega
 trans x y z h k:=by
  rw[ltOf_true] at *;have h1:=cmpL_le_trans (gt L x) (gt L y) (gt L z) (by omega) (by omega)
  have b:cmpL (gt L x) (gt L z)≠0:=by
   intro e;rw[cmpL_zero] at e;rw[e] at h;have:=cmpL_swap (gt L z) (gt L y);omega
  omega
 ntrans x y z h k:=by
  rw[ltOf_false] at *;have h1:=cmpL_swap (gt L x) (gt L y);have b:=cmpL_swap (gt L y) (gt L z);have g:=cmpL_swap (gt L x) (gt L z);have i:=cmpL_le_trans (gt L z) (gt L y) (gt L x) (by omega) (by omega);omega
theorem encAt_one {a:List Value}(h:∀i,i<a.length->(gt a i).oneCell'=true):OneCell (encAt a):=by
 intro k;unfold encAt;split
 ·exact h k (by assumption)
 ·rfl
theorem gt_inj {α:Type} [Inhabited α] {l:List α}(h:l.Nodup) {i j:Nat}(a:i<l.length) (b:j<l.length) (e:gt l i=gt l j):i=j:=by
 simp only[gt,List.getD_eq_getElem?_getD,List.getElem?_eq_getElem a,List.getElem?_eq_getElem b,Option.getD_some] at e;rcases Nat.lt_trichotomy i j with h1|h1|h1
 ·exact absurd e (List.pairwise_iff_getElem.1 h i j a b h1)
 ·exact h1
 ·exact absurd e.symm (List.pairwise_iff_getElem.1 h j i b a h1)
theorem sortRows_ok (w:World) (v:Value) (L:List (List Int)) (B:Nat) (hL:RowsO B w v L) (ai:0<L.length) (af:L.length<=1000000) :
  Calls Tryz.prog 247 #[v,.func (.func 245) #[] #[]] w λe w'=>e=.returned (.tuple #[])/\RowsO B w' v (sortL L)/\w.grownBy w' v.ownBlock:=by
 obtain⟨q,G,r,hO,T,hd,U⟩:=hL;obtain⟨_,⟨rfl,h0⟩|⟨g,cap,cur,rfl,j6,V,hnc,hcm,hsz,hx⟩⟩:=hO
 ·omega
 have W:g<w.heap.size:=(Array.getElem?_eq_some_iff.1 V).1
 have O:OneCell (encAt q):=encAt_one λi A=>by
  exact rdOwn.one (U i (by omega))
 have P:(List.range L.length).map (encAt q)=q:=by
  apply List.ext_getElem (by simp[r]);intro j h1 N;simp[encAt,gt,N]
 have hH:Go.Sort.Holds (encAt q) w g 0 (List.range L.length).toArray:=holds_of_blockV V (by rw[P,List.length_range,<-r];simpa using hx);have eg:∀args w,(callFunc 245 args).run Tryz.prog w=.ok (.enter 245 args) w:=enters_of Tryz.func245 (by kernel_rfl) rfl
 have Q:CmpReads Tryz.prog 245 #[] (encAt q) (cfAt L) g 0 (List.range L.length).toArray.size w:=by
  intro m os X _ x y;have u:w.grownBy (sortWorld (encAt q) w g 0 m X os) (some g):=grownBy_sortedV X
  have C:∀k,Ints Any (sortWorld (encAt q) w g 0 m X os) (encAt q k) (gt L k):=by
   intro k;by_cases hk:k<q.length
   ·have R:=(U k (by omega)).ints
    unfold encAt;rw[if_pos hk];exact Ints.mono R (λb F D=>⟨trivial,Nat.lt_of_lt_of_le D u.size,u.block b D (λe=>(T k b (by omega) F).2.1 (by cases e;rfl))⟩)
   ·have h1:gt L k=[]:=by simp[gt,show ¬k<L.length by omega];rfl
    unfold encAt;rw[if_neg hk,h1];exact⟨none,0,rfl,⟨by simp,by simp,λ_=>rfl⟩,λi A=>by simp at A⟩
  refine(sCompare_ok _ _ _ _ _ _ _ (C x) (C y)).mono ?_;rintro e w' ⟨rfl,rfl⟩;exact⟨rfl,0,rfl⟩
 have E:=Any.slices_SortFunc Tryz.sortRows (encAt q) O (cfAt L) (swo_cfAt L) 245 #[] g 0 cap (List.range L.length).toArray w eg Q.lays hH W (by simp;omega);change Calls Tryz.prog 247 _ _ _ at E;have I:(List.range L.length).toArray.size=q.length:=by simp[r]
 rw[I] at E;refine E.mono ?_;rintro e w' ⟨R,a,n,os,⟨S,_,jU⟩,lF,rfl⟩;have H:a.toList.length=L.length:=by simpa [r] using S
 have hP:a.toList.Perm (List.range L.length):=by
  have h1:a.extract 0 q.length=a:=by
   apply Array.ext';rw[r,<-H];simp
  have N:(List.range L.length).toArray.extract 0 q.length=(List.range L.length).toArray:=by
   apply Array.ext';rw[r];simp
  rw[h1,N] at jU;simpa using jU
 have z:∀i,i<L.length->gt a.toList i<L.length:=λi A=>by
  have:=hP.subset (gt_mem (l:=a.toList) (i:=i) (by omega));simpa using this
 have Y:a.toList.Nodup:=hP.symm.nodup List.nodup_range
 have J:(List.range L.length).map (gt L)=L:=by
  apply List.ext_getElem (by simp);intro j h1 N;simp[gt,N]
 have K:a.toList.map (gt L)=sortL L:=by
  refine sortL_unique ?_ ?_
  ·have:=hP.map (gt L)
   rwa [J] at this
  ·refine List.pairwise_iff_getElem.2 ?_
   intro i j A hj Z;have aa:i<a.size:=by simpa using A
   have M:j<a.size:=by simpa using hj
   have h1:=lF i j (Nat.zero_le _) Z (by rw[S,I] at M;exact M);rw[ltOf_false,getElem!_pos a i aa,getElem!_pos a j M] at h1;have N:=cmpL_swap (gt L a[j]) (gt L a[i]);simp only[List.getElem_map,Array.getElem_toList];omega
 have u:w.grownBy (sortWorld (encAt q) w g 0 n a os) (some g):=grownBy_sortedV a
 have ab:∀i,i<L.length->gt (a.toList.map (encAt q)) i=gt q (gt a.toList i):=λi A=>by
  have h1:gt (a.toList.map (encAt q)) i=encAt q (gt a.toList i):=gt_map _ _ _ (by omega);rw[h1];unfold encAt;rw[if_pos (by rw[r];exact z i A)]
 have ac:∀i,i<L.length->gt (sortL L) i=gt L (gt a.toList i):=λi A=>by
  rw[<-K];exact gt_map _ _ _ (by omega)
 have ad:(sortL L).length=L.length:=(sortL_perm L).length_eq;refine⟨R,⟨a.toList.map (encAt q),λi k=>G (gt a.toList i) k,by simp[ad,<-H],?_,?_,?_,?_⟩,u⟩
 ·have:=ownsRow_sortedV (enc:=encAt q) (n:=n) (os:=os) (ss:=List.range L.length) (ts:=a.toList) (by rw[H,List.length_range]) j6 V (by rw[List.length_range,<-r];exact hnc) hcm hsz
  rw[List.length_range,<-r] at this;unfold OwnV;rw[show(a.toList.map (encAt q)).length=q.length by rw[List.length_map,H,r]];simpa using this
 ·intro i k A hk
  obtain⟨a1,a2,a3⟩:=T _ k (z i (by omega)) hk;exact⟨a1,a2,Nat.lt_of_lt_of_le a3 u.size⟩
 ·intro i j k A hj hk ae
  exact gt_inj Y (by omega) (by omega) (hd _ _ k (z i (by omega)) (z j (by omega)) hk ae)
 ·intro i A
  show OwnIn _ _ _ _
  rw[ab i (by omega),ac i (by omega)];have R:=U _ (z i (by omega));exact rdOwn.mono R (λb F D=>⟨F,Nat.lt_of_lt_of_le D u.size,u.block b D (λe=>(T _ b (z i (by omega)) F).2.1 (by cases e;rfl))⟩)
def iA (P:Pr) (u v:List (List Int)):Int:=if cmpI (prodU P u u.length) (prodU P v v.length)=0 then cmpL u.flatten v.flatten else cmpI (prodU P u u.length) (prodU P v v.length)
theorem kF {P:Pr}{u v:List (List Int)} : iA P u v<0↔subLt P u v:=by
 unfold iA subLt;rcases cmpI_cases (prodU P u u.length) (prodU P v v.length) with⟨h,k⟩|⟨h,k⟩|⟨h,k⟩<;>rw[h]
 ·rw[if_neg (by omega)];exact⟨λ_ => .inl k,λ_=>by omega⟩
 ·rw[if_pos rfl];exact⟨λh => .inr ⟨k,h⟩,λh=>(h.elim (λh=>(by omega)) (λh=>h.2))⟩
 ·rw[if_neg (by omega)];exact⟨λh=>by omega,λh=>by omega⟩
theorem Au (P:Pr) (u v:List (List Int)):iA P v u = - iA P u v:=by
 unfold iA;rw[cmpL_swap u.flatten v.flatten];rcases cmpI_cases (prodU P u u.length) (prodU P v v.length) with⟨h,k⟩|⟨h,k⟩|⟨h,k⟩<;>rcases cmpI_cases (prodU P v v.length) (prodU P u u.length) with⟨a,k'⟩|⟨a,k'⟩|⟨a,k'⟩<;>rw[h,a]
 all_goals first|omega|rfl
theorem Aw (P:Pr):SWO (ltOf (iA P)) where
 irrefl x:=by
  have:=Au P x x;unfold ltOf;rw[decide_eq_false_iff_not];omega
 trans x y z h k:=by
  unfold ltOf at *;rw[decide_eq_true_iff] at *;exact kF.2 (subLt_trans (kF.1 h) (kF.1 k))
 ntrans x y z h k:=by
  unfold ltOf at *;rw[decide_eq_false_iff_not] at *;intro i;have g:=kF.1 i;unfold subLt at g;rw[kF] at h k;unfold subLt at h k;have h1:=cmpL_swap x.flatten y.flatten;have m:=cmpL_swap y.flatten z.flatten;have n:=cmpL_swap x.flatten z.flatten;rcases g with g|⟨e,g⟩
  ·have:¬prodU P x x.length<prodU P y y.length:=λb=>h (.inl b)
   have:¬prodU P y y.length<prodU P z z.length:=λb=>k (.inl b);omega
  ·have hx:¬prodU P x x.length<prodU P y y.length:=λb=>h (.inl b)
   have hy:¬prodU P y y.length<prodU P z z.length:=λb=>k (.inl b);have j:prodU P x x.length=prodU P y y.length:=by omega
   have l:prodU P y y.length=prodU P z z.length:=by omega
   have c1:¬cmpL x.flatten y.flatten<0:=λb=>h (.inr ⟨j,b⟩);have c2:¬cmpL y.flatten z.flatten<0:=λb=>k (.inr ⟨l,b⟩);have p:=cmpL_le_trans z.flatten y.flatten x.flatten (by omega) (by omega);omega
end Go.Proofs.YtdcobapnlpeaaaaGreat
namespace Go.Proofs.YtdcobapnlpeaaaaGreat
open Go.RowKit
section
variable {P:Pr}
def jm (G:Grp P) (pr:List Int) (U:List (List Int)) (t:Nat):Prop:=
 ¬ gP P U (elAt P (t:Int))/\prodU P (cseq P (extP P (gP P U) (elAt P (t:Int)))) (cseq P (extP P (gP P U) (elAt P (t:Int)))).length∣dU P pr /\
  ∀d,pv (ey G (iO P (elAt P (t:Int)))) d->gt P.orders d∈pr
theorem uD (G:Grp P) (pr:List Int) {u:List (List Int)}(e:SubB P u) (g:prodU P u u.length∣dU P pr) (a:prodU P u u.length≠dU P pr):∃t,t<(ordP P).toNat/\jm G pr u t:=by
 obtain⟨t,h1,h2,h3,h4⟩:=zJ G pr e g a;have b:=G.elAtV h1;exact⟨t,h1,h2,h3,h4 _ (G.Al b) (G.Ao b) (λK i j=>Am i j)⟩
structure gT (G:Grp P) (pr:List Int) (U U':List (List Int)) (t:Nat):Prop where
 sub:SubB P U'
 dv:prodU P U' U'.length∣dU P pr
 up:prodU P U U.length<prodU P U' U'.length\/(U'=U/\∀j,j<t->¬jm G pr U j)
theorem gT.start {G:Grp P}{pr:List Int}{U:List (List Int)}(a:SubB P U) (b:prodU P U U.length∣dU P pr):gT G pr U U 0:=⟨a,b,.inr ⟨rfl,λj e=>by omega⟩⟩
theorem gT.skip {G:Grp P}{pr:List Int}{U U':List (List Int)}{t:Nat}(h:gT G pr U U' t) (b:¬jm G pr U' t):gT G pr U U' (t+1):=by
 refine⟨h.sub,h.dv,?_⟩;rcases h.up with h1|⟨h1,h2⟩
 ·exact .inl h1
 ·refine .inr ⟨h1,λj e => ?_⟩
  rcases Nat.lt_succ_iff_lt_or_eq.1 e with a|a
  ·exact h2 j a
  ·subst a;rw[<-h1];exact b
theorem ext_sub (G:Grp P) {U:List (List Int)}(a:SubB P U) {x:List Int}(hx:Vec P.orders x):Sub P (extP P (gP P U) x):=
 G.genP_sub (λy hy=>hy.elim (λh=>(G.subB a).vec y h) (λh=>h▸hx))
theorem gT.take {G:Grp P}{pr:List Int}{U U':List (List Int)}{t:Nat}(h:gT G pr U U' t) (g:t<(ordP P).toNat) (i:¬gP P U' (elAt P (t:Int)))
  (j:prodU P (cseq P (extP P (gP P U') (elAt P (t:Int)))) (cseq P (extP P (gP P U') (elAt P (t:Int)))).length∣dU P pr):gT G pr U (cseq P (extP P (gP P U') (elAt P (t:Int)))) (t+1):=by
 have k:=G.elAtV g;have e:=ext_sub G h.sub k;refine⟨G.subB_cseq e,j,.inl ?_⟩;have h1:=G.tj (G.subB h.sub) e (λx hx=>genP_mem (.inl hx));have l:cseq P (genP P λx=>x∈U')=U':=h.sub.2.symm;rw[l] at h1
 have b:prodU P U' U'.length<prodU P (cseq P (extP P (gP P U') (elAt P (t:Int)))) (cseq P (extP P (gP P U') (elAt P (t:Int)))).length:=by
  rcases Int.lt_or_eq_of_le h1.1 with a|a
  ·exact a
  ·exact absurd (h1.2 a _ (genP_mem (.inr rfl))) i
 rcases h.up with a|⟨a,_⟩
 ·omega
 ·rw [a] at b
  rw[a];exact b
theorem gT.fin {G:Grp P}{pr:List Int}{U U':List (List Int)}(h:gT G pr U U' (ordP P).toNat) (b:SubB P U) (e:prodU P U U.length∣dU P pr) (a:prodU P U U.length≠dU P pr):prodU P U U.length<prodU P U' U'.length:=by
 rcases h.up with h1|⟨_,g⟩
 ·exact h1
 ·obtain ⟨t,i,hU⟩:=uD G pr b e a
  exact absurd hU (g t i)
theorem uE (P:Pr) (U:List (List Int)) (x:List Int):genP P (λz=>z∈U++[x])=extP P (gP P U) x:=by
 unfold extP;rw[genP_or];congr 1
 funext z
 rw[List.mem_append,List.mem_singleton]
theorem uF (G:Grp P) (pr:List Int):1<=dU P pr/\dU P pr<=729:=qI G.v pr _ (Nat.le_refl _)
theorem oI {a b:Int}(h:a∣b) (e:1<=b):a<=b:=Int.le_of_dvd (by omega) h
theorem qP {a b:Int} : a%b=0↔b∣a:=⟨Int.dvd_of_emod_eq_zero,Int.emod_eq_zero_of_dvd⟩
end
noncomputable def fO (P:Pr) (u:List (List Int)) (t:Nat):List (List (List Int)):=(fu P u [] t).1
theorem Ax (P:Pr) (u:List (List Int)) (t:Nat):(fO P u t).length<=t:=by
 have h1:=uC P u [] t;have a:=tU P u [] t;unfold fO;simp only[List.length_nil] at h1;omega
theorem qQ {P:Pr}(G:Grp P) {u:List (List Int)}(a:SubB P u) (t:Nat) (b:t<=(ordP P).toNat):qC P (fO P u t):=G.tV a ⟨λv h=>(by cases h),List.nodup_nil⟩ t b
theorem oJ {P:Pr}(G:Grp P) {pr:List Int}{u:List (List Int)}(a:gQ P pr u) (v:List (List Int)):v∈fO P u (ordP P).toNat↔gQ P pr v:=by
 unfold fO;rw[tW,tZ G a];simp
theorem Ay {P:Pr}(G:Grp P) {pr:List Int}{u:List (List Int)}(n:gQ P pr u) {b:List (List (List Int))}(g:b.Perm (fO P u (ordP P).toNat)) (q:b.Pairwise (λx y=>0<=iA P y x)):gR P pr b:=by
 have p:=qQ G n.1 _ (Nat.le_refl _);have k:b.Nodup:=g.symm.nodup p.one;have a:∀v∈b,SubB P v:=λv r=>p.sub v (g.mem_iff.1 r);refine⟨?_,λv=>(g.mem_iff).trans (oJ G n v)⟩;refine List.pairwise_iff_getElem.2 λi j l m e => ?_;have h1:=List.pairwise_iff_getElem.1 q i j l m e;have w:=List.pairwise_iff_getElem.1 k i j l m e;refine Classical.byContradiction λz => ?_;have:=subLt_total G (a _ (List.getElem_mem l)) (a _ (List.getElem_mem m)) w z;rw[<-kF] at this;omega
section
variable {P:Pr}(G:Grp P)
include G
theorem Grp.uG:SubB P []:=by
 have h:=G.subB_cseq G.sub_one;have j:=G.kX G.sub_one
 have e:cseq P (λx=>x=zeros P.orders.length)=[]:=by
  have a:=G.seq_facts G.sub_one;cases b:cseq P (λx=>x=zeros P.orders.length) with
  | nil=>rfl
  | cons z l=>
   exfalso
   have g:=a.2.1 z (by rw[b];exact List.mem_cons_self ..);have i:=(a.1.1 z (by rw[b];exact List.mem_cons_self ..)).2.2;rw[g] at i;have:gt (zeros P.orders.length) (dep (zeros P.orders.length))=0:=gt_replicate _ _;omega
 rw[e] at h;exact h
theorem Grp.oK {u:List (List Int)}(a:SubB P u):1<=prodU P u u.length:=by
 have h:=(G.seq_facts (G.subB a)).1;rw[<-a.2] at h;exact(prodU_729 G.v h _ (Nat.le_refl _)).1
end
theorem oL {z:Array Oper}{o:Oper}{a:Act}{K:Act->World->Prop}{Q:Exit->Act->World->Prop}{J:Prop}{w:World}(A:o.guard=none) (s x:Operand)
  (L:o.op=Op.call { callee:=Callee.builtin Builtin.append,args := #[s,x],argTypes := #[25,25] }) (bad:Nat->Prop) (B H:Nat) (v u:Value) (xs:List (List Int)) (y:List Int) (M:a.eval s=v) (n:ShQ bad B w v xs)
  (D:Ints (λk=>¬bad k/\v.ownBlock≠some k) w u y) (hx:a.eval x=.slice (some ⟨H,0,none⟩) 1 1) (g:w.cell? ⟨H,0,none⟩=some u) (E:xs.length<=1000000) (j:B<=w.heap.size)
  (h:∀m w',ShQ bad B w' m (xs++[y])->w.grownBy w' v.ownBlock->K (a.put o.dst m) w') :
  if Region.wanted o (yielded z a.tmps)=true then Oper.wp Tryz.prog o a w K Q else J:=by
 obtain⟨F,G,I,N⟩:=n;have b:=I.lt;have p:u.oneCell'=true:=rdInts.one D;refine step_q_app 25 24 (.slice none 0 0) 24 und_rows Tryz.infoRow rfl (by decide) A s x L B v F M I H u hx g p (by omega) j ?_;intro m w' h1 l O
 have q:∀k,k<w.heap.size->m.ownBlock=some k->v.ownBlock=some k:=λk hk e=>by
  rcases O with h|h
  ·rw[<-h];exact e
  ·have:=h k e;omega
 refine h m w' ⟨F++[u],by simp[G],h1,λi P => ?_⟩ l;simp only[List.length_append,List.length_singleton] at P
 have r:∀k,(¬bad k/\v.ownBlock≠some k)->k<w.heap.size->(¬bad k/\m.ownBlock≠some k)/\k<w'.heap.size/\w'.heap[k]? = w.heap[k]? :=λk hk b=>
  ⟨⟨hk.1,λe=>hk.2 (q k b e)⟩,Nat.lt_of_lt_of_le b l.size,l.block k b (λe=>hk.2 e.symm)⟩
 by_cases b:i<xs.length
 ·rw [gt_append_left _ _ _ (by omega),gt_append_left _ _ _ b]
  exact Ints.mono (N i b) r
 ·have C:i=xs.length:=by omega
  subst C;rw[gt_concat,<-G,gt_concat];exact Ints.mono D r
end Go.Proofs.YtdcobapnlpeaaaaGreat
namespace Go.Proofs.YtdcobapnlpeaaaaGreat
open Go.Proofs Go.Shelf Go.RowKit Go.Lib Go.Sort
theorem Az {W w':World}(h:Ext W w') (n:W.drawn<=w'.drawn):∃q g,w'=grow (W.drewN q) g:=by
 refine⟨w'.drawn-W.drawn,w'.heap.extract W.heap.size w'.heap.size,?_⟩;obtain⟨h1,h2,h3,h4,h5⟩:=h
 have m:W.heap++w'.heap.extract W.heap.size w'.heap.size=w'.heap:=by
  apply Array.ext
  ·simp;omega
  ·intro i p j
   by_cases a:i<W.heap.size
   ·rw [Array.getElem_append_left a]
    have:=h5 i a (by simp);rw[Array.getElem?_eq_getElem j,Array.getElem?_eq_getElem a] at this;exact(Option.some.inj this).symm
   ·rw [Array.getElem_append_right (by omega)]
    simp only[Array.getElem_extract];congr 1;omega
 cases w' with
 | mk heap tape drawn os output=>
  cases W with
  | mk k l e r b=>
   simp only at h1 h2 h3 m n;subst h1;subst h2;subst h3;unfold grow World.drewN;simp only[World.mk.injEq];exact⟨m.symm,trivial,by omega,trivial,trivial⟩
section
variable {α:Type} [Inhabited α]
theorem AA {b:α->α->Int}(h:SWO (ltOf b)) (L:List α):SWO (ltOf (λi j:Nat=>b (gt L i) (gt L j))) where
 irrefl x:=h.irrefl (gt L x)
 trans x y z:=h.trans (gt L x) (gt L y) (gt L z)
 ntrans x y z:=h.ntrans (gt L x) (gt L y) (gt L z)
theorem AB {P:Program}{ρ : Ren}(ac:SlLaysF.n6 P ρ) {El:(Nat->Prop)->World->Value->α->Prop}(K:RdOk El) (E B:Nat) (S:α->α->Int) (hS:SWO (ltOf S)) (g:Nat) (cb:Array Value)
  (eg:∀args w,(callFunc g args).run P w=.ok (.enter g args) w) (w:World) (v:Value) (L:List α) (A:Nat->Prop) (hL:SlOA El E B A w v L) (ax:0<L.length) (ar:L.length<=1000000)
  (V:∀W,El (λ_=>True) W (.slice none 0 0) default)
  (X:∀(W:World) (u1 u2:Value) (x y:α),w.grownBy W v.ownBlock->(x∈L\/x=default)->(y∈L\/y=default)->El (λ_=>True) W u1 x->El (λ_=>True) W u2 y ->
   Calls P g (#[u1,u2]++cb) W λe w'=>e=.returned (.int .i64 (S x y))/\Ext W w'/\W.drawn<=w'.drawn) :
  Calls P (ρ.f 6) #[v,.func (.func g) #[] cb] w λe w'=>e=.returned (.tuple #[])/\∃L',SlOA El E B A w' v L'/\L'.Perm L/\L'.Pairwise (λx y=>0<=S y x)/\w.grownBy w' v.ownBlock:=by
 obtain⟨q,G,r,hO,hG,hd,hE,AD,AE⟩:=hL;obtain⟨_,⟨rfl,h0⟩|⟨gb,cap,cur,rfl,j6,hb,hnc,hcm,hsz,hx⟩⟩:=hO
 ·omega
 have ah:gb<w.heap.size:=(Array.getElem?_eq_some_iff.1 hb).1;have Y:OneCell (encAt q):=encAt_one λi D=>K.one (hE i (by omega))
 have Z:(List.range L.length).map (encAt q)=q:=by
  apply List.ext_getElem (by simp[r]);intro j h1 T;simp[encAt,gt,T]
 have hH:Go.Sort.Holds (encAt q) w gb 0 (List.range L.length).toArray:=holds_of_blockV hb (by rw[Z,List.length_range,<-r];simpa using hx)
 have M:CmpLays1 P g cb (encAt q) (λi j:Nat=>S (gt L i) (gt L j)) gb 0 (List.range L.length).toArray.size w:=by
  intro m os dk _ x y;have z:w.grownBy (sortWorld (encAt q) w gb 0 m dk os) (some gb):=grownBy_sortedV dk
  have u:∀k,El (λ_=>True) (sortWorld (encAt q) w gb 0 m dk os) (encAt q k) (gt L k)/\(gt L k∈L\/gt L k=default):=by
   intro k;by_cases hk:k<q.length
   ·have N:=hE k (by omega)
    unfold encAt;rw[if_pos hk];exact⟨K.mono N (λb H F=>⟨trivial,Nat.lt_of_lt_of_le F z.size,z.block b F (λe=>(hG k b (by omega) H).2.1 (by cases e;rfl))⟩),.inl (gt_mem (by omega))⟩
   ·have h1:gt L k=default:=by simp[gt,show ¬k<L.length by omega]
    unfold encAt;rw[if_neg hk,h1];exact⟨V _,.inr rfl⟩
  refine(X _ _ _ _ _ z (u x).2 (u y).2 (u x).1 (u y).1).mono ?_;rintro e w' ⟨rfl,N,hdr⟩;exact⟨rfl,Az N hdr⟩
 have I:=Any.slices_SortFunc ac (encAt q) Y (λi j:Nat=>S (gt L i) (gt L j)) (AA hS L) g cb gb 0 cap (List.range L.length).toArray w eg M hH ah (by simp;omega);have J:(List.range L.length).toArray.size=q.length:=by simp[r]
 rw[J] at I;refine I.mono ?_;rintro e w' ⟨N,a,n,os,⟨aa,_,jU⟩,lF,rfl⟩;have O:a.toList.length=L.length:=by simpa [r] using aa
 have hP:a.toList.Perm (List.range L.length):=by
  have h1:a.extract 0 q.length=a:=by
   apply Array.ext';rw[r,<-O];simp
  have T:(List.range L.length).toArray.extract 0 q.length=(List.range L.length).toArray:=by
   apply Array.ext';rw[r];simp
  rw[h1,T] at jU;simpa using jU
 have C:∀i,i<L.length->gt a.toList i<L.length:=λi D=>by
  have:=hP.subset (gt_mem (l:=a.toList) (i:=i) (by omega));simpa using this
 have aj:a.toList.Nodup:=hP.symm.nodup List.nodup_range
 have Q:(List.range L.length).map (gt L)=L:=by
  apply List.ext_getElem (by simp);intro j h1 T;simp[gt,T]
 have z:w.grownBy (sortWorld (encAt q) w gb 0 n a os) (some gb):=grownBy_sortedV a
 have ak:∀i,i<L.length->gt (a.toList.map (encAt q)) i=gt q (gt a.toList i):=λi D=>by
  have h1:gt (a.toList.map (encAt q)) i=encAt q (gt a.toList i):=gt_map _ _ _ (by omega);rw[h1];unfold encAt;rw[if_pos (by rw[r];exact C i D)]
 have al:∀i,i<L.length->gt (a.toList.map (gt L)) i=gt L (gt a.toList i):=λi D=>gt_map _ _ _ (by omega);refine⟨N,a.toList.map (gt L),⟨a.toList.map (encAt q),λi k=>G (gt a.toList i) k,by simp,?_,?_,?_,?_,λi k D hk=>AD (gt a.toList i) k (C i (by simp only[List.length_map] at D;omega)) hk,AE⟩,?_,?_,z⟩
 ·have:=ownsRow_sortedV (enc:=encAt q) (n:=n) (os:=os) (ss:=List.range L.length) (ts:=a.toList) (by rw[O,List.length_range]) j6 hb (by rw[List.length_range,<-r];exact hnc) hcm hsz
  rw[List.length_range,<-r] at this;unfold OwnV;rw[show(a.toList.map (encAt q)).length=q.length by rw[List.length_map,O,r]];simpa using this
 ·intro i k D hk
  obtain⟨a1,a2,a3⟩:=hG _ k (C i (by simp only[List.length_map] at D;omega)) hk;exact⟨a1,a2,Nat.lt_of_lt_of_le a3 z.size⟩
 ·intro i j k D hj hk an
  simp only[List.length_map] at D hj;exact gt_inj aj (by omega) (by omega) (hd _ _ k (C i (by omega)) (C j (by omega)) hk an)
 ·intro i D
  simp only[List.length_map] at D;rw[ak i (by omega),al i (by omega)];have N:=hE _ (C i (by omega));exact K.mono N (λb H F=>⟨H,Nat.lt_of_lt_of_le F z.size,z.block b F (λe=>(hG _ b (C i (by omega)) H).2.1 (by cases e;rfl))⟩)
 ·have:=hP.map (gt L)
  rwa [Q] at this
 ·refine List.pairwise_iff_getElem.2 ?_
  intro i j D hj ao;have ap:i<a.size:=by simpa using D
  have R:j<a.size:=by simpa using hj
  have h1:=lF i j (Nat.zero_le _) ao (by rw[aa,J] at R;exact R);rw[getElem!_pos a i ap,getElem!_pos a j R] at h1;unfold ltOf at h1;rw[decide_eq_false_iff_not] at h1;simp only[List.getElem_map,Array.getElem_toList];have T:¬S (gt L a[j]) (gt L a[i])<0:=h1;omega
end
end Go.Proofs.YtdcobapnlpeaaaaGreat
namespace Go.Proofs.YtdcobapnlpeaaaaGreat
theorem AG (w:World) (a:Addr) (n:Nat):(w.freeze a n).drawn=w.drawn:=by
 unfold World.freeze;split<;>rfl
theorem AH {α:Type}(q:Ask α):∀w:World,w.drawn<=(w.ask q).2.drawn:=by
 induction q with
 | done a=>intro w;exact Nat.le_refl _
 | ask b range k e=>
  intro w;unfold World.ask;dsimp only;split
  ·exact e _ _
  ·exact Nat.le_trans (Nat.le_succ _) (e _ { w with drawn:=w.drawn+1 })
theorem AJ (w:World) (c:Sys):w.drawn<=(w.sys c).2.drawn:=by
 unfold World.sys;have h:=AH (Kernel.perform c w.os) w;revert h
 generalize w.ask (Kernel.perform c w.os)=r;intro h;split
 ·exact Nat.le_refl _
 ·exact h
theorem AK (p:Program) (w:World) (at_:Addr) (u:TypeId) (k:Addr) (v:Value) (atomic:Bool) (r:World × List Addr) (h:w.viewStore p at_ u k v atomic=.ok r):r.1.drawn=w.drawn:=by
 unfold World.viewStore at h;simp only[bind,Except.bind,pure,Except.pure] at h;repeat' split at h
 all_goals first|(cases h;done)|(cases h;rfl)
theorem AL (p:Program) (w:World) (a:Addr) (v:Value) (atomic:Bool) (r:World × List Addr) (h:w.farStore p a v atomic=.ok r):r.1.drawn=w.drawn:=by
 unfold World.farStore at h;split at h
 ·split at h
  ·rename_i b
   cases h
   exact AK _ _ _ _ _ _ _ _ b
  ·cases h
 ·cases h
theorem AO {α:Type}(p:Program) (s:Sem α):∀(w w':World) (a:α),s.run p w=.ok a w'->w.drawn<=w'.drawn:=by
 induction s with
 | pure a=>intro w w' b h;cases h;exact Nat.le_refl _
 | load m a k e=>
  intro w w' b h;unfold Sem.run at h;split at h
  ·exact e _ _ _ _ h
  ·split at h
   ·exact e _ _ _ _ h
   ·cases h
 | store m a v k e=>
  intro w w' b h;cases v<;>simp only[Sem.run] at h
  all_goals try (cases h;done)
  all_goals
   split at h
   ·split at h
    ·cases h
    ·exact e (w.setCell a _) _ _ h
   ·split at h
    ·rename_i i l g
     have h1:=AL _ _ _ _ _ _ g;have j:=e _ _ _ h;dsimp only at h1;omega
    ·cases h
 | new o k e=>intro w w' b h;exact e _ { w with heap:=w.heap.push o } _ _ h
 | shape r k e=>intro w w' b h;exact e _ _ _ _ h
 | freeze a n k e=>intro w w' b h;have:=e _ _ _ h;rw[AG] at this;exact this
 | frozen a k e=>intro w w' b h;exact e _ _ _ _ h
 | getObj r k e=>
  intro w w' b h;unfold Sem.run at h;split at h
  ·cases h
  ·exact e _ _ _ _ h
  ·cases h
 | setObj r o k e=>
  intro w w' b h;unfold Sem.run at h;split at h
  ·cases h
  ·exact e { w with heap:=w.heap.setIfInBounds r o } _ _ h
  ·cases h
 | choose q k e=>
  intro w w' b h;unfold Sem.run at h;split at h
  ·exact e _ _ _ _ h
  ·exact Nat.le_trans (Nat.le_succ _) (e _ _ _ _ h)
 | sys c k e=>intro w w' b h;exact Nat.le_trans (AJ w c) (e _ _ _ _ h)
 | program k e=>intro w w' b h;exact e _ _ _ _ h
 | mark m k e=>intro w w' b h;exact e _ _ _ h
 | halt u=>intro w w' b h;cases h
theorem AP {P:Program}{b:Array Oper}{rest:List Oper}{o:Oper}{a:Act}{Q:Exit->Act->World->Prop}{w:World}{Φ : Act->World->Prop}(i:o.guard=none)
  (j:∀f args w',(execOp a.eval o).run P w ≠ .ok (.enter f args) w') (l:∀r args w',(execOp a.eval o).run P w ≠ .ok (.row r args) w')
  (h:wpList P b (λe a' w'=>e=.normal /\ Φ a' w') [o] a w) (k:∀a' w',Φ a' w'->w.drawn<=w'.drawn->wpList P b Q rest a' w') :
  wpList P b Q (o :: rest) a w:=by
 have p:Region.wanted o (yielded b a.tmps)=true:=by simp[Region.wanted,i]
 unfold wpList at h ⊢;rw[if_pos p] at h ⊢;rcases h with h|⟨_,⟨_,_,he,_⟩⟩
 ·left
  unfold Oper.wp at h ⊢;cases g:(execOp a.eval o).run P w with
  | ok n w'=>
   have m:=AO _ _ _ _ _ g;rw[g] at h;cases n with
   | value v=>exact k _ _ h.2 m
   | skip=>exact k _ _ h.2 m
   | defer d=>exact k _ _ h.2 m
   | enter f args=>exact absurd g (j _ _ _)
   | row r args=>exact absurd g (l _ _ _)
   | _=>exact h.elim
  | halt q w'=>
   rw[g] at h;cases q with
   | panic v=>cases h.1
   | _=>exact h.elim
 ·cases he
theorem AQ (P:Program) (s:Sem Value) (w w':World) (n:Next) (h:Sem.run P (do pure (Next.value (<-s))) w=.ok n w'):∃v,n=.value v:=by
 rw[Sem.run_bind] at h;cases a:Sem.run P s w with
 | ok v b=>rw[a] at h;cases h;exact⟨v,rfl⟩
 | halt e b=>rw[a] at h;cases h
theorem uH {P:Program}{o:Oper}{a:Act}{w w':World}{n:Next}{args:Array Operand}{b:Array TypeId}(e:o.op=Op.call { callee:=Callee.builtin Builtin.append,args:=args,argTypes:=b })
  (h:(execOp a.eval o).run P w=.ok n w'):∃v,n=.value v:=by
 unfold execOp at h;rw[e] at h;exact AQ P (Builtin.append_ b o.type (args.map a.eval)) w w' n h
theorem uI {P:Program}{b:Array Oper}{rest:List Oper}{o:Oper}{a:Act}{Q:Exit->Act->World->Prop}{w:World}{Φ : Act->World->Prop}(g:o.guard=none) {args:Array Operand}{i:Array TypeId}
  (l:o.op=Op.call { callee:=Callee.builtin Builtin.append,args:=args,argTypes:=i })
  (h:wpList P b (λe a' w'=>e=.normal /\ Φ a' w') [o] a w) (k:∀a' w',Φ a' w'->w.drawn<=w'.drawn->wpList P b Q rest a' w') :
  wpList P b Q (o :: rest) a w:=
 AP g (λf x w' j=>by obtain⟨v,hv⟩:=uH l j;cases hv) (λf x w' j=>by obtain⟨v,hv⟩:=uH l j;cases hv) h k
end Go.Proofs.YtdcobapnlpeaaaaGreat
namespace Go.Proofs.YtdcobapnlpeaaaaGreat
open Go.RowKit
theorem AR (T E:Nat) (z:Value) (bytes:Nat) (A:Tryz.prog.underlying T=some (.slice E)) (C:(Tryz.prog.info? E).map (λi=>(i.zero,i.size,i.bytes))=some (some z,1,bytes))
  (m:z.cells.size=1) (n:bytes<=64) {g:Array Oper}{rest:List Oper}{o:Oper}{a:Act}{Q:Exit->Act->World->Prop}{w:World}(j:o.guard=none) (s x:Operand)
  (r:o.op=Op.call { callee:=Callee.builtin Builtin.append,args := #[s,x],argTypes := #[T,T] }) (B:Nat) (v u:Value) (xs:List Value) (D:a.eval s=v) (w0:World) (k:OwnV B E w0 v xs) (y:w=w0.alloc (.cells #[u] E)) (h1:u.oneCell'=true)
  (hx:a.eval x=.slice (some ⟨w0.heap.size,0,none⟩) 1 1) (l:xs.length<=1000000) (e:B<=w0.heap.size)
  (h:∀b w',OwnV B E w' b (xs++[u])->w0.grownBy w' v.ownBlock->w0.drawn<=w'.drawn->wpList Tryz.prog g Q rest (a.put o.dst b) w') :
  wpList Tryz.prog g Q (o :: rest) a w:=by
 refine uI (Φ :=λa' w'=>∃b,OwnV B E w' b (xs++[u])/\w0.grownBy w' v.ownBlock/\a'=a.put o.dst b) j r ?_ ?_
 ·exact wp_app_val T E z bytes A C m n j s x r B v u xs D w0 k y h1 hx l e (λb w' p q=>⟨rfl,b,p,q,rfl⟩)
 ·rintro a' w' ⟨b,p,q,rfl⟩ hd
  subst y;exact h b w' p q hd
theorem AU (v:Value) (U:List (List Int)) (w:World) (S:Nat->Prop) (h:Rows2 S w v U) (E:∀z∈U,dep z<z.length) (P:U.length<=100000) :
  Calls Tryz.prog 125 #[v] w (Ret w λw' r=>OwnV w.heap.size 3 w' r (depV U)/\w.drawn<=w'.drawn):=by
 obtain⟨a,cap,rfl,_,_⟩:=Sl.shape h;have H:=Lib.hid E;clear E;go_enter Tryz.func125,Tryz.ntmps125;go_wp2;go_loopw [3,8] (λI n wr=>∃(k:Nat) (v4:Value),v4=I/\n=.int .i64 k/\k<=U.length/\Ext w wr/\OwnV w.heap.size 3 wr v4 (depV (U.take k))/\w.drawn<=wr.drawn) (λ_ n _=>U.length-(intOf n).toNat)
 case atStart=>exact⟨0,_,rfl,rfl,by omega,Ext.refl _,World.ownsRow_nil _ _ _ _,Nat.le_refl _⟩
 case round=>
  obtain⟨k,v4,rfl,rfl,hk,m,hO,hdr⟩:=hrel;by_cases i:k<U.length
  ·obtain ⟨b,off,a2,cap2,rfl,_,_,hc,J⟩:=Rows2.at (Rows2.ext h m) k i
   have e:depV (U.take (k+1))=depV (U.take k)++[.int .i64 (dep (gt U k))]:=by unfold depV;rw[take_succ_gt U k i,List.map_append];rfl
   have p:(depV (U.take k)).length<=1000000:=by unfold depV;rw[List.length_map,List.length_take];omega
   have K:=Lib.hid e;clear e;have F:(k:Int)<U.length:=by omega
   go_wp2_with fail
   refine Calls.mono (idxNz_ok _ (gt U k) wr _ J (H.out _ (gtMem i))) ?_;rintro Q R ⟨rfl,rfl⟩;go_wp2_with (first|(at_builtin;refine AR 113 3 (.int .i64 0) 8 und_intsG Tryz.infoIntG rfl (by decide) rfl _ _ rfl w.heap.size v4 _ (depV (U.take k)) rfl wr hO rfl rfl rfl p m.size ?_;intro L M q u y)|fail)
   have A:Ext w M:=grown_own m u (λj N i=>by have:=(hO.lt j N).1;omega);go_roundw
   case rel=>exact⟨k+1,L,rfl,by go_num,by omega,A,by rw[K.out];exact q,Nat.le_trans hdr y⟩
   case measure=>simp[intOf];omega
  ·have B:k=U.length:=by omega
   subst B;rw[List.take_length] at hO
   have C:∃G l,v4=.slice G U.length l:=by
    rcases hO.form with⟨h1,D⟩|⟨g,cp,h1,_⟩
    ·have O:U.length=0:=by unfold depV at D;rw[List.map_eq_nil_iff] at D;rw[D];rfl
     exact⟨none,0,by rw[h1,O]⟩
    ·exact⟨_,_,by rw[h1];unfold depV;rw[List.length_map]⟩
   obtain⟨G,l,rfl⟩:=C;go_wp2;go_ret;exact⟨_,rfl,m,hO,hdr⟩
theorem uJ (P:Pr) (hP:Valid P) (w:World) (p H:Value) (U:List (List Int)) (O I:Nat->Prop) (J:PresP O w p P) (K:Rows2 I w H U) (u:SeqOk P U) (Z:U.length<=100) :
  Calls Tryz.prog 139 #[p,H] w (Ret w λw' v=>v=.int .i64 (prodU P U U.length)/\w.drawn<=w'.drawn):=by
 have Q:=hP.n6;obtain⟨pb,po,rfl⟩:=J.shape;obtain⟨ao,capo,fI,y⟩:=J.ordAt;obtain⟨au,capu,rfl,_,_⟩:=Sl.shape K;have A:∀z∈U,dep z<z.length:=λz R=>by have:=u.1 z R;rw[this.1.1];exact this.2.1
 have L:=Lib.hid u;clear u;go_enter Tryz.func139,Tryz.ntmps139;go_wp2_with fail
 refine Calls.mono (AU _ U w I K A (by omega)) ?_;rintro e1 S ⟨pv,rfl,j,k,hd1⟩
 have m:∃T n,pv=.slice T U.length n:=by
  rcases k.form with⟨h1,l⟩|⟨g,cp,h1,_⟩
  ·have V:U.length=0:=by unfold depV at l;rw[List.map_eq_nil_iff] at l;rw[l];rfl
   exact⟨none,0,by rw[h1,V]⟩
  ·exact⟨_,_,by rw[h1];unfold depV;rw[List.length_map]⟩
 obtain⟨ap,capp,rfl⟩:=m;go_wp2;go_loopw [5,11] (λW B wr=>∃i:Nat,W=.int .i64 (prodU P U i)/\B=.int .i64 i/\i<=U.length/\S=wr) (λ_ B _=>U.length-(intOf B).toNat)
 case atStart=>exact⟨0,rfl,rfl,by omega,rfl⟩
 case round=>
  obtain⟨i,rfl,rfl,hi,rfl⟩:=hrel;by_cases a:i<U.length
  ·have M:(i:Int)<U.length:=by omega
   have q:gt (depV U) i=.int .i64 (dep (gt U i)):=by unfold depV;rw[gt_map _ _ _ a]
   have C:∃g,ap=some ⟨g,0,none⟩:=by
    rcases k.form with⟨h1,l⟩|⟨g,cp,h1,_⟩
    ·unfold depV at l;rw[List.map_eq_nil_iff] at l;rw[l] at a;simp at a
    ·simp only[Value.slice.injEq] at h1;exact⟨g,h1.1⟩
   obtain⟨gp,rfl⟩:=C;have r:=k.cell i (by unfold depV;rw[List.length_map];exact a);rw[q] at r;clear q;have e:prodU P U (i+1)=prodU P U i*gt P.orders (dep (gt U i)):=rfl;have D:=prodU_729 hP L.out (i+1) a;rw[e] at D;obtain⟨d,E⟩:∃d,d=dep (gt U i):=⟨_,rfl⟩;rw[<-E] at r e D;have F:d<P.orders.length:=by rw[E];exact(L.out.1 _ (gtMem a)).2.1
   clear E;have N:(d:Int)<P.orders.length:=by omega
   obtain⟨b,off,rfl,_,_,dL⟩:=Ints.at (y.ext j) d F;have X:=j.cell fI (by simp);have hw:IntKind.i64.wrap (prodU P U i*gt P.orders d)=prodU P U i*gt P.orders d:=IntWalk.i64_in _ (by omega);have Y:=Lib.hid e;clear e D;go_wp2;go_roundw
   case rel=>exact⟨i+1,by rw[Y.out],by go_num,by omega,trivial⟩
   case measure=>simp[intOf];omega
  ·have G:i=U.length:=by omega
   subst G;go_wp2;go_ret;exact⟨_,rfl,j,rfl,hd1⟩
end Go.Proofs.YtdcobapnlpeaaaaGreat
namespace Go.Proofs.YtdcobapnlpeaaaaGreat
open Go.Proofs Go.Shelf Go.RowKit
section
open Go.Lib
def Tryz.uK_ren : Go.Shelf.Ren := ⟨fun | 4 => 273 | n => n, fun | 22 => 24 | 25 => 2 | 3 => 3 | 4 => 4 | 9 => 9 | 20 => 20 | 0 => 0 | n => n, fun | n => n⟩
theorem Tryz.uK : Go.Proofs.Lays8.n4 Tryz.prog Tryz.uK_ren := {
  mixed := by kernel_rfl
  f4 := ⟨Tryz.f273.name, by decide, Tryz.func273.trans (congrArg some (by kernel_rfl))⟩
  t0 := Tryz.underlying0
  a0 := Tryz.isAgg0
  z0 := Tryz.sizeOf0
  v0 := Tryz.zeroValue0
  t3 := Tryz.underlying3
  a3 := Tryz.isAgg3
  z3 := Tryz.sizeOf3
  v3 := Tryz.zeroValue3
  t4 := Tryz.underlying4
  a4 := Tryz.isAgg4
  z4 := Tryz.sizeOf4
  v4 := Tryz.zeroValue4
  t9 := Tryz.underlying9
  a9 := Tryz.isAgg9
  z9 := Tryz.sizeOf9
  v9 := Tryz.zeroValue9
  t20 := Tryz.underlying20
  a20 := Tryz.isAgg20
  z20 := Tryz.sizeOf20
  v20 := Tryz.zeroValue20
  t22 := Tryz.underlying24
  a22 := Tryz.isAgg24
  z22 := Tryz.sizeOf24
  v22 := Tryz.zeroValue24 }
theorem AV (n:Nat) (u:n<=1000000) (w:World):Calls Tryz.prog 273 #[.slice none 0 0,.int .i64 n] w (Ret w λw' v=>Own w.heap.size w' v []/\w.drawn<=w'.drawn):=by
 rcases Nat.eq_zero_or_pos n with rfl|y
 ·have h:=Any8.slices_Grow_room Tryz.uK none 0 0 0 w (by omega) (by omega) (by omega) (by omega)
  change Calls Tryz.prog 273 _ _ _ at h;refine h.mono ?_;rintro e w' ⟨rfl,rfl⟩;exact⟨_,rfl,Ext.refl _,Own.of (World.ownsRow_nil _ _ _ _),Nat.le_refl _⟩
 ·obtain ⟨p,q,g,i,j⟩:=info_parts Tryz.infoInt
  have b:0+n<=maxLen:=by unfold maxLen;omega
  have h:=Any8.slices_Grow_grow Tryz.uK p (.int .i64 0) q g (by rw[i];decide) none 0 0 n [] w (by omega) (by omega) (by rw[j];omega) (by omega) (by simp) (λ_=>rfl) (λa ha=>by cases ha);change Calls Tryz.prog 273 _ _ _ at h;refine h.mono ?_;rintro e w' ⟨rfl,rfl⟩;have k:=grownCap_ge w (0+n) 0 2;have l:=grownCap_le_maxLen w (0+n) 0 2 b;refine⟨_,rfl,grown_trans (grown_drew w none) (World.grownBy_alloc _ _ _),Own.of ⟨rfl,.inr ⟨w.heap.size,_,_,rfl,Nat.le_refl _,Array.getElem?_push_size (xs:=w.heap),Nat.zero_le _,l,?_,by simp⟩⟩,by first|exact Nat.le_refl _|exact Nat.le_succ _⟩;simp only[Array.size_append,size_zeroCells,List.size_toArray,List.length_nil];have r:(Value.cells (.int .i64 0)).size=1:=rfl;have m:0+n<=grownCap w (0+n) 0 2:=k;rw[r];show 0+(0+n-0)*1+(grownCap w (0+n) 0 2-(0+n))*1=grownCap w (0+n) 0 2*1
  omega
end
theorem AW {g:Array Oper}{rest:List Oper}{o:Oper}{a:Act}{Q:Exit->Act->World->Prop}{w:World}(i:o.guard=none) (s x:Operand)
  (q:o.op=Op.call { callee:=Callee.builtin Builtin.append,args := #[s,x],argTypes := #[24,24] }) (base:Nat) (v:Value) (l:List Int) (r:a.eval s=v) (j:Own base w v l)
  (u:Value) (m:List Int) (hx:a.eval x=u) (S:Nat->Prop) (y:Ints S w u m) (k:l.length+m.length<=2147483648) (e:base<=w.heap.size)
  (h:∀b w',Own base w' b (l++m)->w.grownBy w' v.ownBlock->w.drawn<=w'.drawn->wpList Tryz.prog g Q rest (a.put o.dst b) w') :
  wpList Tryz.prog g Q (o :: rest) a w:=by
 refine uI (Φ :=λa' w'=>∃b,Own base w' b (l++m)/\w.grownBy w' v.ownBlock/\a'=a.put o.dst b) i q ?_ ?_
 ·exact wp_app_ints i s x q base v l r j u m hx S y k e (λb w' n p _=>⟨rfl,b,n,p,rfl⟩)
 ·rintro a' w' ⟨b,n,p,rfl⟩ hd
  exact h b w' n p hd
def fJ (a:List (List Int)):Nat->List Int
 | 0=>[]
 | k+1=>fJ a k++gt a k
theorem lG (a:List (List Int)) (b:Nat) (h:∀u∈a,u.length<=b) (k:Nat) (hk:k<=a.length):(fJ a k).length<=b*k:=by
 induction k with
 | zero=>simp[fJ]
 | succ k e=>
  have h1:=e (by omega);have g:=h _ (gt_mem (l:=a) (i:=k) (by omega));simp only[fJ,List.length_append,Nat.mul_succ];omega
theorem AX (b:List (List Int)) (k:Nat) (hk:k<=b.length):fJ b k=(b.take k).flatten:=by
 induction k with
 | zero=>simp[fJ]
 | succ k e=>
  have a:k<b.length:=by omega
  rw[fJ,e (by omega),List.take_succ_eq_append_getElem a,List.flatten_append];simp[gt,a]
theorem lH (a:List (List Int)):fJ a a.length=a.flatten:=by
 rw[AX a _ (Nat.le_refl _),List.take_length]
theorem qR (w:World) (R:Value) (a:List (List Int)) (V:Nat->Prop) (J:Rows2 V w R a) (K:∀u∈a,u.length<=1000) (hn:a.length<=100) :
  Calls Tryz.prog 195 #[R] w (Ret w λw' v=>Own w.heap.size w' v a.flatten/\w.drawn<=w'.drawn):=by
 obtain⟨al,capl,rfl,_,_⟩:=Sl.shape J;have B:∀k,k<=a.length->(fJ a k).length<=100000:=λk hk=>by have:=lG a 1000 K k hk;omega
 have H:=Lib.hid (And.intro B K);clear B K;rw[<-lH];go_enter Tryz.func195,Tryz.ntmps195;go_wp2;go_loopw [3,11] (λW q wr=>∃k:Nat,W=.int .i64 ((fJ a k).length:Nat)/\q=.int .i64 k/\k<=a.length/\w=wr) (λ_ q _=>a.length-(intOf q).toNat)
 case atStart=>exact⟨0,rfl,rfl,by omega,rfl⟩
 case round=>
  obtain⟨k,rfl,rfl,hk,rfl⟩:=hrel;have i:=H.out.1 k hk;by_cases e:k<a.length
  ·have C:(k:Int)<a.length:=by omega
   obtain⟨b,off,a2,cap2,rfl,_,_,I,L⟩:=Rows2.at J k e;have D:=H.out.1 (k+1) e;have l:(fJ a (k+1)).length=(fJ a k).length+(gt a k).length:=by simp only[fJ,List.length_append]
   obtain⟨m,z⟩:∃m,m=(fJ a k).length:=⟨_,rfl⟩;obtain⟨A,r⟩:∃A,A=(gt a k).length:=⟨_,rfl⟩;rw[<-z] at i l ⊢;rw[<-r] at I L l;have X:m+A<=100000:=by omega
   have hw:IntKind.i64.wrap ((m:Int)+(A:Int))=((m+A:Nat):Int):=by rw[IntWalk.i64_in _ (by omega)];omega
   have Y:¬((m+A:Nat):Int)<0:=by omega
   have Z:=Lib.hid (And.intro l (And.intro z r));clear l z r D;go_wp2;go_roundw
   case rel=>exact⟨k+1,by rw[Z.out.1,Int.natCast_add],by go_num,by omega,trivial⟩
   case measure=>simp[intOf];omega
  ·have y:k=a.length:=by omega
   subst y;obtain⟨m,z⟩:∃m,m=(fJ a a.length).length:=⟨_,rfl⟩;rw[<-z] at i ⊢;clear z;go_wp2_with fail
   refine Calls.mono (AV m (by omega) w) ?_;rintro e1 w1 ⟨v1,rfl,hg1,gi,hd1⟩;go_wp2;go_loopw [6,27] (λov q wr=>∃(k:Nat) (v4:Value),v4=ov/\q=.int .i64 k/\k<=a.length/\Ext w wr/\Own w.heap.size wr v4 (fJ a k)/\w.drawn<=wr.drawn) (λ_ q _=>a.length-(intOf q).toNat)
   case atStart=>exact⟨0,v1,rfl,rfl,by omega,hg1,gi,hd1⟩
   case round=>
    clear gi;obtain⟨k,v4,rfl,rfl,hk,E,hO,hdr⟩:=hrel;by_cases e:k<a.length
    ·have C:(k:Int)<a.length:=by omega
     obtain⟨b,off,a2,cap2,rfl,_,_,I,L⟩:=Rows2.at J k e;have M:=E.cell I (by simp);have F:=Ints.ext L E;have N:=H.out.2 _ (gt_mem e);have i:=H.out.1 k hk;have n:(fJ a k).length+(gt a k).length<=2147483648:=by omega
     have S:=Lib.hid (And.intro F n);clear n F N i I;go_wp2_with (first|(at_builtin;refine AW rfl _ _ rfl w.heap.size _ (fJ a k) rfl hO _ (gt a k) rfl _ S.out.1 S.out.2 E.size ?_;intro v5 w5 O P Q;have G:=grown_own E P (λj hj e=>by have:=(hO.lt j hj).1;omega))|fail)
     clear M;go_roundw
     case rel=>exact⟨k+1,v5,rfl,by go_num,by omega,G,O,Nat.le_trans hdr Q⟩
     case measure=>simp[intOf];omega
    ·have y:k=a.length:=by omega
     subst y
     obtain ⟨T,p,U,fk⟩:∃T p U,v4=.slice T U p:=by
      rcases hO.2 with⟨h1,_⟩|⟨g,cp,_,h1,_⟩
      ·exact⟨_,_,_,h1⟩
      ·exact⟨_,_,_,h1⟩
     subst fk;go_wp2;go_ret;exact⟨_,rfl,E,hO,hdr⟩
end Go.Proofs.YtdcobapnlpeaaaaGreat
namespace Go.Proofs.YtdcobapnlpeaaaaGreat
open Go.RowKit
theorem AY (a b:Int) (w:World) (v:Value) (S:Nat->Prop) (h:Ints S w v [a,b]) :
  Calls Tryz.prog 302 #[v] w λe w'=>e=.returned (.int .i64 (if a=0 then b else a))/\w'=w:=by
 obtain⟨y,capv,rfl,_,_⟩:=h.shape;obtain⟨q,o0,rfl,_,_,hc0⟩:=Ints.at h 0 (by simp)
 have i:w.cell? ⟨q,o0+1,none⟩=some (.int .i64 b):=by
  obtain⟨b1,o1,e,_,_,i⟩:=Ints.at h 1 (by simp);cases e;exact i
 have r:w.cell? ⟨q,o0,none⟩=some (.int .i64 a):=hc0;clear hc0 h;have j:(([a,b]:List Int).length:Int)=2:=rfl;rw[show([a,b]:List Int).length=2 from rfl];clear j;go_enter Tryz.func302,Tryz.ntmps302;go_wp2;go_loopw [8] (λl wr=>∃k:Nat,l=.int .i64 k/\k<=2/\wr=w/\(1<=k->a=0)/\(2<=k->b=0)) (λl _=>2-(intOf l).toNat)
 case atStart=>exact⟨0,rfl,by omega,rfl,λh=>by omega,λh=>by omega⟩
 case round=>
  obtain⟨k,rfl,hk,rfl,ha,hb⟩:=hrel;by_cases m:k=0
  ·subst m
   clear ha hb hk;by_cases n:a=0
   ·subst n
    go_wp2;go_roundw
    case rel=>exact⟨1,by go_num,by omega,trivial,by simp,by omega⟩
    case measure=>simp[intOf]
   ·go_wp2
    exact bodyPost_ret (v := .int .i64 a) (by simp[results,Tryz.results302,go_sem]) rfl ⟨rfl,rfl⟩
  ·by_cases h1:k=1
   ·subst h1
    have g:=ha (by omega);subst g;clear ha hb hk m;by_cases n:b=0
    ·subst n
     go_wp2;go_roundw
     case rel=>exact⟨2,by go_num,by omega,trivial,by simp,by simp⟩
     case measure=>simp[intOf]
    ·go_wp2
     exact bodyPost_ret (v := .int .i64 b) (by simp[results,Tryz.results302,go_sem]) rfl ⟨rfl,rfl⟩
   ·have u:k=2:=by omega
    subst u;have g:=ha (by omega);have p:=hb (by omega);subst g;subst p;clear ha hb hk m h1;go_wp2;exact bodyPost_ret (v := .int .i64 0) (by simp[results,Tryz.results302,go_sem]) rfl ⟨rfl,rfl⟩
theorem oM {P:Pr}{U:List (List Int)}(a:SeqOk P U):∀u∈U,u.length=P.orders.length:=λu b=>(a.1 u b).1.1
theorem AZ (P:Pr) (hP:Valid P) (w:World) (p uv vv:Value) (U V:List (List Int)) (J K L:Nat->Prop) (M:PresP J w p P) (N:Rows2 K w uv U) (O:Rows2 L w vv V) (Q:SeqOk P U) (R:SeqOk P V) (r:U.length<=100) (y:V.length<=100) :
  Calls Tryz.prog 263 #[p,uv,vv] w (Ret w λw' v=>v=.int .i64 (iA P U V)/\w.drawn<=w'.drawn):=by
 have ak:=hP.n6;obtain⟨pb,po,rfl⟩:=M.shape;obtain⟨au,capu,rfl,_,_⟩:=Sl.shape N;obtain⟨av,capv,rfl,_,_⟩:=Sl.shape O;have m:∀u∈U,u.length<=1000:=λu h=>by have:=oM Q u h;omega
 have n:∀u∈V,u.length<=1000:=λu h=>by have:=oM R u h;omega
 have z:U.flatten.length<=100000:=by have:=lG U 1000 m _ (Nat.le_refl _);rw[lH] at this;omega
 have A:V.flatten.length<=100000:=by have:=lG V 1000 n _ (Nat.le_refl _);rw[lH] at this;omega
 have e:iA P U V=if cmpI (prodU P U U.length) (prodU P V V.length)=0 then cmpL U.flatten V.flatten else cmpI (prodU P U U.length) (prodU P V V.length):=rfl
 have j:=Lib.hid (And.intro (And.intro Q R) (And.intro (And.intro m n) (And.intro z (And.intro A e))));clear Q R m n z A e;go_enter Tryz.func263,Tryz.ntmps263;go_wp2_with fail
 refine Calls.mono (uJ P hP w _ _ U J K M N j.out.1.1 r) ?_;rintro e1 w1 ⟨v1,rfl,q,rfl,B⟩;obtain⟨a,ha⟩:∃a,a=prodU P U U.length:=⟨_,rfl⟩;rw[<-ha];have HA:=Lib.hid (And.intro ha B);clear ha B;go_wp2_with fail
 refine Calls.mono (uJ P hP w1 _ _ V J L (M.ext q) (Rows2.ext O q) j.out.1.2 y) ?_;rintro e2 w2 ⟨v2,rfl,hg2,rfl,C⟩;obtain⟨b,T⟩:∃b,b=prodU P V V.length:=⟨_,rfl⟩;rw[<-T];have e:=j.out.2.2.2.2;rw[<-HA.out.1,<-T] at e;have HD:=Lib.hid (And.intro e C);clear e T C;go_wp2_with fail
 refine Calls.mono (cmpI_ok a b w2) ?_;rintro e3 w3 ⟨rfl,rfl⟩;obtain⟨c,W⟩:∃c,c=cmpI a b:=⟨_,rfl⟩;rw[<-W];have e:=HD.out.1;rw[<-W] at e;have D:=Lib.hid e;clear e W;have k:=grown_trans q hg2;go_wp2_with fail
 refine Calls.mono (qR w3 _ U K (Rows2.ext N k) j.out.2.1.1 r) ?_;rintro e4 w4 ⟨v4,rfl,hg4,jV,uL⟩;have l:=grown_trans k hg4;have X:=Lib.hid uL;clear uL;go_wp2_with fail
 refine Calls.mono (qR w4 _ V L (Rows2.ext O l) j.out.2.1.2 y) ?_;rintro e5 Y ⟨v5,rfl,E,jG,uM⟩;have F:Ints Any Y v4 U.flatten:=Ints.sub (Ints.ext (ints_of_own (S:=Any) jV (by have:=j.out.2.2.1;omega) (λ_ _=>trivial)) E) (λ_ _ _=>trivial);have G:Ints Any Y v5 V.flatten:=ints_of_own (S:=Any) jG (by have:=j.out.2.2.2.1;omega) (λ_ _=>trivial);have Z:=Lib.hid (And.intro F G);clear F G jV jG;have aa:=Lib.hid uM;clear uM;go_wp2_with fail
 refine Calls.mono (sCompare_ok v4 v5 U.flatten V.flatten Y Any Any Z.out.1 Z.out.2) ?_;rintro e6 g ⟨rfl,rfl⟩;obtain⟨d,hd⟩:∃d,d=cmpL U.flatten V.flatten:=⟨_,rfl⟩;rw[<-hd];have e:=D.out;rw[<-hd] at e;have ac:=Lib.hid e;clear e hd D j Z;have ad:Ext g (g.alloc (.cells #[.int .i64 c,.int .i64 d] 3)):=World.grownBy_alloc _ _ _;have H:OwnV g.heap.size 3 (g.alloc (.cells #[.int .i64 c,.int .i64 d] 3)) (.slice (some ⟨g.heap.size,0,none⟩) 2 2) [.int .i64 c,.int .i64 d]:=World.ownsRow_lit g #[.int .i64 c,.int .i64 d] 2 (Nat.le_refl _) (by decide) rfl
 have I:Ints Any (g.alloc (.cells #[.int .i64 c,.int .i64 d] 3)) (.slice (some ⟨g.heap.size,0,none⟩) 2 2) [c,d]:=by
  refine⟨_,_,rfl,⟨by simp,by simp,λh=>by cases h⟩,λi hi=>⟨g.heap.size,0,.int .i64 (gt [c,d] i),rfl,trivial,by simp,?_,rfl⟩⟩;have:=H.cell i (by simpa using hi);rw[Nat.zero_add,this];have ap:i<2:=by simpa using hi
  have:i=0\/i=1:=by omega
  rcases this with rfl|rfl<;>rfl
 have H7:=Lib.hid I;clear I H;go_wp2_with fail
 refine Calls.mono (AY c d _ _ Any H7.out) ?_;rintro e8 w8 ⟨rfl,rfl⟩;rw[<-ac.out];go_wp2;go_ret;exact⟨_,rfl,grown_trans l (grown_trans E ad),rfl,Nat.le_trans (Nat.le_trans HA.out.2 HD.out.2) (Nat.le_trans X.out aa.out)⟩
end Go.Proofs.YtdcobapnlpeaaaaGreat
namespace Go.Proofs.YtdcobapnlpeaaaaGreat
open Go.Proofs Go.Shelf Go.RowKit Go.Lib Go.Sort
def Tryz.A0_ren : Go.Shelf.Ren := ⟨fun | 6 => 261 | 15 => 297 | 14 => 301 | 28 => 332 | 29 => 333 | 20 => 335 | 21 => 336 | 22 => 337 | 23 => 338 | 24 => 339 | 25 => 340 | 26 => 341 | 27 => 342 | 46 => 356 | 47 => 352 | 48 => 353 | 49 => 357 | 50 => 358 | 57 => 368 | n => n, fun | 22 => 26 | 24 => 25 | 25 => 212 | 3 => 3 | 39 => 139 | 0 => 0 | 53 => 266 | 55 => 62 | 4 => 4 | 46 => 260 | 45 => 259 | 50 => 193 | 5 => 5 | 9 => 9 | 66 => 281 | 70 => 285 | 76 => 296 | 77 => 297 | n => n, fun | n => n⟩
theorem Tryz.A0 : Go.Proofs.SlLaysF.n6 Tryz.prog Tryz.A0_ren := {
  mixed := by kernel_rfl
  f6 := ⟨Tryz.f261.name, by decide, Tryz.func261.trans (congrArg some (by kernel_rfl))⟩
  f14 := ⟨Tryz.f301.name, by decide, Tryz.func301.trans (congrArg some (by kernel_rfl))⟩
  f15 := Tryz.func297.trans (congrArg some (by kernel_rfl))
  f20 := ⟨Tryz.f335.name, by decide, Tryz.func335.trans (congrArg some (by kernel_rfl))⟩
  f21 := ⟨Tryz.f336.name, by decide, Tryz.func336.trans (congrArg some (by kernel_rfl))⟩
  f22 := ⟨Tryz.f337.name, by decide, Tryz.func337.trans (congrArg some (by kernel_rfl))⟩
  f23 := ⟨Tryz.f338.name, by decide, Tryz.func338.trans (congrArg some (by kernel_rfl))⟩
  f24 := ⟨Tryz.f339.name, by decide, Tryz.func339.trans (congrArg some (by kernel_rfl))⟩
  f25 := ⟨Tryz.f340.name, by decide, Tryz.func340.trans (congrArg some (by kernel_rfl))⟩
  f26 := ⟨Tryz.f341.name, by decide, Tryz.func341.trans (congrArg some (by kernel_rfl))⟩
  f27 := ⟨Tryz.f342.name, by decide, Tryz.func342.trans (congrArg some (by kernel_rfl))⟩
  f28 := Tryz.func332.trans (congrArg some (by kernel_rfl))
  f29 := Tryz.func333.trans (congrArg some (by kernel_rfl))
  f46 := ⟨Tryz.f356.name, by decide, Tryz.func356.trans (congrArg some (by kernel_rfl))⟩
  f47 := Tryz.func352.trans (congrArg some (by kernel_rfl))
  f48 := Tryz.func353.trans (congrArg some (by kernel_rfl))
  f49 := ⟨Tryz.f357.name, by decide, Tryz.func357.trans (congrArg some (by kernel_rfl))⟩
  f50 := ⟨Tryz.f358.name, by decide, Tryz.func358.trans (congrArg some (by kernel_rfl))⟩
  f57 := ⟨Tryz.f368.name, by decide, Tryz.func368.trans (congrArg some (by kernel_rfl))⟩
  t0 := Tryz.underlying0
  a0 := Tryz.isAgg0
  z0 := Tryz.sizeOf0
  v0 := Tryz.zeroValue0
  t3 := Tryz.underlying3
  a3 := Tryz.isAgg3
  z3 := Tryz.sizeOf3
  v3 := Tryz.zeroValue3
  t4 := Tryz.underlying4
  a4 := Tryz.isAgg4
  z4 := Tryz.sizeOf4
  v4 := Tryz.zeroValue4
  t5 := Tryz.underlying5
  a5 := Tryz.isAgg5
  z5 := Tryz.sizeOf5
  v5 := Tryz.zeroValue5
  t9 := Tryz.underlying9
  a9 := Tryz.isAgg9
  z9 := Tryz.sizeOf9
  v9 := Tryz.zeroValue9
  t22 := Tryz.underlying26
  a22 := Tryz.isAgg26
  z22 := Tryz.sizeOf26
  v22 := Tryz.zeroValue26
  a24 := Tryz.isAgg25
  z24 := Tryz.sizeOf25
  t25 := Tryz.underlying212
  a25 := Tryz.isAgg212
  z25 := Tryz.sizeOf212
  v25 := Tryz.zeroValue212
  t39 := Tryz.underlying139
  a39 := Tryz.isAgg139
  z39 := Tryz.sizeOf139
  v39 := Tryz.zeroValue139
  t45 := Tryz.underlying259
  a45 := Tryz.isAgg259
  z45 := Tryz.sizeOf259
  v45 := Tryz.zeroValue259
  t46 := Tryz.underlying260
  a46 := Tryz.isAgg260
  z46 := Tryz.sizeOf260
  v46 := Tryz.zeroValue260
  t50 := Tryz.underlying193
  a50 := Tryz.isAgg193
  z50 := Tryz.sizeOf193
  v50 := Tryz.zeroValue193
  t53 := Tryz.underlying266
  a53 := Tryz.isAgg266
  z53 := Tryz.sizeOf266
  v53 := Tryz.zeroValue266
  t55 := Tryz.underlying62
  a55 := Tryz.isAgg62
  z55 := Tryz.sizeOf62
  v55 := Tryz.zeroValue62
  t66 := Tryz.underlying281
  a66 := Tryz.isAgg281
  z66 := Tryz.sizeOf281
  v66 := Tryz.zeroValue281
  t70 := Tryz.underlying285
  a70 := Tryz.isAgg285
  z70 := Tryz.sizeOf285
  v70 := Tryz.zeroValue285
  t76 := Tryz.underlying296
  a76 := Tryz.isAgg296
  z76 := Tryz.sizeOf296
  v76 := Tryz.zeroValue296
  t77 := Tryz.underlying297
  a77 := Tryz.isAgg297
  z77 := Tryz.sizeOf297
  v77 := Tryz.zeroValue297 }
theorem A2 (P:Pr):SeqOk P []:=⟨by simp,by simp⟩
theorem A3 (P:Pr) (hP:Valid P) (w:World) (bx pb k:Nat) (e g:Value) (U V:List (List Int)) (l m n:Nat->Prop) (b:w.cell? ⟨bx,0,none⟩=some (.pointer (some ⟨pb,k,none⟩))) (q:PresP l w (.pointer (some ⟨pb,k,none⟩)) P)
  (r:Rows2 m w e U) (u:Rows2 n w g V) (y:SeqOk P U) (z:SeqOk P V) (i:U.length<=100) (j:V.length<=100) :
  Calls Tryz.prog 272 #[e,g,.pointer (some ⟨bx,0,none⟩)] w (Ret w λw' v=>v=.int .i64 (iA P U V)/\w.drawn<=w'.drawn):=by
 go_enter Tryz.func272,Tryz.ntmps272;go_wp2_with fail
 refine Calls.mono (AZ P hP w _ e g U V l m n q r u y z i j) ?_;rintro A B ⟨v1,rfl,hg1,rfl,a⟩;obtain⟨c,b⟩:∃c,c=iA P U V:=⟨_,rfl⟩;rw[<-b];have p:=Lib.hid (And.intro b a);clear b a;go_wp2;go_ret;exact⟨_,rfl,hg1,congrArg (Value.int .i64) p.out.1,p.out.2⟩
theorem A4 (P:Pr) (hP:Valid P) (w:World) (v:Value) (L:List (List (List Int))) (A:Nat->Prop) (B bx pb a:Nat) (C:SlOA (λF w u (x:List (List Int))=>RowsD F w u x) 25 B A w v L) (j:0<L.length) (b:L.length<=1000000)
  (D:∀u∈L,SeqOk P u/\u.length<=100) (E:w.cell? ⟨bx,0,none⟩=some (.pointer (some ⟨pb,a,none⟩))) (l:v.ownBlock≠some bx) (G:PresP (λk=>v.ownBlock≠some k) w (.pointer (some ⟨pb,a,none⟩)) P) :
  Calls Tryz.prog 261 #[v,.func (.func 272) #[] #[.pointer (some ⟨bx,0,none⟩)]] w λe w'=>e=.returned (.tuple #[]) /\
   ∃m,SlOA (λF w u (x:List (List Int))=>RowsD F w u x) 25 B A w' v m/\m.Perm L/\m.Pairwise (λx y=>0<=iA P y x)/\w.grownBy w' v.ownBlock:=by
 have H:∀args w,(callFunc 272 args).run Tryz.prog w=.ok (.enter 272 args) w:=enters_of Tryz.func272 (by kernel_rfl) rfl
 have h:=AB Tryz.A0 rdRows 25 B (iA P) (Aw P) 272 #[.pointer (some ⟨bx,0,none⟩)] H w v L A C j b (λW=>(SlO.nil OwnIn 24 0 W).toD (by simp) |> λh=>rdRows.mono h (λk hk n=>⟨trivial,n,rfl⟩)) (by
  intro W u1 u2 x y r hx hy h1 I;have p:PresP Any W (.pointer (some ⟨pb,a,none⟩)) P:=PresP.mono G (frame_of r (λk hk _=>⟨trivial,hk⟩));have q:W.cell? ⟨bx,0,none⟩=some (.pointer (some ⟨pb,a,none⟩)):=r.cell E (λe=>l e.symm)
  have i:∀z,(z∈L\/z=default)->SeqOk P z/\z.length<=100:=λz g=>by
   rcases g with g|g
   ·exact D z g
   ·rw[g];exact⟨A2 P,by decide⟩
  refine(A3 P hP W bx pb a u1 u2 x y Any _ _ q p (RowsD.rows h1) (RowsD.rows I) (i x hx).1 (i y hy).1 (i x hx).2 (i y hy).2).mono ?_;rintro e w' ⟨v1,rfl,hg1,rfl,hd⟩;exact⟨rfl,hg1,hd⟩)
 exact h
end Go.Proofs.YtdcobapnlpeaaaaGreat
namespace Go.Proofs.YtdcobapnlpeaaaaGreat
open Go.RowKit
theorem A5:∀ {xs b:List Int},(∀a∈xs,0<=a/\a<256)->(∀a∈b,0<=a/\a<256)->strOfNums xs=strOfNums b->xs=b:=by
 intro xs b hx hy h
 have h1:xs.map (λn=>UInt8.ofNat n.toNat)=b.map (λn=>UInt8.ofNat n.toNat):=by
  rw[<-strOfNums_data,<-strOfNums_data,h]
 have key:∀ {xs b:List Int},(∀a∈xs,0<=a/\a<256)->(∀a∈b,0<=a/\a<256)->xs.map (λn=>UInt8.ofNat n.toNat)=b.map (λn=>UInt8.ofNat n.toNat)->xs=b:=by
  intro xs;induction xs with
  | nil=>intro b _ _ h;cases b with
   | nil=>rfl
   | cons=>simp at h
  | cons x xs e=>
   intro b hx hy h;cases b with
   | nil=>simp at h
   | cons y b=>
    simp only[List.map_cons,List.cons.injEq] at h;obtain⟨a1,a2⟩:=hx x (List.mem_cons_self ..);obtain⟨b1,b2⟩:=hy y (List.mem_cons_self ..);have g:=congrArg UInt8.toNat h.1;rw[UInt8.toNat_ofNat',UInt8.toNat_ofNat',Nat.mod_eq_of_lt (by omega),Nat.mod_eq_of_lt (by omega)] at g;rw[show x=y by omega,e (λa ha=>hx a (List.mem_cons_of_mem _ ha)) (λa ha=>hy a (List.mem_cons_of_mem _ ha)) h.2]
 exact key hx hy h1
theorem uN {u:List (List Int)}(h:∀x∈u,∀e∈x,0<=e/\e<256):∀a∈iB u,0<=a/\a<256:=by
 intro a ha;unfold iB at ha;obtain⟨r,hr,b⟩:=List.mem_flatten.1 ha;obtain⟨x,hx,rfl⟩:=List.mem_map.1 hr;rcases List.mem_append.1 b with h1|h1
 ·exact h x hx a h1
 ·simp at h1;omega
theorem A6 {x y:List Int}(h:iP x=iP y):x=y:=List.append_cancel_right h
theorem A7 {n:Nat}{u v:List (List Int)}(b:∀x∈u,x.length=n/\∀e∈x,0<=e/\e<256) (g:∀x∈v,x.length=n/\∀e∈x,0<=e/\e<256) (h:gV u=gV v):u=v:=by
 have h1:=A5 (uN λx hx=>(b x hx).2) (uN λx hx=>(g x hx).2) h
 have i:u.map iP=v.map iP:=flatten_inj (n:=n+1) (by omega)
  (λr a=>by obtain⟨x,hx,rfl⟩:=List.mem_map.1 a;simp[iP,(b x hx).1])
  (λr a=>by obtain⟨x,hx,rfl⟩:=List.mem_map.1 a;simp[iP,(g x hx).1]) h1
 have key:∀ {u v:List (List Int)},u.map iP=v.map iP->u=v:=by
  intro u;induction u with
  | nil=>intro v h;cases v with
   | nil=>rfl
   | cons=>simp at h
  | cons x u j=>
   intro v h;cases v with
   | nil=>simp at h
   | cons y v=>
    simp only[List.map_cons,List.cons.injEq] at h;rw[A6 h.1,j h.2]
 exact key i
theorem qT {P:Pr}(hP:Valid P) {x:List Int}(hx:Vec P.orders x):x.length=P.orders.length/\∀e∈x,0<=e/\e<256:=by
 refine⟨hx.1,λe b => ?_⟩;obtain⟨i,a,rfl⟩:=List.getElem_of_mem b;have h1:=hx.2 i (by rw[<-hx.1];exact a);rw[<-gt_eq _ _ a];have g:=hP.ord7 i (by rw[<-hx.1];exact a);omega
theorem A8 {P:Pr}(hP:Valid P) {u v:List (List Int)}(a:SubB P u) (b:SubB P v) (h:gV u=gV v):u=v:=
 A7 (λx hx=>qT hP (a.1 x hx)) (λx hx=>qT hP (b.1 x hx)) h
theorem uO (w:World) (F:Value) (a:List (List Int)) (M:Nat->Prop) (G:Rows2 M w F a) (r:∀u∈a,u.length<=1000) (Q:a.length<=100) :
  Calls Tryz.prog 349 #[F] w (Ret w λw' v=>Own w.heap.size w' v a.flatten):=by
 obtain⟨R,capl,rfl,_,_⟩:=Sl.shape G;have m:∀k,k<=a.length->(fJ a k).length<=100000:=λk hk=>by have:=lG a 1000 r k hk;omega
 have H:=Lib.hid (And.intro m r);clear m r;rw[<-lH];go_enter Tryz.func349,Tryz.ntmps349;go_wp2;go_loopw [3,4] (λN y wr=>∃(k:Nat) (v4:Value),v4=N/\y=.int .i64 k/\k<=a.length/\Ext w wr/\Own w.heap.size wr v4 (fJ a k)) (λ_ y _=>a.length-(intOf y).toNat)
 case atStart=>exact⟨0,_,rfl,rfl,by omega,World.grownBy_alloc _ _ _,World.ownsRow_lit w #[] 0 (Nat.le_refl _) (by decide) rfl⟩
 case round=>
  obtain⟨k,v4,rfl,rfl,hk,n,hO⟩:=hrel;by_cases l:k<a.length
  ·have I:(k:Int)<a.length:=by omega
   obtain⟨b,off,a2,cap2,rfl,_,_,hc,hr⟩:=Rows2.at G k l;have z:=n.cell hc (by simp);have p:=Ints.ext hr n;have A:=H.out.2 _ (gt_mem l);have B:=H.out.1 k hk;have e:(fJ a k).length+(gt a k).length<=2147483648:=by omega
   have J:=Lib.hid (And.intro p e);clear e p A B hc;go_wp2_with (first|(at_builtin;refine wp_app_ints rfl _ _ rfl w.heap.size _ (fJ a k) rfl hO _ (gt a k) rfl _ J.out.1 J.out.2 n.size ?_;intro O S C D _;have q:=grown_own n D (λj P l=>by have:=(hO.lt j P).1;omega))|fail)
   clear z;go_roundw
   case rel=>exact⟨k+1,O,rfl,by go_num,by omega,q,C⟩
   case measure=>simp[intOf];omega
  ·have E:k=a.length:=by omega
   subst E
   obtain ⟨K,L,i,fk⟩:∃K L i,v4=.slice K L i:=by
    rcases hO.2 with⟨h1,_⟩|⟨g,cp,_,h1,_⟩
    ·exact⟨_,_,_,h1⟩
    ·exact⟨_,_,_,h1⟩
   subst fk;go_wp2;go_ret;exact⟨_,rfl,n,hO⟩
theorem uP {X Y:List Int}{k:Nat}(hx:k<=X.length) (hy:k<=Y.length) (h:k=X.length\/k=Y.length):(cmpL (X.drop k) (Y.drop k)<0↔X.length<Y.length):=by
 by_cases h1:k<X.length
 ·have a:k=Y.length:=by omega
  rw[drop_gt h1,List.drop_eq_nil_of_le (show Y.length<=k by omega)];simp only[cmpL];omega
 ·rw [List.drop_eq_nil_of_le (show X.length<=k by omega)]
  by_cases a:k<Y.length
  ·rw[drop_gt a];simp only[cmpL];omega
  ·rw [List.drop_eq_nil_of_le (show Y.length<=k by omega)]
   simp only[cmpL];omega
theorem A9 (a b:Value) (X Y:List Int) (w:World) (I J:Nat->Prop) (ha:Ints I w a X) (E:Ints J w b Y) :
  Calls Tryz.prog 348 #[a,b] w (Ret w λ_ v=>v=.bool (decide (cmpL X Y<0))):=by
 obtain⟨O,capa,rfl,hla,_⟩:=ha.shape;obtain⟨ab,capb,rfl,hlb,_⟩:=E.shape;go_enter Tryz.func348,Tryz.ntmps348;go_wp2;go_loopw [5] (λv wr=>∃k:Nat,v=.int .i64 k/\k<=X.length/\k<=Y.length/\Ext w wr/\Hid (cmpL X Y=cmpL (X.drop k) (Y.drop k))) (λv _=>X.length-(intOf v).toNat)
 case atStart=>exact⟨0,rfl,by omega,by omega,Ext.refl _,Lib.hid (by simp)⟩
 case round=>
  obtain⟨k,rfl,hk,hkY,u,e⟩:=hrel;by_cases z:k<X.length
  ·obtain ⟨K,oa,rfl,_,_,p⟩:=Ints.at (Ints.ext ha u) k z
   have A:(k:Int)<X.length:=by omega
   by_cases m:k<Y.length
   ·obtain ⟨L,ob,rfl,_,_,q⟩:=Ints.at (Ints.ext E u) k m
    have r:(k:Int)<Y.length:=by omega
    have l:=e.out;rw[drop_gt z,drop_gt m] at l;simp only[cmpL] at l;obtain⟨x,hx⟩:∃x,x=gt X k:=⟨_,rfl⟩;obtain⟨y,hy⟩:∃y,y=gt Y k:=⟨_,rfl⟩;rw[<-hx] at p l;rw[<-hy] at q l;have C:=Lib.hid l;clear l e hx hy;go_wp2;go_quiet (fail)
    rename_i nq _;have B:Ext w (wr.drewN nq):=grown_trans u (grown_drewN _ _ _);have F:(wr.drewN nq).cell? ⟨K,oa+k,none⟩=some (.int .i64 x):=p;have G:(wr.drewN nq).cell? ⟨L,ob+k,none⟩=some (.int .i64 y):=q;clear p q;generalize wr.drewN nq=P at *;by_cases D:x=y
    ·subst D
     have i:=C.out;have H:cmpI x x=0:=by unfold cmpI;simp
     rw[if_pos H] at i;have j:=Lib.hid i;clear i C H;go_wp2;go_roundw
     case rel=>exact⟨k+1,by go_num,by omega,by omega,B,j⟩
     case measure=>simp[intOf];omega
    ·have i:=C.out
     have h1:cmpI x y≠0:=by
      rcases cmpI_cases x y with⟨h,k⟩|⟨h,k⟩|⟨h,k⟩<;>omega
     rw[if_neg h1] at i
     have n:(decide (cmpL X Y<0))=decide (x<y):=by
      rw[i];rcases cmpI_cases x y with⟨h,k⟩|⟨h,k⟩|⟨h,k⟩
      ·rw[h];simp[k]
      ·exact absurd k D
      ·rw[h];simp;omega
     have j:=Lib.hid n;clear i C h1 n;have M:(x != y)=true:=by simpa using D
     go_wp2;go_quiet (fail)
     rename_i N _;go_wp2;go_ret;exact⟨_,rfl,grown_trans B (grown_drewN _ _ _),congrArg Value.bool j.out.symm⟩
   ·have g:=uP hk hkY (.inr (by omega))
    have n:(decide (cmpL X Y<0))=decide (X.length<Y.length):=by rw[e.out];exact decide_eq_decide.2 g
    have j:=Lib.hid n;clear n g e;have r:¬(k:Int)<Y.length:=by omega
    go_wp2;go_ret;exact⟨_,rfl,u,congrArg Value.bool j.out.symm⟩
  ·have g:=uP hk hkY (.inl (by omega))
   have n:(decide (cmpL X Y<0))=decide (X.length<Y.length):=by rw[e.out];exact decide_eq_decide.2 g
   have j:=Lib.hid n;clear n g e;have A:¬(k:Int)<X.length:=by omega
   go_wp2;go_ret;exact⟨_,rfl,u,congrArg Value.bool j.out.symm⟩
def kG (P:Pr) (u v:List (List Int)):Bool:=decide (iA P u v<0)
theorem uQ {P:Pr}{u v:List (List Int)} : kG P u v=true↔subLt P u v:=by unfold kG;rw[decide_eq_true_iff];exact kF
theorem Ba (P:Pr) (hP:Valid P) (w:World) (pv uv vv:Value) (U V:List (List Int)) (Sp Su Sv:Nat->Prop) (T:PresV Sp w pv P) (W:Rows2 Su w uv U) (X:Rows2 Sv w vv V) (Y:SeqOk P U) (Z:SeqOk P V) (aa:U.length<=100) (ab:V.length<=100) :
  Calls Tryz.prog 312 #[pv,uv,vv] w (Ret w λ_ v=>v=.bool (kG P U V)):=by
 have aq:=hP.n6;obtain⟨vo,vp,vc,rfl,h3⟩:=T;have D:=PresP.box h3 28;have g:Ext w (w.alloc (.cells #[vo,vp,vc] 28)):=World.grownBy_alloc _ _ _;obtain⟨E,dI,dG,_,_,hc0,j,l,dy⟩:=D.at;simp only[Nat.zero_add] at j l;have F:∀w',Ext (w.alloc (.cells #[vo,vp,vc] 28)) w'->w'.cell? ⟨w.heap.size,0,none⟩=some E/\w'.cell? ⟨w.heap.size,1,none⟩=some dI/\w'.cell? ⟨w.heap.size,2,none⟩=some dG:=λw' h=>⟨h.cell hc0 (by simp),h.cell j (by simp),h.cell l (by simp)⟩;have HB:=Lib.hid F;clear F D;obtain⟨au,capu,rfl,_,_⟩:=Sl.shape W;obtain⟨av,capv,rfl,_,_⟩:=Sl.shape X;have m:∀u∈U,u.length<=1000:=λu h=>by have:=oM Y u h;omega
 have n:∀u∈V,u.length<=1000:=λu h=>by have:=oM Z u h;omega
 have G:U.flatten.length<=100000:=by have:=lG U 1000 m _ (Nat.le_refl _);rw[lH] at this;omega
 have H:V.flatten.length<=100000:=by have:=lG V 1000 n _ (Nat.le_refl _);rw[lH] at this;omega
 have e:kG P U V=decide ((if cmpI (prodU P U U.length) (prodU P V V.length)=0 then cmpL U.flatten V.flatten else cmpI (prodU P U U.length) (prodU P V V.length))<0):=rfl;have I:=Rows2.ext W g;have J:=Rows2.ext X g;have p:=Lib.hid (And.intro (And.intro Y Z) (And.intro (And.intro m n) (And.intro G (And.intro H e))));clear Y Z m n G H e W X;go_enter Tryz.func312,Tryz.ntmps312;go_wp2;clear hc0 j l;generalize ad:w.alloc (.cells #[vo,vp,vc] 28)=w0 at *;clear ad;obtain⟨a,ha⟩:∃a,a=prodU P U U.length:=⟨_,rfl⟩;obtain⟨b,hb⟩:∃b,b=prodU P V V.length:=⟨_,rfl⟩;have e:=p.out.2.2.2.2;rw[<-ha,<-hb] at e;have R:=Lib.hid (And.intro e (And.intro ha hb));clear e ha hb;have e1:∀w',Ext w0 w'->w'.cell? ⟨w.heap.size,0,none⟩=some E:=λw' h=>(HB.out w' h).1;have e2:∀w',Ext w0 w'->w'.cell? ⟨w.heap.size,1,none⟩=some dI:=λw' h=>(HB.out w' h).2.1;have e3:∀w',Ext w0 w'->w'.cell? ⟨w.heap.size,2,none⟩=some dG:=λw' h=>(HB.out w' h).2.2
 go_region_held3 (λw'=>Ext w0 w') (first|exact grown_drew _ _|assumption)
  (first
   | (revert q;intro q;go_at_call 232;refine Calls.mono (Calls.rel (w0:=w0) (by assumption) (l12Order_ok P hP _ _ _ V Any Any ⟨_,_,_,rfl,Pres3.ext dy (by assumption)⟩ (Rows2.sub (Rows2.ext J (by assumption)) (λ_ _ _=>trivial)) p.out.1.2 (by omega))) ?_;rintro eB wB ⟨vB,rfl,y,hsB,K⟩;rw[<-R.out.2.2] at K;subst K)
   | (go_at_call 232;refine Calls.mono (Calls.rel (w0:=w0) (by assumption) (l12Order_ok P hP _ _ _ U Any Any ⟨_,_,_,rfl,Pres3.ext dy (by assumption)⟩ (Rows2.sub (Rows2.ext I (by assumption)) (λ_ _ _=>trivial)) p.out.1.1 (by omega))) ?_;rintro eA wA ⟨vA,rfl,q,eW,L⟩;rw[<-R.out.2.1] at L;subst L))
 clear e1 e2 e3 q eW hsB;by_cases z:a=b
 ·subst z
  have h0:cmpI a a=0:=by unfold cmpI;simp
  have A:=R.out.1;rw[if_pos h0] at A;have B:=Lib.hid A;clear A h0;go_wp2_with fail
  refine Calls.mono (uO wB _ U Any (Rows2.sub (Rows2.ext I y) (λ_ _ _=>trivial)) p.out.2.1.1 aa) ?_;rintro e4 w4 ⟨v4,rfl,hg4,jV⟩;have i:=grown_trans y hg4;go_wp2_with fail
  refine Calls.mono (uO w4 _ V Any (Rows2.sub (Rows2.ext J i) (λ_ _ _=>trivial)) p.out.2.1.2 ab) ?_;rintro e5 w5 ⟨v5,rfl,M,jG⟩;have N:Ints Any w5 v4 U.flatten:=Ints.sub (Ints.ext (ints_of_own (S:=Any) jV (by have:=p.out.2.2.1;omega) (λ_ _=>trivial)) M) (λ_ _ _=>trivial);have O:Ints Any w5 v5 V.flatten:=ints_of_own (S:=Any) jG (by have:=p.out.2.2.2.1;omega) (λ_ _=>trivial);have HI:=Lib.hid (And.intro N O);clear N O jV jG;go_wp2_with fail
  refine Calls.mono (A9 v4 v5 U.flatten V.flatten w5 Any Any HI.out.1 HI.out.2) ?_;rintro e6 w6 ⟨v6,rfl,ag,C⟩;rw[<-B.out] at C;obtain⟨r,hr⟩:∃r,r=kG P U V:=⟨_,rfl⟩;rw[<-hr] at C;subst C;have HR:=Lib.hid hr;clear hr;go_wp2;go_ret;exact⟨_,rfl,grown_trans g (grown_trans i (grown_trans M ag)),congrArg Value.bool HR.out⟩
 ·have A:=R.out.1
  have h1:cmpI a b≠0:=by
   rcases cmpI_cases a b with⟨h,k⟩|⟨h,k⟩|⟨h,k⟩<;>omega
  rw[if_neg h1] at A
  have Q:kG P U V=decide (a<b):=by
   rw[A];rcases cmpI_cases a b with⟨h,k⟩|⟨h,k⟩|⟨h,k⟩
   ·rw[h];simp[k]
   ·exact absurd k z
   ·rw[h];simp;omega
  have B:=Lib.hid Q;clear Q A h1;have aB:(a != b)=true:=by simpa using z
  go_wp2;go_ret;exact⟨_,rfl,grown_trans g y,congrArg Value.bool B.out.symm⟩
def gf (S:Nat->Prop) (B:Nat) (w:World) (v:Value) (xs:List (List (List Int))):Prop:=
 ∃a,a.length=xs.length/\OwnV B 25 w v a/\∀i,i<xs.length->Rows2 (λk=>S k/\k<B) w (gt a i) (gt xs i)
theorem gf.kept {S:Nat->Prop}{B:Nat}{w w':World}{v:Value}{xs:List (List (List Int))}{r:Option Nat}(h:gf S B w v xs) (b:w.grownBy w' r) (a:v.ownBlock=none\/v.ownBlock≠r) (g:∀k,r=some k->B<=k):gf S B w' v xs:=by
 obtain⟨j,h1,h2,l⟩:=h;exact⟨j,h1,h2.kept b a,λi m=>Rows2.mono (l i m) (frame_of b (λk hk _=>⟨hk,λe=>by have:=g k e;omega⟩))⟩
theorem gf.ext {S:Nat->Prop}{B:Nat}{w w':World}{v:Value}{xs:List (List (List Int))}(h:gf S B w v xs) (a:Ext w w'):gf S B w' v xs:=
 h.kept a (by cases b:v.ownBlock<;>simp) (λk hk=>by cases hk)
theorem gf.lt {S:Nat->Prop}{B:Nat}{w:World}{v:Value}{xs:List (List (List Int))}(h:gf S B w v xs) (k:Nat) (hk:v.ownBlock=some k):B<=k/\k<w.heap.size:=by
 obtain⟨a,h1,h2,h3⟩:=h;exact h2.lt k hk
theorem gf.shape {S:Nat->Prop}{B:Nat}{w:World}{v:Value}{xs:List (List (List Int))}(h:gf S B w v xs):∃a c,v=.slice a xs.length c:=by
 obtain⟨i,h1,e,h3⟩:=h;rcases e.form with⟨b,e2⟩|⟨g,cp,b,_⟩
 ·have:xs.length=0:=by rw[<-h1,e2];rfl
  exact⟨none,0,by rw[b,this]⟩
 ·exact⟨_,_,by rw[b,h1]⟩
theorem gf.rows {S:Nat->Prop}{B:Nat}{w:World}{v:Value}{xs:List (List (List Int))}(h:gf S B w v xs) (l:xs.length<=1000000):Rows3 (λk=>S k\/B<=k) w v xs:=by
 obtain⟨e,h1,b,j⟩:=h;rcases b.form with⟨rfl,e2⟩|⟨g,cp,rfl,hc,hB,hgs⟩
 ·have:xs=[]:=List.eq_nil_of_length_eq_zero (by rw[<-h1,e2];rfl)
  subst this;exact⟨none,0,rfl,⟨by simp,by simp,λ_=>rfl⟩,λi a=>by simp at a⟩
 ·refine ⟨_,cp,by rw[h1],⟨by omega,by omega,λh=>by cases h⟩,λi a=>⟨g,0,gt e i,rfl,.inr hB,hgs,?_,Rows2.sub (j i a) (λk hk _ => .inl hk.1)⟩⟩
  rw[Nat.zero_add];exact b.cell i (by omega)
theorem gf.jW (S:Nat->Prop) (B:Nat) (w:World) (hB:B<=w.heap.size):gf S B (w.alloc (.cells #[] 25)) (.slice (some ⟨w.heap.size,0,none⟩) 0 0) []:=
 ⟨[],rfl,World.ownsRow_lit w #[] 0 hB (by decide) rfl,by simp⟩
theorem Bb {S:Nat->Prop}{w:World}{v:Value}{xs:List (List Int)}(h:Rows2 S w v xs):v.oneCell'=true:=by obtain⟨a,cap,rfl,_⟩:=h;rfl
theorem mI {l:Array Oper}{rest:List Oper}{o:Oper}{a:Act}{Q:Exit->Act->World->Prop}{w:World}(r:o.guard=none) (s x:Operand)
  (H:o.op=Op.call { callee:=Callee.builtin Builtin.append,args := #[s,x],argTypes := #[26,26] }) (S:Nat->Prop) (B:Nat) (v u:Value) (xs:List (List (List Int))) (y:List (List Int)) (I:a.eval s=v) (g:World) (b:gf S B g v xs)
  (C:Rows2 (λk=>S k/\k<B) g u y) (J:w=g.alloc (.cells #[u] 25)) (hx:a.eval x=.slice (some ⟨g.heap.size,0,none⟩) 1 1) (D:xs.length<=1000000) (j:B<=g.heap.size)
  (h:∀p w',gf S B w' p (xs++[y])->g.grownBy w' v.ownBlock->wpList Tryz.prog l Q rest (a.put o.dst p) w') :
  wpList Tryz.prog l Q (o :: rest) a w:=by
 obtain⟨E,h1,F,K⟩:=b;refine wp_app_v 26 25 (.slice none 0 0) 24 lu Tryz.lz rfl (by decide) r s x H B g v u E I F J (Bb C) hx (by omega) j ?_;intro p w' L G;have b:∀k,v.ownBlock=some k->B<=k:=λk hk=>(F.lt k hk).1;refine h p w' ⟨E++[u],by simp[h1],L,λi M => ?_⟩ G;simp only[List.length_append,List.length_singleton] at M;have m:∀ {z:Value}{q:List (List Int)},Rows2 (λk=>S k/\k<B) g z q->Rows2 (λk=>S k/\k<B) w' z q:=λN=>Rows2.mono N (frame_of G (λk hk _=>⟨hk,λe=>by have:=b k e;omega⟩));by_cases n:i<xs.length
 ·rw [gt_append_left _ _ _ (by omega),gt_append_left _ _ _ n]
  exact m (K i n)
 ·have A:i=xs.length:=by omega
  subst A;rw[gt_concat,<-h1,gt_concat];exact m C
theorem l01Same2_ok (v1 y:Value) (g j:List (List Int)) (w:World) (F G:Nat->Prop) (h1:Rows2 F w v1 g) (z:Rows2 G w y j) :
  Calls Tryz.prog 288 #[v1,y] w (Ret w λ_ v=>v=.bool (eqB g j)):=by
 obtain⟨a,cap,rfl,_,_⟩:=Sl.shape h1;obtain⟨a2,cap2,rfl,_,_⟩:=Sl.shape z;by_cases m:g.length=j.length
 ·have H:((g.length:Int) != (j.length:Int))=false:=by simp[m]
  have I:g.length<=j.length/\j.length<=g.length:=by omega
  have r:=Lib.hid m;clear m;go_enter Tryz.func288,Tryz.ntmps288;go_wp2;go_loopw [5] (λi wr=>∃k:Nat,i=.int .i64 k/\k<=g.length/\Ext w wr/\∀i,i<k->gt g i=gt j i) (λi _=>g.length-(intOf i).toNat)
  case atStart=>exact⟨0,rfl,by omega,Ext.refl _,λi A=>by omega⟩
  case round=>
   obtain⟨k,rfl,hk,n,hz⟩:=hrel;have B:=Lib.hid hz;clear hz;by_cases u:k<g.length
   ·obtain ⟨b,off,J,c1,rfl,_,_,hc,p⟩:=Rows2.at (Rows2.ext h1 n) k u
    obtain⟨b2,off2,K,c2,rfl,_,_,hc2,q⟩:=Rows2.at (Rows2.ext z n) k (by omega);have C:∀w',Ext wr w'->w'.cell? ⟨b,off+k,none⟩=some (.slice J (gt g k).length c1):=λw' h=>h.cell hc (by simp);have D:∀w',Ext wr w'->w'.cell? ⟨b2,off2+k,none⟩=some (.slice K (gt j k).length c2):=λw' h=>h.cell hc2 (by simp);clear hc hc2;have E:k<j.length:=by omega
    go_wp2;cases hx:eqB (gt g k) (gt j k) with
    | true=>
     have l:=Lib.hid hx
     go_region_held3 (λw'=>Ext wr w') (first|exact grown_drew _ _|assumption)
      (first
       | (go_at_call 153;refine Calls.mono (Calls.rel (w0:=wr) (by assumption) (l01Same_ok _ _ _ _ _ Any Any (Ints.sub (Ints.ext p (by assumption)) (λ_ _ _=>trivial)) (Ints.sub (Ints.ext q (by assumption)) (λ_ _ _=>trivial)))) ?_;rintro L M ⟨N,rfl,dR,eW,rfl⟩))
     clear C D;go_wp2;go_roundw
     case rel=>exact⟨k+1,by go_num,by omega,grown_trans n dR,λi A=>by
      rcases Nat.lt_or_ge i k with h1|h1
      ·exact B.out i h1
      ·have:i=k:=by omega
       rw[this];exact eqB_true.1 l.out⟩
     case measure=>simp[intOf];omega
    | false=>
     have l:=Lib.hid hx
     go_region_held3 (λw'=>Ext wr w') (first|exact grown_drew _ _|assumption)
      (first
       | (go_at_call 153;refine Calls.mono (Calls.rel (w0:=wr) (by assumption) (l01Same_ok _ _ _ _ _ Any Any (Ints.sub (Ints.ext p (by assumption)) (λ_ _ _=>trivial)) (Ints.sub (Ints.ext q (by assumption)) (λ_ _ _=>trivial)))) ?_;rintro L M ⟨N,rfl,dR,eW,rfl⟩))
     clear C D;go_wp2;go_ret;exact⟨_,rfl,grown_trans n dR,by rw[eqB_false_at (hx:=eqB_false.1 l.out)];rfl⟩
   ·go_wp2
    go_ret;exact⟨_,rfl,n,by rw[eqB_true.2 (ext_gt r.out (λi A=>B.out i (by omega)))];rfl⟩
 ·have H:((g.length:Int) != (j.length:Int))=true:=by simp;omega
  have r:=Lib.hid m;clear m;go_enter Tryz.func288,Tryz.ntmps288;go_wp2;go_ret;exact⟨_,rfl,Ext.refl _,by rw[eqB_false.2 (λe=>r.out (by rw[e]))];rfl⟩
theorem Bc (P:Pr) (L:List (List (List Int))) (u:List (List Int)):Ins P L u 0 [] false:=
 ⟨λj a=>by omega,λ_=>⟨by simp,λj a=>by omega⟩,λh=>by cases h⟩
theorem qU {P:Pr}{L:List (List (List Int))}{u:List (List Int)}{k:Nat}{out:List (List (List Int))}{b:Bool}(I:Ins P L u k out b) (a:gt L k≠u):∀j,j<k+1->gt L j≠u:=λj e=>by
 rcases Nat.lt_succ_iff_lt_or_eq.1 e with h|h
 ·exact I.new j h
 ·subst h;exact a
theorem Bd {P:Pr}{L:List (List (List Int))}{u:List (List Int)}{k:Nat}{out:List (List (List Int))}(I:Ins P L u k out false) (hk:k<L.length) (a:gt L k≠u) (h:¬subLt P u (gt L k)):Ins P L u (k+1) (out++[gt L k]) false:=by
 refine⟨qU I a,λ_ => ?_,λh=>by cases h⟩;obtain⟨h1,h2⟩:=I.no rfl;refine⟨by rw[take_succ_gt L k hk,h1],λj e => ?_⟩;rcases Nat.lt_succ_iff_lt_or_eq.1 e with b|b
 ·exact h2 j b
 ·subst b;exact h
theorem Be {P:Pr}{L:List (List (List Int))}{u:List (List Int)}{k:Nat}{out:List (List (List Int))}(I:Ins P L u k out false) (hk:k<L.length) (a:gt L k≠u) (h:subLt P u (gt L k)):Ins P L u (k+1) (out++[u]++[gt L k]) true:=by
 refine⟨qU I a,(λh=>by cases h),λ_ => ?_⟩;obtain⟨h1,h2⟩:=I.no rfl;refine⟨k,by omega,?_,h,h2⟩
 have b:(L.take (k+1)).drop k=[gt L k]:=by
  rw[take_succ_gt L k hk];have:k=(L.take k).length:=by rw[List.length_take];omega
  rw[List.drop_append_of_le_length (by omega),List.drop_of_length_le (by omega)];rfl
 rw[b,h1];simp
theorem Bf {P:Pr}{L:List (List (List Int))}{u:List (List Int)}{k:Nat}{out:List (List (List Int))}(I:Ins P L u k out true) (hk:k<L.length) (a:gt L k≠u):Ins P L u (k+1) (out++[gt L k]) true:=by
 refine⟨qU I a,(λh=>by cases h),λ_ => ?_⟩;obtain⟨p,h1,h2,h3,h4⟩:=I.yes rfl;refine⟨p,by omega,?_,h3,h4⟩
 have b:(L.take (k+1)).drop p=(L.take k).drop p++[gt L k]:=by
  rw[take_succ_gt L k hk,List.drop_append_of_le_length (by rw[List.length_take];omega)]
 rw[b,h2];simp
set_option linter.unusedSimpArgs false in
theorem Bg (P:Pr) (G:Grp P) (w:World) (pv lv uv:Value) (L:List (List (List Int))) (u:List (List Int)) (Sp S:Nat->Prop) (aG:PresV Sp w pv P) (hl:Rows3 S w lv L) (hu:Rows2 S w uv u) (hL:∀v∈L,SubB P v) (ah:SubB P u) (C:L.Pairwise (subLt P)) (a7:L.length<=100000) :
  Calls Tryz.prog 277 #[pv,lv,uv] w (Ret w λw' r=>∃R:List (List (List Int)),R.Pairwise (subLt P)/\(∀v,v∈R↔v∈L\/v=u)/\R.length<=L.length+1/\Rows3 (λk=>S k\/w.heap.size<=k) w' r R):=by
 have hP:=G.v;have bc:=hP.n6;obtain⟨vo,vp,vc,rfl,h3⟩:=aG;have ai:=PresP.box h3 28;have j:Ext w (w.alloc (.cells #[vo,vp,vc] 28)):=World.grownBy_alloc _ _ _;have aj:(w.alloc (.cells #[vo,vp,vc] 28)).heap.size=w.heap.size+1:=by simp
 obtain⟨U,dI,dG,_,_,hc0,V,W,dy⟩:=ai.at;simp only[Nat.zero_add] at V W;have ak:∀w',Ext (w.alloc (.cells #[vo,vp,vc] 28)) w'->w'.cell? ⟨w.heap.size,0,none⟩=some U/\w'.cell? ⟨w.heap.size,1,none⟩=some dI/\w'.cell? ⟨w.heap.size,2,none⟩=some dG:=λw' h=>⟨h.cell hc0 (by simp),h.cell V (by simp),h.cell W (by simp)⟩
 have N:∀v,SubB P v->SeqOk P v/\v.length<=100:=λv h1=>by
  have h2:=(G.seq_facts (G.subB h1)).1;rw[<-h1.2] at h2;have:=G.sub_len h1;exact⟨h2,by omega⟩
 have n:=Lib.hid (And.intro ak (And.intro aj (And.intro N (And.intro hL ah))));clear ak aj N hL ah ai;obtain⟨al,capl,rfl,_,_⟩:=Sl.shape hl;obtain⟨au,D,rfl,_,_⟩:=Sl.shape hu;have aK:=Rows2.ext hu j;go_enter Tryz.func277,Tryz.ntmps277;go_wp2;clear hc0 V W;generalize aL:w.alloc (.cells #[vo,vp,vc] 28)=w0 at *;clear aL;go_loopw [7,8,9] (λov bv iv wr=>∃(i:Nat) (placed:Bool) (out:List (List (List Int))) (v7:Value),v7=ov/\bv=.bool placed/\iv=.int .i64 i/\i<=L.length/\out.length<=i+1/\Ext w0 wr/\gf S w0.heap.size wr v7 out/\Hid (Ins P L u i out placed)) (λ_ _ iv _=>L.length-(intOf iv).toNat)
 case atStart=>exact⟨0,false,[],_,rfl,rfl,rfl,by omega,by simp,World.grownBy_alloc _ _ _,by rw[<-n.out.2.1];exact gf.jW _ _ _ (Nat.le_refl _),Lib.hid (Bc P L u)⟩
 case round=>
  obtain⟨i,placed,out,v7,rfl,rfl,rfl,hi,hol,A,hO,I⟩:=hrel;by_cases a:i<L.length
  ·have a8:(i:Int)<L.length:=by omega
   obtain⟨bl,ol,a2,y,rfl,_,hbl,X,hx⟩:=Rows3.at hl i a;have Y:=A.cell (j.cell X (by simp)) (by simp);have aa:=n.out.2.2.2.1 _ (gt_mem a);obtain⟨x,ab⟩:∃x,x=gt L i:=⟨_,rfl⟩;rw[<-ab] at X Y hx aa;have am:=Rows2.ext (Rows2.ext hx j) A;have an:=Rows2.ext aK A;have ao:=n.out.2.1;have ap:Rows2 (λk=>S k/\k<w0.heap.size) wr (.slice a2 x.length y) x:=Rows2.mono hx (λk hk a=>⟨⟨hk,by omega⟩,Nat.lt_of_lt_of_le a (Nat.le_trans j.size A.size),(A.block k (Nat.lt_of_lt_of_le a j.size) (by simp)).trans (j.block k a (by simp))⟩);have J:Rows2 (λk=>S k/\k<w0.heap.size) wr (.slice au u.length D) u:=Rows2.mono hu (λk hk a=>⟨⟨hk,by omega⟩,Nat.lt_of_lt_of_le a (Nat.le_trans j.size A.size),(A.block k (Nat.lt_of_lt_of_le a j.size) (by simp)).trans (j.block k a (by simp))⟩);have E:=Lib.hid (And.intro aa (And.intro ab (And.intro ap J)));clear aa ab ap J X hx;go_wp2_with fail
   refine Calls.mono (l01Same2_ok _ _ x u wr S S am an) ?_;rintro eS wS ⟨vS,rfl,gu,rfl⟩;have p:=grown_trans A gu;have K:=hO.ext gu;have F:=gu.cell Y (by simp);clear hO Y;cases heq:eqB x u with
   | true=>
    have he:=eqB_true.1 heq;have aq:u∈L:=by rw[<-he,E.out.2.1];exact gt_mem a
    have ar:Rows3 (λk=>S k\/w.heap.size<=k) wS (.slice (some ⟨bl,ol,none⟩) L.length capl) L:=Rows3.sub (Rows3.ext (Rows3.ext hl j) p) (λk hk _ => .inl hk);have av:=Lib.hid (And.intro aq ar);clear he aq ar heq F;go_wp2;go_ret;exact⟨_,rfl,grown_trans j p,L,C,λv=>⟨.inl,λh=>h.elim id (λe=>e▸av.out.1)⟩,Nat.le_succ _,av.out.2⟩
   | false=>
    have aw:gt L i≠u:=λe=>by
     rw[<-E.out.2.1] at e;rw[eqB_true.2 e] at heq;cases heq
    have ac:=Lib.hid aw;clear aw heq;have O:Rows2 (λk=>S k/\k<w0.heap.size) wS (.slice a2 x.length y) x:=Rows2.ext E.out.2.2.1 gu;have Q:Rows2 (λk=>S k/\k<w0.heap.size) wS (.slice au u.length D) u:=Rows2.ext E.out.2.2.2 gu;have HS:=Lib.hid (And.intro O Q);clear O Q am an;have e1:∀w',Ext w0 w'->w'.cell? ⟨w.heap.size,0,none⟩=some U:=λw' h=>(n.out.1 w' h).1;have e2:∀w',Ext w0 w'->w'.cell? ⟨w.heap.size,1,none⟩=some dI:=λw' h=>(n.out.1 w' h).2.1;have e3:∀w',Ext w0 w'->w'.cell? ⟨w.heap.size,2,none⟩=some dG:=λw' h=>(n.out.1 w' h).2.2;cases placed with
    | true=>
     clear e1 e2 e3;go_wp2;refine wp_region_held_drew (S:=λw'=>Ext w0 w') (by kernel_rfl) (grown_trans p (grown_drew _ _)) (λaR => ?_);refine tk 0 ?_;refine tk 1 ?_;refine tk 2 ?_;refine eH 3 ?_;refine eH 4 ?_;refine eH 5 ?_;refine eH 6 ?_;refine eH 7 ?_;refine eH 8 ?_;refine eH 9 ?_;refine tk 10 ?_;refine wpAnyH_done (by kernel_rfl) ?_ _;have g:=Lib.hid (Bf I.out a ac.out);rw[<-E.out.2.1] at g;have ay:=K.ext (grown_drew wS none);have aS:wS.drew.cell? ⟨bl,ol+i,none⟩=some (.slice a2 x.length y):=F;have aT:=Rows2.ext HS.out.1 (grown_drew wS none);have az:=grown_trans p (grown_drew wS none);generalize wS.drew=wD at *;clear I K F;go_wp2_with (first|(at_builtin;refine mI rfl _ _ rfl S w0.heap.size _ _ out x rfl wD ay aT rfl rfl (by omega) az.size ?_;intro v8 w8 m q;have l:=grown_own az q (λb M a=>by have:=(ay.lt b M).1;omega))|fail)
     clear aS;go_roundw
     case rel=>exact⟨i+1,true,out++[x],_,rfl,rfl,by go_num,by omega,by simp;omega,l,m,g⟩
     case measure=>simp[intOf];omega
    | false=>
     have e4:∀w',Ext wS w'->w'.cell? ⟨bl,ol+i,none⟩=some (.slice a2 x.length y):=λw' h=>h.cell F (by simp);have f1:∀w',Ext wS w'->w'.cell? ⟨w.heap.size,0,none⟩=some U:=λw' h=>e1 w' (grown_trans p h);have f2:∀w',Ext wS w'->w'.cell? ⟨w.heap.size,1,none⟩=some dI:=λw' h=>e2 w' (grown_trans p h);have f3:∀w',Ext wS w'->w'.cell? ⟨w.heap.size,2,none⟩=some dG:=λw' h=>e3 w' (grown_trans p h);clear e1 e2 e3;go_wp2
     go_region_held3 (λw'=>Ext wS w') (first|exact grown_drew _ _|assumption)
      (first
       | (go_at_call 312;refine Calls.mono (Calls.rel (w0:=wS) (by assumption) (Ba P hP _ _ _ _ u x Any Any Any ⟨_,_,_,rfl,Pres3.ext dy (grown_trans p (by assumption))⟩ (Rows2.sub (Rows2.ext HS.out.2 (by assumption)) (λ_ _ _=>trivial)) (Rows2.sub (Rows2.ext HS.out.1 (by assumption)) (λ_ _ _=>trivial)) (n.out.2.2.1 u n.out.2.2.2.2).1 (n.out.2.2.1 x E.out.1).1 (n.out.2.2.1 u n.out.2.2.2.2).2 (n.out.2.2.1 x E.out.1).2)) ?_;rintro eA wA ⟨vA,rfl,dR,eW,rfl⟩))
     have z:=grown_trans p dR;have B:=K.ext dR;have ad:=e4 wA dR;have aB:=Rows2.ext HS.out.1 dR;have aW:=Rows2.ext HS.out.2 dR;clear e4 f1 f2 f3 K F;cases H:kG P u x with
     | true=>
      have ba:out.length<=i:=by rw[(I.out.no rfl).1,List.length_take];omega
      have g:=Be I.out a ac.out (by rw[<-E.out.2.1];exact uQ.1 H);rw[<-E.out.2.1] at g;have ae:=Lib.hid g;clear g I H;have ao:=n.out.2.1
      go_wp2_with (first
       | (revert m;intro m;at_builtin;refine mI rfl _ _ rfl S w0.heap.size _ _ (out++[u]) x rfl w8 m aX rfl rfl (by simp;omega) l.size ?_;intro v9 w9 aY aZ;have aC:=grown_own l aZ (λb M a=>by have:=(m.lt b M).1;omega))
       | (at_builtin;refine mI rfl _ _ rfl S w0.heap.size _ _ out u rfl wA B aW rfl rfl (by omega) z.size ?_;intro v8 w8 m q;have l:=grown_own z q (λb M a=>by have:=(B.lt b M).1;omega);have a0:=q.cell ad (λe=>by have h1:w0.heap.size<=bl:=(B.lt _ e.symm).1;omega);have aX:Rows2 (λk=>S k/\k<w0.heap.size) w8 (.slice a2 x.length y) x:=Rows2.mono aB (frame_of q (λk hk _=>⟨hk,λe=>by have:=(B.lt k e).1;omega⟩)))
       | fail)
      clear ad a0;go_roundw
      case rel=>exact⟨i+1,true,out++[u]++[x],_,rfl,rfl,by go_num,by omega,by simp only[List.length_append,List.length_singleton];omega,aC,aY,Lib.hid ae.out⟩
      case measure=>simp[intOf];omega
     | false=>
      have g:=Bd I.out a ac.out (by rw[<-E.out.2.1];exact λh=>by rw[uQ.2 h] at H;cases H);rw[<-E.out.2.1] at g;have ae:=Lib.hid g;clear g I H;go_wp2_with (first|(at_builtin;refine mI rfl _ _ rfl S w0.heap.size _ _ out x rfl wA B aB rfl rfl (by omega) z.size ?_;intro v8 w8 m q;have l:=grown_own z q (λb M a=>by have:=(B.lt b M).1;omega))|fail)
      clear ad;go_roundw
      case rel=>exact⟨i+1,false,out++[x],_,rfl,rfl,by go_num,by omega,by simp;omega,l,m,ae⟩
      case measure=>simp[intOf];omega
  ·have af:i=L.length:=by omega
   have a1:=hO;obtain⟨va,Eh,Bh⟩:=hO.shape;subst Bh;have g:=I.out;rw[af] at g;have ao:=n.out.2.1;have T:∀ {r:Value}{w':World}{Z:List (List (List Int))},Rows3 (λk=>S k\/w0.heap.size<=k) w' r Z->Rows3 (λk=>S k\/w.heap.size<=k) w' r Z:=λh=>Rows3.sub h (λk hk _=>hk.imp id (λh2=>by omega));have bg:¬(i:Int)<L.length:=by omega
   cases placed with
   | true=>
    have hR:=T (hO.rows (by omega));have HR:=Lib.hid (And.intro g hR);clear g hR I hO a1 af;go_wp2;go_ret;exact⟨_,rfl,grown_trans j A,out,(ins_end G C n.out.2.2.2.1 n.out.2.2.2.2 HR.out.1 out rfl).1,(ins_end G C n.out.2.2.2.1 n.out.2.2.2.2 HR.out.1 out rfl).2,by omega,HR.out.2⟩
   | false=>
    have J:Rows2 (λk=>S k/\k<w0.heap.size) wr (.slice au u.length D) u:=Rows2.mono hu (λk hk a=>⟨⟨hk,by omega⟩,Nat.lt_of_lt_of_le a (Nat.le_trans j.size A.size),(A.block k (Nat.lt_of_lt_of_le a j.size) (by simp)).trans (j.block k a (by simp))⟩);have HR:=Lib.hid g
    have a3:Hid ((out++[u]).length<=L.length+1):=by
     have h1:=(g.no rfl).1;exact Lib.hid (by rw[h1];simp)
    clear g I af;go_wp2_with (first|(at_builtin;refine mI rfl _ _ rfl S w0.heap.size _ _ out u rfl wr hO J rfl rfl (by omega) A.size ?_;intro v8 w8 m q;have l:=grown_own A q (λb M a=>by have:=(hO.lt b M).1;omega);obtain⟨vb,Ei,j7⟩:=m.shape;subst j7)|fail)
    have hR:=T (m.rows (by simp;omega));rw[List.length_append,List.length_singleton] at hR;go_ret;exact⟨_,rfl,grown_trans j l,out++[u],(ins_end G C n.out.2.2.2.1 n.out.2.2.2.2 HR.out (out++[u]) rfl).1,(ins_end G C n.out.2.2.2.1 n.out.2.2.2.2 HR.out (out++[u]) rfl).2,a3.out,hR⟩
end Go.Proofs.YtdcobapnlpeaaaaGreat
