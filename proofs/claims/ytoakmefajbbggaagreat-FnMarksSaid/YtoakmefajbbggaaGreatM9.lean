/- Merged from templates. -/
import Derived.Test.YtoakmefajbbggaaGreatM8
import Derived.Sort.OwnSortedInts
import Derived.Shelf.SlSortCmp.NoneTotal
set_option maxRecDepth 100000
set_option maxHeartbeats 8000000
namespace Go.Proofs.YtoakmefajbbggaaGreat
open Go.Proofs Go.Shelf Go.RowKit Go.Lib Go.Sort
section
variable {α:Type} [Inhabited α] {enc:α->Value}
theorem Lg {w:World}{g:Nat}{a:Array Value}{e:TypeId}{ss:List α}(i:w.heap[g]? = some (.cells a e (0,0))) (k:a.toList.take ss.length=ss.map enc):Go.Sort.Holds enc w g 0 ss.toArray:=by
 intro j l;have b:j<ss.length:=by simpa using l
 refine⟨?_,by simp[World.frozen?,i]⟩;have h1:(a.toList.take ss.length)[j]? = (ss.map enc)[j]? :=by rw[k]
 rw[List.getElem?_take_of_lt b] at h1;simp only[World.cell?,i,Nat.zero_add];simp only[Option.isSome_none,Bool.false_eq_true,if_false];rw[<-Array.getElem?_toList,h1];simp[b]
theorem TI {w:World}{g n:Nat}{os:Array Obj}{a:Array Value}{e:TypeId}{b:Nat × Nat}(d:Array α) (i:w.heap[g]? = some (.cells a e b)) :
  (sortWorld enc w g 0 n d os).heap[g]? = some (.cells (putCells enc 0 d a) e b):=by
 have j:g<w.heap.size:=(Array.getElem?_eq_some_iff.1 i).1;unfold sortWorld;rw[heap_grow_old _ _ (by simpa using j)];simp[putRow,mapBlock,Sort.ahead,Array.getElem?_modify,i,onCells]
theorem ET {w:World}{g n:Nat}{os:Array Obj}(d:Array α):w.grownBy (sortWorld enc w g 0 n d os) (some g):=by
 unfold sortWorld;refine⟨rfl,rfl,rfl,by simp,λk hk a => ?_⟩;rw[heap_grow_old _ _ (by simpa using hk)];have:g≠k:=λe=>a (by rw[e]);simp[putRow,mapBlock,Sort.ahead,Array.getElem?_modify,this]
theorem TJ (a:Array Value) (ts:List α) (h:ts.length<=a.size):(putCells enc 0 ts.toArray a).toList.take ts.length=ts.map enc:=by
 apply List.ext_getElem?;intro j;by_cases b:j<ts.length
 ·rw [List.getElem?_take_of_lt b,Array.getElem?_toList]
  simp[putCells,b,show j<a.size by omega]
 ·rw[List.getElem?_take_eq_none (by omega),List.getElem?_eq_none (by simp;omega)]
theorem Lh {w:World}{base g cap n:Nat}{e:TypeId}{os:Array Obj}{a:Array Value}{ss ts:List α}(i:ts.length=ss.length) (b:base<=g) (j:w.heap[g]? = some (.cells a e (0,0)))
  (h1:ss.length<=cap) (k:cap<=maxLen) (l:a.size=cap*1) :
  (sortWorld enc w g 0 n ts.toArray os).ownsRow base e 1 (.slice (some ⟨g,0,none⟩) ss.length cap) ss.length (ts.map enc):=
 ⟨by simp[i],.inr ⟨g,cap,_,rfl,b,TI _ j,h1,k,by simp[putCells,l],by rw[Nat.mul_one,<-i];exact TJ a ts (by omega)⟩⟩
end
def kV (a:List Value) (k:Nat):Value:=if k<a.length then gt a k else .slice none 0 0
theorem Lf {a:List Value}(h:∀i,i<a.length->(gt a i).oneCell'=true):OneCell (kV a):=by
 intro k;unfold kV;split
 ·exact h k (by assumption)
 ·rfl
theorem EW {α:Type} [Inhabited α] {l:List α}(h:l.Nodup) {i j:Nat}(a:i<l.length) (b:j<l.length) (e:gt l i=gt l j):i=j:=by
 simp only[gt,List.getD_eq_getElem?_getD,List.getElem?_eq_getElem a,List.getElem?_eq_getElem b,Option.getD_some] at e;rcases Nat.lt_trichotomy i j with h1|h1|h1
 ·exact absurd e (List.pairwise_iff_getElem.1 h i j a b h1)
 ·exact h1
 ·exact absurd e.symm (List.pairwise_iff_getElem.1 h j i b a h1)
def nJ (P:Pr) (u v:List (List Int)):Int:=if j5 (fJ P u u.length) (fJ P v v.length)=0 then gm u.flatten v.flatten else j5 (fJ P u u.length) (fJ P v v.length)
theorem ur {P:Pr}{u v:List (List Int)} : nJ P u v<0↔iP P u v:=by
 unfold nJ iP;rcases nk (fJ P u u.length) (fJ P v v.length) with⟨h,k⟩|⟨h,k⟩|⟨h,k⟩<;>rw[h]
 ·rw[if_neg (by omega)];exact⟨λ_ => .inl k,λ_=>by omega⟩
 ·rw[if_pos rfl];exact⟨λh => .inr ⟨k,h⟩,λh=>(h.elim (λh=>(by omega)) (λh=>h.2))⟩
 ·rw[if_neg (by omega)];exact⟨λh=>by omega,λh=>by omega⟩
theorem TK (P:Pr) (u v:List (List Int)):nJ P v u = - nJ P u v:=by
 unfold nJ;rw[rJ u.flatten v.flatten];rcases nk (fJ P u u.length) (fJ P v v.length) with⟨h,k⟩|⟨h,k⟩|⟨h,k⟩<;>rcases nk (fJ P v v.length) (fJ P u u.length) with⟨a,k'⟩|⟨a,k'⟩|⟨a,k'⟩<;>rw[h,a]
 all_goals first|omega|rfl
theorem Lm (P:Pr):SWO (ltOf (nJ P)) where
 irrefl x:=by
  have:=TK P x x;unfold ltOf;rw[decide_eq_false_iff_not];omega
 trans x y z h k:=by
  unfold ltOf at *;rw[decide_eq_true_iff] at *;exact ur.2 (Av (ur.1 h) (ur.1 k))
 ntrans x y z h k:=by
  unfold ltOf at *;rw[decide_eq_false_iff_not] at *;intro i;have b:=ur.1 i;unfold iP at b;rw[ur] at h k;unfold iP at h k;have h1:=rJ x.flatten y.flatten;have m:=rJ y.flatten z.flatten;have p:=rJ x.flatten z.flatten;rcases b with b|⟨e,b⟩
  ·have:¬fJ P x x.length<fJ P y y.length:=λa=>h (.inl a)
   have:¬fJ P y y.length<fJ P z z.length:=λa=>k (.inl a);omega
  ·have hx:¬fJ P x x.length<fJ P y y.length:=λa=>h (.inl a)
   have hy:¬fJ P y y.length<fJ P z z.length:=λa=>k (.inl a);have j:fJ P x x.length=fJ P y y.length:=by omega
   have l:fJ P y y.length=fJ P z z.length:=by omega
   have c1:¬gm x.flatten y.flatten<0:=λa=>h (.inr ⟨j,a⟩);have c2:¬gm y.flatten z.flatten<0:=λa=>k (.inr ⟨l,a⟩);have q:=Bo z.flatten y.flatten x.flatten (by omega) (by omega);omega
theorem Lx {P:Pr}(G:ez P) {L b:List (List (List Int))}(k:b.Perm L) (r:b.Pairwise (λx y=>0<=nJ P y x)) (w:L.Nodup) (q:∀u,u∈L↔fO P u):jO P b:=by
 refine⟨?_,λu=>(k.mem_iff).trans (q u)⟩;have l:b.Nodup:=k.symm.nodup w;have a:∀u∈b,fO P u:=λu z=>(q u).1 (k.mem_iff.1 z);refine List.pairwise_iff_getElem.2 λi j m p e => ?_;have h1:=List.pairwise_iff_getElem.1 r i j m p e;have A:=List.pairwise_iff_getElem.1 l i j m p e;refine Classical.byContradiction λB => ?_;have:=Aw G (a _ (List.getElem_mem m)) (a _ (List.getElem_mem p)) A B;rw[<-ur] at this;omega
theorem TL (a b:Int) (w:World) (v:Value) (S:Nat->Prop) (h:Ints S w v [a,b]) :
  Calls Tryz.prog 200 #[v] w λe w'=>e=.returned (.int .i64 (if a=0 then b else a))/\w'=w:=by
 obtain⟨A,pE,rfl,_,_⟩:=h.shape;obtain⟨u,o0,rfl,_,_,hc0⟩:=Ints.at h 0 (by simp)
 have j:w.cell? ⟨u,o0+1,none⟩=some (.int .i64 b):=by
  obtain⟨b1,o1,e,_,_,j⟩:=Ints.at h 1 (by simp);cases e;exact j
 have y:w.cell? ⟨u,o0,none⟩=some (.int .i64 a):=hc0;clear hc0 h;have l:(([a,b]:List Int).length:Int)=2:=rfl;rw[show([a,b]:List Int).length=2 from rfl];clear l;go_enter Tryz.func200,Tryz.ntmps200;go_wp2;go_loopw [8] (λm wr=>∃k:Nat,m=.int .i64 k/\k<=2/\wr=w/\(1<=k->a=0)/\(2<=k->b=0)) (λm _=>2-(intOf m).toNat)
 case atStart=>exact⟨0,rfl,by omega,rfl,λh=>by omega,λh=>by omega⟩
 case round=>
  obtain⟨k,rfl,hk,rfl,ha,hb⟩:=hrel;by_cases p:k=0
  ·subst p
   clear ha hb hk;by_cases q:a=0
   ·subst q
    go_wp2;go_roundw
    case rel=>exact⟨1,by go_num,by omega,trivial,by simp,by omega⟩
    case measure=>simp[intOf]
   ·go_wp2
    exact bodyPost_ret (v := .int .i64 a) (by simp[results,Tryz.results200,go_sem]) rfl ⟨rfl,rfl⟩
  ·by_cases h1:k=1
   ·subst h1
    have i:=ha (by omega);subst i;clear ha hb hk p;by_cases q:b=0
    ·subst q
     go_wp2;go_roundw
     case rel=>exact⟨2,by go_num,by omega,trivial,by simp,by simp⟩
     case measure=>simp[intOf]
    ·go_wp2
     exact bodyPost_ret (v := .int .i64 b) (by simp[results,Tryz.results200,go_sem]) rfl ⟨rfl,rfl⟩
   ·have z:k=2:=by omega
    subst z;have i:=ha (by omega);have r:=hb (by omega);subst i;subst r;clear ha hb hk p h1;go_wp2;exact bodyPost_ret (v := .int .i64 0) (by simp[results,Tryz.results200,go_sem]) rfl ⟨rfl,rfl⟩
theorem BB {P:Pr}{U:List (List Int)}(a:iY P U):∀u∈U,u.length=P.orders.length:=λu b=>(a.1 u b).1.1
theorem TM (P:Pr) (hP:Valid P) (w:World) (p uv vv:Value) (U V:List (List Int)) (L M N:Nat->Prop) (O:fB L w p P) (Q:dK M w uv U) (R:dK N w vv V) (T:iY P U) (W:iY P V) (z:U.length<=100) (A:V.length<=100) :
  Calls Tryz.prog 141 #[p,uv,vv] w (fq w λw' v=>v=.int .i64 (nJ P U V)/\w.drawn<=w'.drawn):=by
 have am:=hP.n6;obtain⟨pb,po,rfl⟩:=O.shape;obtain⟨au,jA,rfl,_,_⟩:=Sl.shape Q;obtain⟨av,pE,rfl,_,_⟩:=Sl.shape R;have q:∀u∈U,u.length<=1000:=λu h=>by have:=BB T u h;omega
 have r:∀u∈V,u.length<=1000:=λu h=>by have:=BB W u h;omega
 have B:U.flatten.length<=100000:=by have:=xx U 1000 q _ (Nat.le_refl _);rw[xy] at this;omega
 have C:V.flatten.length<=100000:=by have:=xx V 1000 r _ (Nat.le_refl _);rw[xy] at this;omega
 have e:nJ P U V=if j5 (fJ P U U.length) (fJ P V V.length)=0 then gm U.flatten V.flatten else j5 (fJ P U U.length) (fJ P V V.length):=rfl
 have k:=Lib.hid (And.intro (And.intro T W) (And.intro (And.intro q r) (And.intro B (And.intro C e))));clear T W q r B C e;go_enter Tryz.func141,Tryz.ntmps141;go_wp2_with fail
 refine Calls.mono (J3 P hP w _ _ U L M O Q k.out.1.1 z) ?_;rintro e1 w1 ⟨v1,rfl,y,rfl,D⟩;obtain⟨a,ha⟩:∃a,a=fJ P U U.length:=⟨_,rfl⟩;rw[<-ha];have HA:=Lib.hid (And.intro ha D);clear ha D;go_wp2_with fail
 refine Calls.mono (J3 P hP w1 _ _ V L N (O.ext y) (dK.ext R y) k.out.1.2 A) ?_;rintro e2 w2 ⟨v2,rfl,hg2,rfl,E⟩;obtain⟨b,X⟩:∃b,b=fJ P V V.length:=⟨_,rfl⟩;rw[<-X];have e:=k.out.2.2.2.2;rw[<-HA.out.1,<-X] at e;have HD:=Lib.hid (And.intro e E);clear e X E;go_wp2_with fail
 refine Calls.mono (Jh a b w2) ?_;rintro e3 w3 ⟨rfl,rfl⟩;obtain⟨c,Y⟩:∃c,c=j5 a b:=⟨_,rfl⟩;rw[<-Y];have e:=HD.out.1;rw[<-Y] at e;have F:=Lib.hid e;clear e Y;have l:=dy y hg2;go_wp2_with fail
 refine Calls.mono (J5 w3 _ U M (dK.ext Q l) k.out.2.1.1 z) ?_;rintro e4 w4 ⟨v4,rfl,hg4,zx,J6⟩;have m:=dy l hg4;have Z:=Lib.hid J6;clear J6;go_wp2_with fail
 refine Calls.mono (J5 w4 _ V N (dK.ext R m) k.out.2.1.2 A) ?_;rintro e5 w5 ⟨v5,rfl,G,tX,J7⟩;have H:Ints Any w5 v4 U.flatten:=Ints.sub (Ints.ext (iD (S:=Any) zx (by have:=k.out.2.2.1;omega) (λ_ _=>trivial)) G) (λ_ _ _=>trivial);have I:Ints Any w5 v5 V.flatten:=iD (S:=Any) tX (by have:=k.out.2.2.2.1;omega) (λ_ _=>trivial);have HI:=Lib.hid (And.intro H I);clear H I zx tX;have ac:=Lib.hid J7;clear J7;go_wp2_with fail
 refine Calls.mono (QY v4 v5 U.flatten V.flatten w5 Any Any HI.out.1 HI.out.2) ?_;rintro e6 j ⟨rfl,rfl⟩;obtain⟨d,hd⟩:∃d,d=gm U.flatten V.flatten:=⟨_,rfl⟩;rw[<-hd];have e:=F.out;rw[<-hd] at e;have ae:=Lib.hid e;clear e hd F k HI;have af:Ext j (j.alloc (.cells #[.int .i64 c,.int .i64 d] 3)):=World.grownBy_alloc _ _ _;have J:fK j.heap.size 3 (j.alloc (.cells #[.int .i64 c,.int .i64 d] 3)) (.slice (some ⟨j.heap.size,0,none⟩) 2 2) [.int .i64 c,.int .i64 d]:=World.ownsRow_lit j #[.int .i64 c,.int .i64 d] 2 (Nat.le_refl _) (by decide) rfl
 have K:Ints Any (j.alloc (.cells #[.int .i64 c,.int .i64 d] 3)) (.slice (some ⟨j.heap.size,0,none⟩) 2 2) [c,d]:=by
  refine⟨_,_,rfl,⟨by simp,by simp,λh=>by cases h⟩,λi hi=>⟨j.heap.size,0,.int .i64 (gt [c,d] i),rfl,trivial,by simp,?_,rfl⟩⟩;have:=J.cell i (by simpa using hi);rw[Nat.zero_add,this];have ar:i<2:=by simpa using hi
  have:i=0\/i=1:=by omega
  rcases this with rfl|rfl<;>rfl
 have H7:=Lib.hid K;clear K J;go_wp2_with fail
 refine Calls.mono (TL c d _ _ Any H7.out) ?_;rintro e8 w8 ⟨rfl,rfl⟩;rw[<-ae.out];go_wp2;go_ret;exact⟨_,rfl,dy m (dy G af),rfl,Nat.le_trans (Nat.le_trans HA.out.2 HD.out.2) (Nat.le_trans Z.out ac.out)⟩
theorem Ln (P:Pr) (hP:Valid P) (w:World) (bx pb l:Nat) (e i:Value) (U V:List (List Int)) (m p q:Nat->Prop) (b:w.cell? ⟨bx,0,none⟩=some (.pointer (some ⟨pb,l,none⟩))) (u:fB m w (.pointer (some ⟨pb,l,none⟩)) P)
  (y:dK p w e U) (z:dK q w i V) (A:iY P U) (B:iY P V) (j:U.length<=100) (k:V.length<=100) :
  Calls Tryz.prog 140 #[e,i,.pointer (some ⟨bx,0,none⟩)] w (fq w λw' v=>v=.int .i64 (nJ P U V)/\w.drawn<=w'.drawn):=by
 go_enter Tryz.func140,Tryz.ntmps140;go_wp2_with fail
 refine Calls.mono (TM P hP w _ e i U V m p q u y z A B j k) ?_;rintro C D ⟨v1,rfl,hg1,rfl,a⟩;obtain⟨c,b⟩:∃c,c=nJ P U V:=⟨_,rfl⟩;rw[<-b];have r:=Lib.hid (And.intro b a);clear b a;go_wp2;go_ret;exact⟨_,rfl,hg1,congrArg (Value.int .i64) r.out.1,r.out.2⟩
theorem J8 (w:World) (lv:Value) (a:List (List Int)) (M:Nat->Prop) (G:dK M w lv a) (y:∀u∈a,u.length<=1000) (R:a.length<=100) :
  Calls Tryz.prog 277 #[lv] w (fq w λw' v=>Own w.heap.size w' v a.flatten):=by
 obtain⟨S,qi,rfl,_,_⟩:=Sl.shape G;have m:∀k,k<=a.length->(kO a k).length<=100000:=λk hk=>by have:=xx a 1000 y k hk;omega
 have H:=Lib.hid (And.intro m y);clear m y;rw[<-xy];go_enter Tryz.func277,Tryz.ntmps277;go_wp2;go_loopw [3,4] (λN z wr=>∃(k:Nat) (v4:Value),v4=N/\z=.int .i64 k/\k<=a.length/\Ext w wr/\Own w.heap.size wr v4 (kO a k)) (λ_ z _=>a.length-(intOf z).toNat)
 case atStart=>exact⟨0,_,rfl,rfl,by omega,World.grownBy_alloc _ _ _,World.ownsRow_lit w #[] 0 (Nat.le_refl _) (by decide) rfl⟩
 case round=>
  obtain⟨k,v4,rfl,rfl,hk,p,hO⟩:=hrel;by_cases l:k<a.length
  ·have I:(k:Int)<a.length:=by omega
   obtain⟨b,off,a2,jx,rfl,_,_,hc,hr⟩:=dK.at G k l;have A:=p.cell hc (by simp);have q:=Ints.ext hr p;have B:=H.out.2 _ (iW l);have C:=H.out.1 k hk;have e:(kO a k).length+(gt a k).length<=2147483648:=by omega
   have J:=Lib.hid (And.intro q e);clear e q B C hc;go_wp2_with (first|(at_builtin;refine rQ rfl _ _ rfl w.heap.size _ (kO a k) rfl hO _ (gt a k) rfl _ J.out.1 J.out.2 p.size ?_;intro O T D E _;have r:=fu p E (λj Q l=>by have:=(hO.lt j Q).1;omega))|fail)
   clear A;go_roundw
   case rel=>exact⟨k+1,O,rfl,by go_num,by omega,r,D⟩
   case measure=>simp[intOf];omega
  ·have F:k=a.length:=by omega
   subst F
   obtain ⟨K,L,i,lJ⟩:∃K L i,v4=.slice K L i:=by
    rcases hO.2 with⟨h1,_⟩|⟨g,cp,_,h1,_⟩
    ·exact⟨_,_,_,h1⟩
    ·exact⟨_,_,_,h1⟩
   subst lJ;go_wp2;go_ret;exact⟨_,rfl,p,hO⟩
theorem J9 {X Y:List Int}{k:Nat}(hx:k<=X.length) (hy:k<=Y.length) (h:k=X.length\/k=Y.length):(gm (X.drop k) (Y.drop k)<0↔X.length<Y.length):=by
 by_cases h1:k<X.length
 ·have a:k=Y.length:=by omega
  rw[sW h1,List.drop_eq_nil_of_le (show Y.length<=k by omega)];simp only[gm];omega
 ·rw [List.drop_eq_nil_of_le (show X.length<=k by omega)]
  by_cases a:k<Y.length
  ·rw[sW a];simp only[gm];omega
  ·rw [List.drop_eq_nil_of_le (show Y.length<=k by omega)]
   simp only[gm];omega
theorem TN (a b:Value) (X Y:List Int) (w:World) (K L:Nat->Prop) (ha:Ints K w a X) (G:Ints L w b Y) :
  Calls Tryz.prog 276 #[a,b] w (fq w λ_ v=>v=.bool (decide (gm X Y<0))):=by
 obtain⟨R,vr,rfl,hla,_⟩:=ha.shape;obtain⟨S,ql,rfl,hlb,_⟩:=G.shape;go_enter Tryz.func276,Tryz.ntmps276;go_wp2;go_loopw [5] (λv wr=>∃k:Nat,v=.int .i64 k/\k<=X.length/\k<=Y.length/\Ext w wr/\Hid (gm X Y=gm (X.drop k) (Y.drop k))) (λv _=>X.length-(intOf v).toNat)
 case atStart=>exact⟨0,rfl,by omega,by omega,Ext.refl _,Lib.hid (by simp)⟩
 case round=>
  obtain⟨k,rfl,hk,DL,A,e⟩:=hrel;by_cases B:k<X.length
  ·obtain ⟨M,oa,rfl,_,_,r⟩:=Ints.at (Ints.ext ha A) k B
   have C:(k:Int)<X.length:=by omega
   by_cases p:k<Y.length
   ·obtain ⟨N,ob,rfl,_,_,u⟩:=Ints.at (Ints.ext G A) k p
    have z:(k:Int)<Y.length:=by omega
    have m:=e.out;rw[sW B,sW p] at m;simp only[gm] at m;obtain⟨x,hx⟩:∃x,x=gt X k:=⟨_,rfl⟩;obtain⟨y,hy⟩:∃y,y=gt Y k:=⟨_,rfl⟩;rw[<-hx] at r m;rw[<-hy] at u m;have E:=Lib.hid m;clear m e hx hy;go_wp2;go_quiet (fail)
    rename_i nq _;have D:Ext w (wr.drewN nq):=dy A (iI _ _ _);have H:(wr.drewN nq).cell? ⟨M,oa+k,none⟩=some (.int .i64 x):=r;have I:(wr.drewN nq).cell? ⟨N,ob+k,none⟩=some (.int .i64 y):=u;clear r u;generalize wr.drewN nq=T at *;by_cases F:x=y
    ·subst F
     have j:=E.out;have J:j5 x x=0:=by unfold j5;simp
     rw[if_pos J] at j;have l:=Lib.hid j;clear j E J;go_wp2;go_roundw
     case rel=>exact⟨k+1,by go_num,by omega,by omega,D,l⟩
     case measure=>simp[intOf];omega
    ·have j:=E.out
     have h1:j5 x y≠0:=by
      rcases nk x y with⟨h,k⟩|⟨h,k⟩|⟨h,k⟩<;>omega
     rw[if_neg h1] at j
     have q:(decide (gm X Y<0))=decide (x<y):=by
      rw[j];rcases nk x y with⟨h,k⟩|⟨h,k⟩|⟨h,k⟩
      ·rw[h];simp[k]
      ·exact absurd k F
      ·rw[h];simp;omega
     have l:=Lib.hid q;clear j E h1 q;have O:(x != y)=true:=by simpa using F
     go_wp2;go_quiet (fail)
     rename_i Q _;go_wp2;go_ret;exact⟨_,rfl,dy D (iI _ _ _),congrArg Value.bool l.out.symm⟩
   ·have i:=J9 hk DL (.inr (by omega))
    have q:(decide (gm X Y<0))=decide (X.length<Y.length):=by rw[e.out];exact decide_eq_decide.2 i
    have l:=Lib.hid q;clear q i e;have z:¬(k:Int)<Y.length:=by omega
    go_wp2;go_ret;exact⟨_,rfl,A,congrArg Value.bool l.out.symm⟩
  ·have i:=J9 hk DL (.inl (by omega))
   have q:(decide (gm X Y<0))=decide (X.length<Y.length):=by rw[e.out];exact decide_eq_decide.2 i
   have l:=Lib.hid q;clear q i e;have C:¬(k:Int)<X.length:=by omega
   go_wp2;go_ret;exact⟨_,rfl,A,congrArg Value.bool l.out.symm⟩
def uu (P:Pr) (u v:List (List Int)):Bool:=decide (nJ P u v<0)
theorem Ka {P:Pr}{u v:List (List Int)} : uu P u v=true↔iP P u v:=by unfold uu;rw[decide_eq_true_iff];exact ur
theorem TP (P:Pr) (hP:Valid P) (w:World) (pv uv vv:Value) (U V:List (List Int)) (Sp Su Sv:Nat->Prop) (X:gy Sp w pv P) (Y:dK Su w uv U) (Z:dK Sv w vv V) (hU:iY P U) (hV:iY P V) (ac:U.length<=100) (ad:V.length<=100) :
  Calls Tryz.prog 233 #[pv,uv,vv] w (fq w λ_ v=>v=.bool (uu P U V)):=by
 have aw:=hP.n6;obtain⟨vo,vp,vc,rfl,h3⟩:=X;have F:=fB.box h3 28;have i:Ext w (w.alloc (.cells #[vo,vp,vc] 28)):=World.grownBy_alloc _ _ _;obtain⟨G,fN,fM,_,_,hc0,l,m,fP⟩:=F.at;simp only[Nat.zero_add] at l m;have H:∀w',Ext (w.alloc (.cells #[vo,vp,vc] 28)) w'->w'.cell? ⟨w.heap.size,0,none⟩=some G/\w'.cell? ⟨w.heap.size,1,none⟩=some fN/\w'.cell? ⟨w.heap.size,2,none⟩=some fM:=λw' h=>⟨h.cell hc0 (by simp),h.cell l (by simp),h.cell m (by simp)⟩;have HB:=Lib.hid H;clear H F;obtain⟨au,jA,rfl,_,_⟩:=Sl.shape Y;obtain⟨av,pE,rfl,_,_⟩:=Sl.shape Z;have p:∀u∈U,u.length<=1000:=λu h=>by have:=BB hU u h;omega
 have q:∀u∈V,u.length<=1000:=λu h=>by have:=BB hV u h;omega
 have I:U.flatten.length<=100000:=by have:=xx U 1000 p _ (Nat.le_refl _);rw[xy] at this;omega
 have J:V.flatten.length<=100000:=by have:=xx V 1000 q _ (Nat.le_refl _);rw[xy] at this;omega
 have e:uu P U V=decide ((if j5 (fJ P U U.length) (fJ P V V.length)=0 then gm U.flatten V.flatten else j5 (fJ P U U.length) (fJ P V V.length))<0):=rfl;have K:=dK.ext Y i;have L:=dK.ext Z i;have y:=Lib.hid (And.intro (And.intro hU hV) (And.intro (And.intro p q) (And.intro I (And.intro J e))));clear hU hV p q I J e Y Z;go_enter Tryz.func233,Tryz.ntmps233;go_wp2;clear hc0 l m;generalize af:w.alloc (.cells #[vo,vp,vc] 28)=w0 at *;clear af;obtain⟨a,ha⟩:∃a,a=fJ P U U.length:=⟨_,rfl⟩;obtain⟨b,hb⟩:∃b,b=fJ P V V.length:=⟨_,rfl⟩;have e:=y.out.2.2.2.2;rw[<-ha,<-hb] at e;have W:=Lib.hid (And.intro e (And.intro ha hb));clear e ha hb;have e1:∀w',Ext w0 w'->w'.cell? ⟨w.heap.size,0,none⟩=some G:=λw' h=>(HB.out w' h).1;have e2:∀w',Ext w0 w'->w'.cell? ⟨w.heap.size,1,none⟩=some fN:=λw' h=>(HB.out w' h).2.1;have e3:∀w',Ext w0 w'->w'.cell? ⟨w.heap.size,2,none⟩=some fM:=λw' h=>(HB.out w' h).2.2
 go_region_held3 (λw'=>Ext w0 w') (first|exact fk _ _|assumption)
  (first
   | (revert z;intro z;go_at_call 211;refine Calls.mono (Calls.rel (w0:=w0) (by assumption) (AW P hP _ _ _ V Any Any ⟨_,_,_,rfl,fA.ext fP (by assumption)⟩ (dK.sub (dK.ext L (by assumption)) (λ_ _ _=>trivial)) y.out.1.2 (by omega))) ?_;rintro eB wB ⟨vB,rfl,A,jV,M⟩;rw[<-W.out.2.2] at M;subst M)
   | (go_at_call 211;refine Calls.mono (Calls.rel (w0:=w0) (by assumption) (AW P hP _ _ _ U Any Any ⟨_,_,_,rfl,fA.ext fP (by assumption)⟩ (dK.sub (dK.ext K (by assumption)) (λ_ _ _=>trivial)) y.out.1.1 (by omega))) ?_;rintro eA wA ⟨vA,rfl,z,iZ,N⟩;rw[<-W.out.2.1] at N;subst N))
 clear e1 e2 e3 z iZ jV;by_cases B:a=b
 ·subst B
  have h0:j5 a a=0:=by unfold j5;simp
  have C:=W.out.1;rw[if_pos h0] at C;have D:=Lib.hid C;clear C h0;go_wp2_with fail
  refine Calls.mono (J8 wB _ U Any (dK.sub (dK.ext K A) (λ_ _ _=>trivial)) y.out.2.1.1 ac) ?_;rintro e4 w4 ⟨v4,rfl,hg4,zx⟩;have j:=dy A hg4;go_wp2_with fail
  refine Calls.mono (J8 w4 _ V Any (dK.sub (dK.ext L j) (λ_ _ _=>trivial)) y.out.2.1.2 ad) ?_;rintro e5 w5 ⟨v5,rfl,O,tX⟩;have Q:Ints Any w5 v4 U.flatten:=Ints.sub (Ints.ext (iD (S:=Any) zx (by have:=y.out.2.2.1;omega) (λ_ _=>trivial)) O) (λ_ _ _=>trivial);have R:Ints Any w5 v5 V.flatten:=iD (S:=Any) tX (by have:=y.out.2.2.2.1;omega) (λ_ _=>trivial);have HI:=Lib.hid (And.intro Q R);clear Q R zx tX;go_wp2_with fail
  refine Calls.mono (TN v4 v5 U.flatten V.flatten w5 Any Any HI.out.1 HI.out.2) ?_;rintro e6 w6 ⟨v6,rfl,ai,E⟩;rw[<-D.out] at E;obtain⟨r,hr⟩:∃r,r=uu P U V:=⟨_,rfl⟩;rw[<-hr] at E;subst E;have HR:=Lib.hid hr;clear hr;go_wp2;go_ret;exact⟨_,rfl,dy i (dy j (dy O ai)),congrArg Value.bool HR.out⟩
 ·have C:=W.out.1
  have h1:j5 a b≠0:=by
   rcases nk a b with⟨h,k⟩|⟨h,k⟩|⟨h,k⟩<;>omega
  rw[if_neg h1] at C
  have T:uu P U V=decide (a<b):=by
   rw[C];rcases nk a b with⟨h,k⟩|⟨h,k⟩|⟨h,k⟩
   ·rw[h];simp[k]
   ·exact absurd k B
   ·rw[h];simp;omega
  have D:=Lib.hid T;clear T C h1;have aD:(a != b)=true:=by simpa using B
  go_wp2;go_ret;exact⟨_,rfl,dy i A,congrArg Value.bool D.out.symm⟩
def kK (S:Nat->Prop) (B:Nat) (w:World) (v:Value) (xs:List (List (List Int))):Prop:=
 ∃a,a.length=xs.length/\fK B 25 w v a/\∀i,i<xs.length->dK (λk=>S k/\k<B) w (gt a i) (gt xs i)
theorem kK.kept {S:Nat->Prop}{B:Nat}{w w':World}{v:Value}{xs:List (List (List Int))}{r:Option Nat}(h:kK S B w v xs) (b:w.grownBy w' r) (a:v.ownBlock=none\/v.ownBlock≠r) (j:∀k,r=some k->B<=k):kK S B w' v xs:=by
 obtain⟨l,h1,h2,m⟩:=h;exact⟨l,h1,h2.kept b a,λi p=>dK.mono (m i p) (iQ b (λk hk _=>⟨hk,λe=>by have:=j k e;omega⟩))⟩
theorem kK.ext {S:Nat->Prop}{B:Nat}{w w':World}{v:Value}{xs:List (List (List Int))}(h:kK S B w v xs) (a:Ext w w'):kK S B w' v xs:=
 h.kept a (by cases b:v.ownBlock<;>simp) (λk hk=>by cases hk)
theorem kK.lt {S:Nat->Prop}{B:Nat}{w:World}{v:Value}{xs:List (List (List Int))}(h:kK S B w v xs) (k:Nat) (hk:v.ownBlock=some k):B<=k/\k<w.heap.size:=by
 obtain⟨a,h1,h2,h3⟩:=h;exact h2.lt k hk
theorem kK.shape {S:Nat->Prop}{B:Nat}{w:World}{v:Value}{xs:List (List (List Int))}(h:kK S B w v xs):∃a c,v=.slice a xs.length c:=by
 obtain⟨i,h1,e,h3⟩:=h;rcases e.form with⟨b,e2⟩|⟨g,cp,b,_⟩
 ·have:xs.length=0:=by rw[<-h1,e2];rfl
  exact⟨none,0,by rw[b,this]⟩
 ·exact⟨_,_,by rw[b,h1]⟩
theorem kK.rows {S:Nat->Prop}{B:Nat}{w:World}{v:Value}{xs:List (List (List Int))}(h:kK S B w v xs) (l:xs.length<=1000000):fU (λk=>S k\/B<=k) w v xs:=by
 obtain⟨e,h1,b,j⟩:=h;rcases b.form with⟨rfl,e2⟩|⟨g,cp,rfl,hc,hB,l5⟩
 ·have:xs=[]:=List.eq_nil_of_length_eq_zero (by rw[<-h1,e2];rfl)
  subst this;exact⟨none,0,rfl,⟨by simp,by simp,λ_=>rfl⟩,λi a=>by simp at a⟩
 ·refine ⟨_,cp,by rw[h1],⟨by omega,by omega,λh=>by cases h⟩,λi a=>⟨g,0,gt e i,rfl,.inr hB,l5,?_,dK.sub (j i a) (λk hk _ => .inl hk.1)⟩⟩
  rw[Nat.zero_add];exact b.cell i (by omega)
theorem kK.EP (S:Nat->Prop) (B:Nat) (w:World) (hB:B<=w.heap.size):kK S B (w.alloc (.cells #[] 25)) (.slice (some ⟨w.heap.size,0,none⟩) 0 0) []:=
 ⟨[],rfl,World.ownsRow_lit w #[] 0 hB (by decide) rfl,by simp⟩
theorem TQ {S:Nat->Prop}{w:World}{v:Value}{xs:List (List Int)}(h:dK S w v xs):v.oneCell'=true:=by obtain⟨a,cap,rfl,_⟩:=h;rfl
theorem uM {m:Array Oper}{rest:List Oper}{o:Oper}{a:Act}{Q:Exit->Act->World->Prop}{w:World}(C:o.guard=none) (s x:Operand)
  (J:o.op=Op.call { callee:=Callee.builtin Builtin.append,args := #[s,x],argTypes := #[26,26] }) (S:Nat->Prop) (B:Nat) (v u:Value) (xs:List (List (List Int))) (y:List (List Int)) (K:a.eval s=v) (j:World) (b:kK S B j v xs)
  (E:dK (λk=>S k/\k<B) j u y) (L:w=j.alloc (.cells #[u] 25)) (hx:a.eval x=.slice (some ⟨j.heap.size,0,none⟩) 1 1) (F:xs.length<=1000000) (l:B<=j.heap.size)
  (h:∀A w',kK S B w' A (xs++[y])->j.grownBy w' v.ownBlock->wpList Tryz.prog m Q rest (a.put o.dst A) w') :
  wpList Tryz.prog m Q (o :: rest) a w:=by
 obtain⟨G,h1,H,M⟩:=b;refine tE 26 25 (.slice none 0 0) 24 Cc Tryz.Ce rfl (by decide) C s x J B j v u G K H L (TQ E) hx (by omega) l ?_;intro A w' N I;have b:∀k,v.ownBlock=some k->B<=k:=λk hk=>(H.lt k hk).1;refine h A w' ⟨G++[u],by simp[h1],N,λi O => ?_⟩ I;simp only[List.length_append,List.length_singleton] at O;have p:∀ {z:Value}{q:List (List Int)},dK (λk=>S k/\k<B) j z q->dK (λk=>S k/\k<B) w' z q:=λR=>dK.mono R (iQ I (λk hk _=>⟨hk,λe=>by have:=b k e;omega⟩));by_cases r:i<xs.length
 ·rw [iX _ _ _ (by omega),iX _ _ _ r]
  exact p (M i r)
 ·have D:i=xs.length:=by omega
  subst D;rw[kr,<-h1,kr];exact p E
theorem VK {B gb n W:Nat}{i p:World}{v1 j:Value}{b:List (List Int)}(h:jD B (λk=>v1.ownBlock=some k) i gb n b) (q:∀k,v1.ownBlock=some k->W<=k) (r:gb<W)
  (a:i.grownBy p v1.ownBlock) (l:j.ownBlock=v1.ownBlock\/∀k,j.ownBlock=some k->i.heap.size<=k):jD B (λk=>j.ownBlock=some k) p gb n b:=by
 refine h.kept a.size (λk hk m=>a.block k hk (λe => ?_)) (λk hk e => ?_)
 ·rcases m with rfl|m
  ·have:=q _ e.symm;omega
  ·exact m e.symm
 ·rcases l with h|h
  ·rw[<-h];exact e
  ·have:=h k e;omega
theorem D8 {B gb n W p:Nat}{i q:World}{v1 j:Value}{b:List (List Int)}(h:jD B (λk=>v1.ownBlock=some k\/k<p) i gb n b) (r:∀k,v1.ownBlock=some k->W<=k) (u:gb<W)
  (a:i.grownBy q v1.ownBlock) (l:j.ownBlock=v1.ownBlock\/∀k,j.ownBlock=some k->i.heap.size<=k):jD B (λk=>j.ownBlock=some k\/k<p) q gb n b:=by
 refine h.kept a.size (λk hk m=>a.block k hk (λe => ?_)) (λk hk e => ?_)
 ·rcases m with rfl|m
  ·have:=r _ e.symm;omega
  ·exact m (.inl e.symm)
 ·rcases e with e|e
  ·rcases l with h|h
   ·rw[<-h];exact .inl e
   ·have:=h k e;omega
  ·exact .inr e
theorem gN.TR {bad:Nat->Prop}{B:Nat}{w:World}{v:Value}{xs:List (List Int)}(h:iL B w v xs) (a:∀k,bad k->k<B):gL bad B w v xs:=by
 obtain⟨e,G,hl,hO,hG,_,j⟩:=h;refine⟨e,hl,iH.of hO,λi b=>Ints.sub (j i b).ints (λk hk _ => ?_)⟩;obtain⟨h1,h2,_⟩:=hG i k b hk;exact⟨λh=>by have:=a k h;omega,h2⟩
def rN (w0 a:World) (g:Nat) (w':World):Prop:=Ext w0 w'/\w'.heap[g]? = a.heap[g]?
theorem D9 {w0 a w':World}{g:Nat}(b:Ext w0 a) (e:g<a.heap.size) (h:Ext a w'):rN w0 a g w':=⟨dy b h,h.block g e (by simp)⟩
theorem rN.cell {w0 a w':World}{g i:Nat}{v:Value}(h:rN w0 a g w') (b:a.cell? ⟨g,i,none⟩=some v):w'.cell? ⟨g,i,none⟩=some v:=(World.cell?_of_block (w:=a) h.2).trans b
theorem TS (P:Pr) (G:ez P) (w:World) (pv lv:Value) (L:List (List Int)) (Sp Sr:Nat->Prop) (ct:gy Sp w pv P) (hl:dK Sr w lv L) (hL:∀x∈L,dL P.orders x) (c4:L.length<=10000) :
  Calls Tryz.prog 214 #[pv,lv] w (fq w λw' v=>gL (λk=>k<w.heap.size) w.heap.size w' v (fD P (gi P (λx=>x∈L)))):=by
 have hP:=G.v;have dn:=hP.n6;obtain⟨vo,vp,vc,rfl,h3⟩:=ct;have bz:=fB.box h3 28;have aI:Ext w (w.alloc (.cells #[vo,vp,vc] 28)):=World.grownBy_alloc _ _ _;have bA:(w.alloc (.cells #[vo,vp,vc] 28)).heap.size=w.heap.size+1:=by simp
 obtain⟨dp,fN,fM,_,_,hc0,a7,a8,E⟩:=bz.at;simp only[Nat.zero_add] at a7 a8;obtain⟨ao,X,rfl,_,_⟩:=E.o.shape;clear bz;obtain⟨al,qi,rfl,_,_⟩:=Sl.shape hl;have bB:∀x∈L,x.length<=1000000:=λx hx=>by rw[(hL x hx).1];omega
 have HL:=Lib.hid (And.intro hL bB);clear hL bB;go_enter Tryz.func214,Tryz.ntmps214;go_wp2_with (first|(at_make;refine Bk rfl _ _ rfl w.heap.size P.orders.length (w.heap.size+1) (by simp) _ rfl rfl rfl (by omega) (by omega) ?_;intro D bC bD bE)|fail)
 have HS:=Lib.hid bA;clear bA;generalize cx:w.alloc (.cells #[vo,vp,vc] 28)=w0 at *;clear cx;have bF:=dK.ext hl aI;clear hl;have ag:w.heap.size+1<D.heap.size:=bE;refine Calls.mono (yj D _ L Sr (dK.ext bF bD) HL.out.2 (by omega)) ?_;rintro e2 w2 ⟨a9,rfl,bG,Kb⟩;have a':gL (λk=>k=w.heap.size+1) D.heap.size w2 a9 L:=Kb.TR (λk hk=>by omega);have aY:=dy bD bG;have ba:∀k,a9.ownBlock=some k->D.heap.size<=k:=λk hk=>(a'.lt k hk).1;have bH:jD w.heap.size (λk=>a9.ownBlock=some k\/k<w.heap.size) w2 (w.heap.size+1) P.orders.length (List.replicate P.orders.length []):=(bC _).ext bG;clear bC Kb bF;-- facts of the box and the orders
 have bI:∀w',Ext w0 w'->w'.cell? ⟨w.heap.size,0,none⟩=some (.slice ao P.orders.length X)/\w'.cell? ⟨w.heap.size,1,none⟩=some fN/\w'.cell? ⟨w.heap.size,2,none⟩=some fM:=λw' h=>⟨h.cell hc0 (by simp),h.cell a7 (by simp),h.cell a8 (by simp)⟩;have HB:=Lib.hid bI;clear bI hc0 a7 a8;obtain⟨Q,hQ⟩:∃Q:List Int->Prop,Q=λx=>x=zeros P.orders.length\/x∈L.reverse:=⟨_,rfl⟩
 have ah:∃R,kg P Q (gt (List.replicate P.orders.length [])) L.reverse R:=by
  rw[hQ];exact⟨_,G.IM G.Ab (λx hx=>HL.out.1 x (List.mem_reverse.1 hx))⟩
 have bJ:gi P Q=gi P (λx=>x∈L):=by
  rw[hQ,Jo];congr 1
  funext x
  simp
 have bK:=Lib.hid (And.intro ah bJ);clear ah bJ hQ;go_wp2
 go_loopg [7] (jE (List.replicate P.orders.length ([]:List Int)) P.orders.length*(P.orders.length+3)+L.length) (λgk qv wr=>∃(b q:List (List Int)),gk<=20000/\gk=jE b P.orders.length*(P.orders.length+3)+q.length/\Ext w0 wr /\
  jD w.heap.size (λk=>qv.ownBlock=some k\/k<w.heap.size) wr (w.heap.size+1) P.orders.length b/\gL (λk=>k=w.heap.size+1) D.heap.size wr qv q/\Hid (∃R,kg P Q (gt b) q.reverse R))
 case atStart=>
  have bb:jE (List.replicate P.orders.length ([]:List Int)) P.orders.length*(P.orders.length+3)+L.length<=20000:=by
   have h3:jE (List.replicate P.orders.length ([]:List Int)) P.orders.length*(P.orders.length+3)<=6*9:=Nat.mul_le_mul (by have:=I6 (List.replicate P.orders.length ([]:List Int)) P.orders.length;omega) (by omega);omega
  exact⟨_,L,bb,rfl,aY,bH,a',Lib.hid bK.out.1⟩
 case round =>
  clear bH a' ba aY;obtain⟨b,q,Rm,bc,hg,hT,hq,p⟩:=hrel;have aJ:=hT.len;obtain⟨cz,hb2,hb3⟩:=HB.out wr hg
  have cA:q=[]\/∃l y,q=l++[y]:=by
   rcases List.eq_nil_or_concat q with h|⟨l,y,h⟩
   ·exact .inl h
   ·exact .inr ⟨l,y,by rw[h,List.concat_eq_append]⟩
  rcases cA with rfl|⟨l,y,rfl⟩
  ·obtain ⟨aq,mI,rfl,_⟩:=hq.shape
   have cB:w.heap.size<=wr.heap.size:=(dy aI hg).size;have hI:Ind P (gi P Q) (gt b):=by obtain⟨R,p⟩:=p.out;exact G.IV p
   have HI:=Lib.hid hI;clear hI p;go_wp2_with fail
   refine Calls.mono (S2 P G wr _ _ b (gi P Q) Any _ ⟨_,_,_,rfl,fA.ext E hg⟩ (hT.rows (by omega)) aJ HI.out (λk=>k<w.heap.size) (λk hk=>⟨by have:=(dy aI hg).size;omega,λe=>by rcases e with e|e;omega;exact e.2 (.inr hk)⟩)) ?_;rintro eF wF ⟨vF,rfl,cC,be⟩;rw[bK.out.2] at be;obtain⟨aR,VL,rfl,_⟩:=be.shape;go_wp2;go_ret;exact⟨_,rfl,dy aI (dy hg cC),be.weak cB⟩
  ·obtain ⟨aq, mI,rfl,_⟩:=hq.shape
   obtain⟨F,aK⟩:∃F,F=l.length:=⟨_,rfl⟩;obtain⟨gq,off,u,rfl,hgB,Rn,i,aL⟩:=gL.head hq l.length (by simp);rw[kr] at aL
   have c8:F<=mI:=by
    obtain⟨vs,hvl,cD,_⟩:=hq;rcases cD with⟨h,_⟩|⟨g,o,cp,cur,hv,_,_,h1,_⟩
    ·simp at h
    ·simp only[Value.slice.injEq] at hv
     obtain⟨_,_,rfl⟩:=hv;simp at hvl;omega
   have bg:=hq.init;rw[<-aK] at i bg;have bh:(l++[y]).length=F+1:=by simp[aK]
   obtain⟨m,hm⟩:∃m,m=(l++[y]).length:=⟨_,rfl⟩;rw[<-hm] at bh bc ⊢;have bi:dL P.orders y:=by obtain⟨R,p⟩:=p.out;exact p.vec _ (p.sS _ (by simp))
   have aZ:∀d,d<P.orders.length->gt b d≠[]->T P d (gt b d)/\gt (gt b d) d=1:=by obtain⟨R,p⟩:=p.out;exact λd hd h=>(p.tab d hd h).2
   have bM:∃R,kg P Q (gt b) (y :: l.reverse) R:=by
    obtain⟨R,p⟩:=p.out;rw[List.reverse_append] at p;exact⟨R,p⟩
   obtain⟨ay,nM,bN,_,_⟩:=aL.shape;rw[bi.1] at bN;subst bN;have HY:=Lib.hid (And.intro bi (And.intro aZ (And.intro bM (And.intro aK bc))));clear bi aZ bM p aK bc;have dt:m<=20000:=by have:=HY.out.2.2.2.2;omega
   have du:(0:Int)<m:=by omega
   have cF:IntKind.i64.wrap ((m:Int)-1)=(F:Int):=by rw[show(m:Int)-1=(F:Int) by omega];exact IntWalk.i64_in _ (by omega)
   have dv:(F:Int)<m:=by omega
   have bb:(0:Int)<=F:=by omega
   have bO:=S4 wr (some ⟨gq,off,none⟩) m mI (F:Int) bb (by omega);rw[show((F:Int)).toNat=F by omega] at bO;have HM:=Lib.hid (And.intro bh hm);clear bh hm;have bP:=hT.rows (by omega);go_wp2_with fail
   refine Calls.mono (S3 P G wr _ _ _ b y Any _ _ ⟨_,_,_,rfl,fA.ext E hg⟩ bP aL HY.out.1 aJ HY.out.2.1) ?_;rintro eS wS ⟨vS,rfl,lI,d,rv,Y,rfl,aM,BC,hdn,Ea⟩;have r:=BC.vec.1;have bj:=aM.ints (by rw[r.1];omega)
   have bQ:∃R,kg P Q (gt b) (Y :: l.reverse) R:=by
    obtain⟨R,p⟩:=HY.out.2.2.1;exact BC.inv _ _ _ p
   obtain⟨ar,tQ,bR,_,_⟩:=bj.shape;rw[r.1] at bR;subst bR;have J:=dy hg lI;have bk:=bg.ext lI;have aN:jD w.heap.size (λk=>(Value.slice (some ⟨gq,off,none⟩) F mI).ownBlock=some k\/k<w.heap.size) wS (w.heap.size+1) P.orders.length b:=hT.ext lI;have bS:=Lib.hid aJ;clear hT hq bg bP aL i bO cF cz hb2 hb3 aJ;have bT:=BC.vec;have aj:=Lib.hid (And.intro bQ (And.intro bT r));clear bQ bT r BC;by_cases hd:d=P.orders.length
   ·have bU:Y=zeros P.orders.length:=T.top hP (by rw[<-hd];exact aj.out.2.1)
    have cG:Hid (∃R,kg P Q (gt b) l.reverse R):=by
     obtain⟨R,p⟩:=aj.out.1;exact Lib.hid ⟨R,IQ p bU⟩
    clear Ea bU;subst hd;go_wp2;go_roundg (gk-1)
    case measure=>have:=HY.out.2.2.2.2;omega
    case rel=>exact⟨b,l,by omega,by have:=HY.out.2.2.2.2;have:=HY.out.2.2.2.1;have:=HM.out.1;omega,J,aN,bk,cG⟩
   ·have A : d<P.orders.length:=by omega
    obtain⟨bV,bW⟩:=Ea A;clear Ea;have dw:((d:Int) == (P.orders.length:Int))=false:=by simp;omega
    have r:=aj.out.2.2;have ho:=hP.gh d A;have bX:=hP.ord d A;have cH:=r.2 d A;obtain⟨br,Kc,rfl,_,_,Ke⟩:=Ints.at bj d (by rw[r.1];exact A);obtain⟨bo,oo,rfl,_,_,gJ⟩:=Ints.at (Ints.ext E.o J) d A;have bZ:1<=gt Y d:=by omega
    have HD:=Lib.hid (And.intro bW (And.intro bX (And.intro bV hd)));clear bW bX bV hd;have dx:(0:Int)<=d:=by omega
    have da:(d:Int)<P.orders.length:=by omega
    have e1:∀w',Ext wS w'->w'.cell? ⟨w.heap.size,0,none⟩=some (.slice (some ⟨bo,oo,none⟩) P.orders.length X):=λw' h=>(HB.out w' (dy J h)).1;have e2:∀w',Ext wS w'->w'.cell? ⟨w.heap.size,1,none⟩=some fN:=λw' h=>(HB.out w' (dy J h)).2.1;have e3:∀w',Ext wS w'->w'.cell? ⟨w.heap.size,2,none⟩=some fM:=λw' h=>(HB.out w' (dy J h)).2.2;have e4:∀w',Ext wS w'->w'.cell? ⟨br,Kc+d,none⟩=some (.int .i64 (gt Y d)):=λw' h=>h.cell Ke (by simp);have e5:∀w',Ext wS w'->w'.cell? ⟨bo,oo+d,none⟩=some (.int .i64 (gt P.orders d)):=λw' h=>h.cell gJ (by simp);clear Ke gJ;go_wp2
    go_region_held3 (λw'=>Ext wS w') (first|exact fk _ _|assumption)
     (first
      | (go_at_call 258;refine Calls.mono (Calls.rel (w0:=wS) (by first|exact fk _ _|assumption) (S8 (gt Y d) (gt P.orders d) _ HD.out.2.1 bZ cH.2)) ?_;rintro eI wI ⟨vI,rfl,VM,Ro,kk,rfl,a0,VN,hkk⟩;have HK:=Lib.hid hkk;clear hkk)
      | (go_at_call 257;refine Calls.mono (Calls.rel (w0:=wS) (by assumption) (xu P G _ _ _ Y _ Any Any ⟨_,_,_,rfl,fA.ext (fA.ext E J) (by assumption)⟩ (Ints.sub (Ints.ext bj (by assumption)) (λ_ _ _=>trivial)) r (by omega))) ?_;rintro eZ wZ ⟨zv,rfl,K,VO,ak⟩))
    clear e1 e2 e3 e4 e5;rw[Bq _ _ _ a0] at ak;obtain⟨Z,hZ⟩:∃Z,Z=pw P Y kk.toNat:=⟨_,rfl⟩;rw[<-hZ] at ak;have bl:dL P.orders Z:=by rw[hZ];exact G.kf r _
    have am:Z.length=P.orders.length:=bl.1;have an:Z≠[]:=λh=>by rw[h] at am;simp at am;omega
    have b3:=dy J K;have dc:=lI.size
    have aO:Ints (λk=>k≠w.heap.size+1/\¬((Value.slice (some ⟨gq,off,none⟩) F mI).ownBlock=some k\/k<w.heap.size)) wZ zv Z:=iD ak (by omega) (λk hk=>by
     have h1:=(ak.lt k hk).1;exact⟨by omega,λe=>e.elim (λe=>by have:=ku e;omega) (λe=>by omega)⟩)
    obtain⟨az,a,b4,_,_⟩:=aO.shape;rw[am] at b4;subst b4;obtain⟨b5,M⟩:=(aN.ext K).put d aO an;obtain⟨cK,ap⟩:=(aN.ext K).at d A;have cL:wZ.cell? ⟨w.heap.size+1,d,none⟩=some (.slice none 0 0):=ap.elim (λh=>h.2) (λh=>absurd HD.out.1 h.1);have au:∀(S:Nat->Prop) k,(k≠w.heap.size+1/\S k)->k<wZ.heap.size->(k≠w.heap.size+1/\S k)/\k<(wZ.setCell ⟨w.heap.size+1,d,none⟩ (.slice az P.orders.length a)).heap.size/\(wZ.setCell ⟨w.heap.size+1,d,none⟩ (.slice az P.orders.length a)).heap[k]? = wZ.heap[k]? :=λS k hk ad=>⟨hk,Nat.lt_of_lt_of_le ad M.size,M.block k ad (λe=>hk.1 (by cases e;rfl))⟩;have b6:=Ints.sub (Ints.mono aO (au _)) (S':=λk=>k≠w.heap.size+1/\¬((Value.slice (some ⟨gq,off,none⟩) F mI).ownBlock=some k)) (λk hk _=>⟨hk.1,λe=>hk.2 (.inl e)⟩)
    have b7:Ints (λk=>k≠w.heap.size+1/\¬((Value.slice (some ⟨gq,off,none⟩) F mI).ownBlock=some k)) (wZ.setCell ⟨w.heap.size+1,d,none⟩ (.slice az P.orders.length a)) (.slice (some ⟨br,Kc,none⟩) P.orders.length tQ) Y:=Ints.mono (iD (aM.gw K) (by rw[r.1];omega) (λk hk=>by
     have h1:=((aM.gw K).lt k hk).1;exact⟨by omega,λe=>by have:=ku e;omega⟩)) (au _)
    have b8:gL (λk=>k=w.heap.size+1) D.heap.size (wZ.setCell ⟨w.heap.size+1,d,none⟩ (.slice az P.orders.length a)) (.slice (some ⟨gq,off,none⟩) F mI) l:=(bk.ext K).kept M.size (λj hj hc=>M.block j hj (λe=>by
     have e:=Option.some.inj e;subst e;rcases hc with hc|hc
     ·have:=ku hc;omega
     ·exact hc rfl)) (λ_ _ h=>h)
    have a1:Ext w0 (wZ.setCell ⟨w.heap.size+1,d,none⟩ (.slice az P.orders.length a)):=fu b3 M (λj hj ad=>by cases hj;have:=HS.out;omega);have N:∀k,(Value.slice (some ⟨gq,off,none⟩) F mI).ownBlock=some k->D.heap.size<=k:=λk hk=>by have:=ku hk;omega
    have HZ:=Lib.hid (And.intro hZ (And.intro bl (And.intro am an)));clear hZ bl am an ap aN bk ak aM aO;have dd:l.length<=20000:=by have:=HY.out.2.2.2.1;omega
    generalize cM:wZ.setCell ⟨w.heap.size+1,d,none⟩ (.slice az P.orders.length a)=w5 at *;have cN:D.heap.size<=w5.heap.size:=by have:=a1.size;have:=M.size;have:=K.size;omega
    go_wp2_with (first|(at_builtin;refine zj rfl _ _ rfl (λk=>k=w.heap.size+1) D.heap.size _ _ l Y rfl w5 b8 rfl b7 rfl (by omega) cN ?_;intro v6 w6 aP aw bm;have aa:=fu a1 aw (λj hj ad=>by have:=N j hj;have:=HS.out;omega))|fail)
    have b':=D8 b5 N ag aw bm;have bn:Ints (λk=>¬(k=w.heap.size+1)/\v6.ownBlock≠some k) w6 (.slice az P.orders.length a) Z:=Ints.mono b6 (xl (bad:=λk=>k=w.heap.size+1) aw bm);have dA:D.heap.size<=w6.heap.size:=by have:=aw.size;omega
    have O:∀k,v6.ownBlock=some k->D.heap.size<=k:=λk hk=>(aP.lt k hk).1;clear cM au b5 M b6 b7 b8 aw bm cK cL N;have ca:dL P.orders (pw P Z (gt P.orders d).toNat):=G.kf HZ.out.2.1 _;have cb:(pw P Z (gt P.orders d).toNat).length<=6:=by rw[ca.1];omega
    have cc:iT P Z (gt P.orders d)=pw P Z (gt P.orders d).toNat:=Bq _ _ _ (by omega);have cd:=Lib.hid (And.intro cb cc);clear cb cc ca;have e1:∀w',Ext w0 w'->w'.cell? ⟨w.heap.size,0,none⟩=some (.slice (some ⟨bo,oo,none⟩) P.orders.length X):=λw' h=>(HB.out w' h).1;have e2:∀w',Ext w0 w'->w'.cell? ⟨w.heap.size,1,none⟩=some fN:=λw' h=>(HB.out w' h).2.1;have e3:∀w',Ext w0 w'->w'.cell? ⟨w.heap.size,2,none⟩=some fM:=λw' h=>(HB.out w' h).2.2;obtain⟨_,_,ce,_,_,gJ⟩:=Ints.at E.o d A;have e5:∀w',Ext w0 w'->w'.cell? ⟨bo,oo+d,none⟩=some (.int .i64 (gt P.orders d)):=λw' h=>h.cell (by cases ce;exact gJ) (by simp);clear gJ ce
    go_region_held3 (λw'=>Ext w0 w') (first|exact dy aa (fk _ _)|assumption|exact dy a3 (World.grownBy_alloc _ _ _))
     (first
      | (go_at_call 257;refine Calls.mono (Calls.jF (w0:=w6) (fk _ _) (xu P G _ _ _ Z (gt P.orders d) Any _ ⟨_,_,_,rfl,fA.ext E (dy aa (fk _ _))⟩ (bn.ext (fk _ _)) HZ.out.2.1 (by omega))) ?_;rintro eT wT ⟨vT,rfl,C,VP,Rp,aQ⟩;have a3:=dy aa C;rw[cd.out.2] at aQ;have bp:Ints (λk=>¬(k=w.heap.size+1)/\v6.ownBlock≠some k) wT vT (pw P Z (gt P.orders d).toNat):=iD aQ (by have:=cd.out.1;omega) (λk hk=>by
        have h1:=(aQ.lt k hk).1;have h3:=aa.size;exact⟨by omega,λe=>by have:=(aP.lt k e).2;omega⟩);obtain⟨aT,Rq,DT,_,_⟩:=bp.shape;subst DT)
      | (refine Aq rfl _ _ rfl (λk=>k=w.heap.size+1) D.heap.size v6 _ (l++[Y]) _ rfl wT (aP.ext C) rfl bp rfl (by simp;omega) (by have:=C.size;omega) ?_;intro v7 w7 bq ax bs;have cf:=fu a3 ax (λj hj ad=>by have:=O j hj;have:=HS.out;omega)))
    clear e1 e2 e3 e5;have cP:D.heap.size<=w7.heap.size:=by have:=ax.size;have:=C.size;omega
    have cg:=D8 (b'.ext C) O ag ax bs;have ch:Ints (λk=>¬(k=w.heap.size+1)/\v7.ownBlock≠some k) w7 (.slice az P.orders.length a) Z:=Ints.mono (bn.ext C) (xl (bad:=λk=>k=w.heap.size+1) ax bs);obtain⟨T1,aA⟩:∃T1,T1=pw P Z (gt P.orders d).toNat:=⟨_,rfl⟩;rw[<-aA] at bq;have cQ:=Lib.hid aA;clear aA aP b' bn O bp aQ ax bs;go_wp2
    go_loopw [7,12] (λqv ev aB=>∃(e:Nat) (v8:Value),v8=qv/\ev=.int .i64 e/\e<=P.orders.length/\D.heap.size<=aB.heap.size/\Ext w0 aB/\jD w.heap.size (λj=>v8.ownBlock=some j\/j<w.heap.size) aB (w.heap.size+1) P.orders.length (b.set d Z) /\
     gL (λk=>k=w.heap.size+1) D.heap.size aB v8 (l++[Y]++[T1]++kj P b Z e)/\Ints (λj=>¬(j=w.heap.size+1)/\v8.ownBlock≠some j) aB (.slice az P.orders.length a) Z) (λ_ ev _=>P.orders.length-(intOf ev).toNat)
    case atStart=>exact⟨0,v7,rfl,rfl,by omega,cP,cf,cg,by simpa [kj] using bq,ch⟩
    case round=>
     obtain⟨e,v8,rfl,rfl,he,Kf,H,U,V,ae⟩:=hrel;clear cg bq ch;have W:∀j,v8.ownBlock=some j->D.heap.size<=j:=λj hj=>(V.lt j hj).1;by_cases ci:e<P.orders.length
     ·have dC:(e:Int)<P.orders.length:=by omega
      have dD:(0:Int)<=e:=by omega
      by_cases aD:e=d
      ·have I:kj P b Z (e+1)=kj P b Z e:=by simp only[kj];rw[if_pos (by rw[aD];exact HD.out.1),List.append_nil]
       have cR:((e:Int) != (d:Int))=false:=by simp[aD]
       have HC:=Lib.hid I;clear I aD;go_wp2;go_roundw
       case rel=>exact⟨e+1,v8,rfl,by go_num,by omega,Kf,H,U,by rw[HC.out];exact V,ae⟩
       case measure=>simp[intOf];omega
      ·have cR:((e:Int) != (d:Int))=true:=by simp;omega
       have cj:gt (b.set d Z) e=gt b e:=iy _ _ _ _ (λh=>aD h.symm);obtain⟨_,ap⟩:=U.at e ci;rw[cj] at ap;clear cj aD;rcases ap with⟨h0,i⟩|⟨aU,ab,ck,i,cS⟩
       ·have I:kj P b Z (e+1)=kj P b Z e:=by simp only[kj];rw[if_pos h0,List.append_nil]
        have HC:=Lib.hid I;clear I h0;go_wp2;go_roundw
        case rel=>exact⟨e+1,v8,rfl,by go_num,by omega,Kf,H,U,by rw[HC.out];exact V,ae⟩
        case measure=>simp[intOf];omega
       ·have I:kj P b Z (e+1)=kj P b Z e++[oO P Z (gt b e)]:=by simp only[kj];rw[if_neg aU]
        have aV:=(HY.out.2.1 e ci aU).1.1;have cm:dL P.orders (oO P Z (gt b e)):=G.gz (G.invV (G.gz aV HZ.out.2.1)) (G.gz HZ.out.2.1 aV)
        have dF:(0:Int)<(gt b e).length:=by
         have:0<(gt b e).length:=List.length_pos_iff.2 aU;omega
        have aW:=Jq P b Z e;have HC:=Lib.hid (And.intro I (And.intro aV (And.intro cm aW)));clear I aV cm aW aU;have ac:w.heap.size+1<wr.heap.size:=by have:=U.lt;omega
        go_wp2;have e1:∀w',rN w0 wr (w.heap.size+1) w'->w'.cell? ⟨w.heap.size,0,none⟩=some (.slice (some ⟨bo,oo,none⟩) P.orders.length X):=λw' h=>(HB.out w' h.1).1;have e2:∀w',rN w0 wr (w.heap.size+1) w'->w'.cell? ⟨w.heap.size,1,none⟩=some fN:=λw' h=>(HB.out w' h.1).2.1;have e3:∀w',rN w0 wr (w.heap.size+1) w'->w'.cell? ⟨w.heap.size,2,none⟩=some fM:=λw' h=>(HB.out w' h.1).2.2;have e4:∀w',rN w0 wr (w.heap.size+1) w'->w'.cell? ⟨w.heap.size+1,e,none⟩=some (.slice (some ab) (gt b e).length ck):=λw' h=>h.cell i;clear i
        go_region_held3 (λw'=>rN w0 wr (w.heap.size+1) w') (first|exact D9 H ac (fk _ _)|assumption|exact D9 H ac B|exact D9 H ac (dy B (World.grownBy_alloc _ _ _)))
         (first
          | (go_at_call 259;refine Calls.mono (Calls.jF (w0:=wr) (fk _ _) (S5 P G _ _ _ _ Z (gt b e) Any _ _ ⟨_,_,_,rfl,fA.ext E (dy H (fk _ _))⟩ (ae.ext (fk _ _)) (Ints.ext cS (fk _ _)) HZ.out.2.1 HC.out.2.1)) ?_;rintro eC wC ⟨vC,rfl,B,VQ,xY,bt⟩;have bu:Ints (λk=>¬(k=w.heap.size+1)/\v8.ownBlock≠some k) wC vC (oO P Z (gt b e)):=iD bt (by rw[HC.out.2.2.1.1];omega) (λk hk=>by
            have h1:=(bt.lt k hk).1;exact⟨by omega,λe=>by have:=(V.lt k e).2;omega⟩);obtain⟨aC,Ap,p8,_,_⟩:=bu.shape;subst p8)
          | (refine Aq rfl _ _ rfl (λk=>k=w.heap.size+1) D.heap.size v8 _ (l++[Y]++[T1]++kj P b Z e) _ rfl wC (V.ext B) rfl bu rfl (by have:=HC.out.2.2.2;simp;omega) (by have:=B.size;omega) ?_;intro v9 w9 cU af bv;have cV:rN w0 wr (w.heap.size+1) w9:=⟨fu (dy H B) af (λj hj ad=>by have:=W j hj;have:=HS.out;omega),(af.block _ (by have:=B.size;omega) (λe=>by have:=W _ e.symm;omega)).trans (B.block _ ac (by simp))⟩))
        clear e1 e2 e3 e4;have cW:D.heap.size<=w9.heap.size:=by have:=af.size;have:=B.size;omega
        have cX:=D8 (U.ext B) W ag af bv;have cY:Ints (λk=>¬(k=w.heap.size+1)/\v9.ownBlock≠some k) w9 (.slice az P.orders.length a) Z:=Ints.mono (ae.ext B) (xl (bad:=λk=>k=w.heap.size+1) af bv);clear V U ae af bv bu bt;go_wp2;go_roundw
        case rel=>exact⟨e+1,v9,rfl,by go_num,by omega,cW,cV.1,cX,by rw[HC.out.1,<-List.append_assoc];exact cU,cY⟩
        case measure=>simp[intOf];omega
     ·have cZ:e=P.orders.length:=by omega
      subst cZ;have aX:=I7 (b:=b) (z:=Z) HD.out.1 HZ.out.2.2.2 P.orders.length (by rw[bS.out];exact Nat.le_refl _);rw[if_pos A] at aX;have aW:=Jq P b Z P.orders.length;have cn:(l++[Y]++[T1]++kj P b Z P.orders.length).length<=l.length+2+P.orders.length:=by simp;omega
      have a5:jE b P.orders.length*(P.orders.length+3)=jE (b.set d Z) P.orders.length*(P.orders.length+3)+(P.orders.length+3):=by rw[<-aX,Nat.add_mul,Nat.one_mul]
      have c0:Hid (∃R,kg P Q (gt (b.set d Z)) (l++[Y]++[T1]++kj P b Z P.orders.length).reverse R):=by
       obtain⟨R,p⟩:=aj.out.1
       have ah:=G.RA (q':=(l++[Y]++[T1]++kj P b Z P.orders.length).reverse) p A aj.out.2.1 HD.out.1 bS.out kk a0 HK.out (λx=>by
        rw[<-HZ.out.1,<-cQ.out];simp only[List.mem_reverse,List.mem_append,List.mem_singleton,or_assoc])
       rw[<-HZ.out.1] at ah;exact Lib.hid ah
      have a6:jE (b.set d Z) P.orders.length*(P.orders.length+3)+(l++[Y]++[T1]++kj P b Z P.orders.length).length<gk:=by
       have:=HY.out.2.2.2.2;have:=HY.out.2.2.2.1;have:=HM.out.1;omega
      have HX:=Lib.hid (And.intro cn (And.intro a6 (And.intro a5 aX)));clear cn a5 aX a6 aW ae;go_wp2;go_roundg (jE (b.set d Z) P.orders.length*(P.orders.length+3)+(l++[Y]++[T1]++kj P b Z P.orders.length).length)
      case measure=>exact HX.out.2.1
      case rel=>exact⟨b.set d Z,_,by have:=HX.out.2.1;omega,rfl,H,U,V,c0⟩
theorem FL (P:Pr) (G:ez P) (w:World) (pv lv:Value) (L:List (List Int)) (e i:Nat->Prop) (b:gy e w pv P) (j:dK i w lv L) (k:∀x∈L,dL P.orders x) (a:L.length<=10000) :
  Calls Tryz.prog 214 #[pv,lv] w (fq w λw' v=>dK Any w' v (fD P (gi P (λx=>x∈L)))):=
 (TS P G w pv lv L e i b j k a).mono (λ_ _ ⟨v,he,hg,h⟩=>⟨v,he,hg,h.rows⟩)
theorem TT (o e:List Int):nE o e (-1)=nD o e:=by
 unfold nE nD;congr 1
 congr 1
 funext i
 have:decide ((i:Int) <= -1)=false:=by simp;omega
 rw[this];simp
theorem Kg (P:Pr) (hP:Valid P) (w:World) (pv m:Value) (X:List Int) (q p:Nat->Prop) (e:gy q w pv P) (hx:Ints p w m X) :
  Calls Tryz.prog 130 #[pv,m] w (fq w λ_ v=>v=.bool (nD P.orders X)):=by
 obtain⟨vo,vp,vc,rfl,h3⟩:=e;have j:=fB.box h3 28;have b:Ext w (w.alloc (.cells #[vo,vp,vc] 28)):=World.grownBy_alloc _ _ _;have k:=hx.ext b;obtain⟨u,iA,gJ,l⟩:=j.iO;obtain⟨y,l6,rfl,_,_⟩:=hx.shape;have a:=uA _ _ _ P.orders X (-1) Any p l k (λi r=>by have:=hP.gh i r;omega);rw[TT] at a;go_enter Tryz.func130,Tryz.ntmps130;go_wp2_with fail
 refine Calls.mono a ?_;rintro z A ⟨rfl,hd⟩;clear a;go_wp2;go_ret;exact⟨_,rfl,dy b hd.ext,rfl⟩
theorem TU (P:Pr) (hP:Valid P) (w:World) (pv lv:Value) (L:List (List Int)) (U V:Nat->Prop) (E:gy U w pv P) (q:dK V w lv L) :
  Calls Tryz.prog 253 #[pv,lv] w (fq w λ_ v=>∃r:Bool,v=.bool r/\(r=true↔∀x∈L,dL P.orders x)):=by
 obtain⟨vo,vp,vc,rfl,h3⟩:=E;have u:=fB.box h3 28;have k:Ext w (w.alloc (.cells #[vo,vp,vc] 28)):=World.grownBy_alloc _ _ _;have F:=dK.ext q k;obtain⟨al,qi,rfl,_,_⟩:=Sl.shape q;obtain⟨G,fN,fM,_,_,H,y,z,A⟩:=u.at;simp only[Nat.zero_add] at y z;clear u q;go_enter Tryz.func253,Tryz.ntmps253;go_wp2;generalize I:w.alloc (.cells #[vo,vp,vc] 28)=w0 at *;clear I;go_loopw [5] (λJ wr=>∃i:Nat,J=.int .i64 i/\i<=L.length/\Ext w0 wr/\Hid (∀j,j<i->dL P.orders (gt L j))) (λJ _=>L.length-(intOf J).toNat)
 case atStart=>exact⟨0,rfl,by omega,Ext.refl _,Lib.hid (λj h=>by omega)⟩
 case round=>
  obtain⟨i,rfl,hi,e,hV⟩:=hrel;by_cases B:i<L.length
  ·have N:(i:Int)<L.length:=by omega
   obtain⟨b,off,a2,C,rfl,_,_,hc,O⟩:=dK.at (dK.ext F e) i B;have Q:∀w',Ext wr w'->w'.cell? ⟨w.heap.size,0,none⟩=some G:=λw' h=>(dy e h).cell H (by simp);have R:∀w',Ext wr w'->w'.cell? ⟨w.heap.size,1,none⟩=some fN:=λw' h=>(dy e h).cell y (by simp);have S:∀w',Ext wr w'->w'.cell? ⟨w.heap.size,2,none⟩=some fM:=λw' h=>(dy e h).cell z (by simp);have T:∀w',Ext wr w'->w'.cell? ⟨b,off+i,none⟩=some (.slice a2 (gt L i).length C):=λw' h=>h.cell hc (by simp);clear hc;cases hx:nD P.orders (gt L i) with
   | true=>
    have K:=Lib.hid (uD.1 hx);have m:=Lib.hid hx;clear hx;go_wp2
    go_region_held3 (λw'=>Ext wr w') (first|exact fk _ _|assumption)
     (first
      | (go_at_call 130;refine Calls.mono (Calls.rel (w0:=wr) (by assumption) (Kg P hP _ _ _ (gt L i) Any Any ⟨_,_,_,rfl,fA.ext (fA.ext A e) (by assumption)⟩ (Ints.sub (Ints.ext O (by assumption)) (λ_ _ _=>trivial)))) ?_;rintro W X ⟨Y,rfl,p,iZ,a⟩;rw[m.out] at a;subst a))
    clear Q R S T;go_wp2;go_roundw
    case rel=>exact⟨i+1,by go_num,by omega,dy e p,Lib.hid (λj Z=>by
     rcases Nat.lt_succ_iff_lt_or_eq.1 Z with h|h
     ·exact hV.out j h
     ·rw[h];exact K.out)⟩
    case measure=>simp[intOf];omega
   | false=>
    have D:¬ ∀x∈L,dL P.orders x:=λh=>by
     have:=uD.2 (h _ (fT B));rw[hx] at this;cases this
    have K:=Lib.hid D;have m:=Lib.hid hx;clear hx D;go_wp2
    go_region_held3 (λw'=>Ext wr w') (first|exact fk _ _|assumption)
     (first
      | (go_at_call 130;refine Calls.mono (Calls.rel (w0:=wr) (by assumption) (Kg P hP _ _ _ (gt L i) Any Any ⟨_,_,_,rfl,fA.ext (fA.ext A e) (by assumption)⟩ (Ints.sub (Ints.ext O (by assumption)) (λ_ _ _=>trivial)))) ?_;rintro W X ⟨Y,rfl,p,iZ,a⟩;rw[m.out] at a;subst a))
    clear Q R S T;go_wp2;go_ret;exact⟨_,rfl,dy k (dy e p),false,rfl,by simp only[Bool.false_eq_true,false_iff];exact K.out⟩
  ·have M:i=L.length:=by omega
   subst M;go_wp2;go_ret
   exact ⟨_,rfl,dy k e,true,rfl,by
    simp only[true_iff];intro x hx;obtain⟨l,q,rfl⟩:=List.getElem_of_mem hx;rw[<-gM L l q];exact hV.out l q⟩
theorem Kh (v1 A:Value) (j l:List (List Int)) (w:World) (H I:Nat->Prop) (h1:dK H w v1 j) (B:dK I w A l) :
  Calls Tryz.prog 232 #[v1,A] w (fq w λ_ v=>v=.bool (jk j l)):=by
 obtain⟨a,cap,rfl,_,_⟩:=Sl.shape h1;obtain⟨a2,jx,rfl,_,_⟩:=Sl.shape B;by_cases p:j.length=l.length
 ·have J:((j.length:Int) != (l.length:Int))=false:=by simp[p]
  have K:j.length<=l.length/\l.length<=j.length:=by omega
  have y:=Lib.hid p;clear p;go_enter Tryz.func232,Tryz.ntmps232;go_wp2;go_loopw [5] (λi wr=>∃k:Nat,i=.int .i64 k/\k<=j.length/\Ext w wr/\∀i,i<k->gt j i=gt l i) (λi _=>j.length-(intOf i).toNat)
  case atStart=>exact⟨0,rfl,by omega,Ext.refl _,λi C=>by omega⟩
  case round=>
   obtain⟨k,rfl,hk,q,hz⟩:=hrel;have D:=Lib.hid hz;clear hz;by_cases z:k<j.length
   ·obtain ⟨b,off,L,c1,rfl,_,_,hc,r⟩:=dK.at (dK.ext h1 q) k z
    obtain⟨b2,off2,M,c2,rfl,_,_,hc2,u⟩:=dK.at (dK.ext B q) k (by omega);have E:∀w',Ext wr w'->w'.cell? ⟨b,off+k,none⟩=some (.slice L (gt j k).length c1):=λw' h=>h.cell hc (by simp);have F:∀w',Ext wr w'->w'.cell? ⟨b2,off2+k,none⟩=some (.slice M (gt l k).length c2):=λw' h=>h.cell hc2 (by simp);clear hc hc2;have G:k<l.length:=by omega
    go_wp2;cases hx:jk (gt j k) (gt l k) with
    | true=>
     have m:=Lib.hid hx
     go_region_held3 (λw'=>Ext wr w') (first|exact fk _ _|assumption)
      (first
       | (go_at_call 275;refine Calls.mono (Calls.rel (w0:=wr) (by assumption) (qA _ _ _ _ _ Any Any (Ints.sub (Ints.ext r (by assumption)) (λ_ _ _=>trivial)) (Ints.sub (Ints.ext u (by assumption)) (λ_ _ _=>trivial)))) ?_;rintro N O ⟨Q,rfl,gK,iZ,rfl⟩))
     clear E F;go_wp2;go_roundw
     case rel=>exact⟨k+1,by go_num,by omega,dy q gK,λi C=>by
      rcases Nat.lt_or_ge i k with h1|h1
      ·exact D.out i h1
      ·have:i=k:=by omega
       rw[this];exact kC.1 m.out⟩
     case measure=>simp[intOf];omega
    | false=>
     have m:=Lib.hid hx
     go_region_held3 (λw'=>Ext wr w') (first|exact fk _ _|assumption)
      (first
       | (go_at_call 275;refine Calls.mono (Calls.rel (w0:=wr) (by assumption) (qA _ _ _ _ _ Any Any (Ints.sub (Ints.ext r (by assumption)) (λ_ _ _=>trivial)) (Ints.sub (Ints.ext u (by assumption)) (λ_ _ _=>trivial)))) ?_;rintro N O ⟨Q,rfl,gK,iZ,rfl⟩))
     clear E F;go_wp2;go_ret;exact⟨_,rfl,dy q gK,by rw[uy (hx:=lu.1 m.out)];rfl⟩
   ·go_wp2
    go_ret;exact⟨_,rfl,q,by rw[kC.2 (mg y.out (λi C=>D.out i (by omega)))];rfl⟩
 ·have J:((j.length:Int) != (l.length:Int))=true:=by simp;omega
  have y:=Lib.hid p;clear p;go_enter Tryz.func232,Tryz.ntmps232;go_wp2;go_ret;exact⟨_,rfl,Ext.refl _,by rw[lu.2 (λe=>y.out (by rw[e]))];rfl⟩
theorem TV {P:Pr}(G:ez P) (u:List (List Int)):fO P u↔u.length<=P.orders.length/\(∀x∈u,dL P.orders x)/\fD P (gi P (λx=>x∈u))=u:=
 ⟨λh=>⟨G.lz h,h.1,h.2.symm⟩,λh=>⟨h.2.1,h.2.2.symm⟩⟩
theorem Ki (P:Pr) (G:ez P) (w:World) (pv K:Value) (U:List (List Int)) (N u:Nat->Prop) (y:gy N w pv P) (z:dK u w K U) :
  Calls Tryz.prog 210 #[pv,K] w (fq w λ_ v=>∃r:Bool,v=.bool r/\(r=true↔fO P U)):=by
 have hP:=G.v;have O:=hP.n6;obtain⟨vo,vp,vc,rfl,h3⟩:=y;have m:=fB.box h3 28;have i:Ext w (w.alloc (.cells #[vo,vp,vc] 28)):=World.grownBy_alloc _ _ _;obtain⟨Q,fN,fM,_,_,hc0,j,k,fP⟩:=m.at;simp only[Nat.zero_add] at j k;obtain⟨T,iA,rfl,_,_⟩:=fP.o.shape;have l:=dK.ext z i;obtain⟨V,jA,rfl,_,_⟩:=Sl.shape z;clear m z;have a:=TV G U;go_enter Tryz.func210,Tryz.ntmps210;by_cases A:U.length<=P.orders.length
 ·have B:(U.length:Int)<=P.orders.length:=by omega
  have L:=TU P hP (w.alloc (.cells #[vo,vp,vc] 28)) _ _ U Any u ⟨_,_,_,rfl,fP⟩ l;go_wp2_with fail
  generalize C:w.alloc (.cells #[vo,vp,vc] 28)=w0 at *;clear C;refine Calls.mono L ?_;rintro W R ⟨v1,rfl,b,r1,rfl,hr1⟩;clear L;have D:=b.cell hc0 (by simp);have E:=b.cell j (by simp);have F:=b.cell k (by simp);cases r1 with
  | false=>
   have e:¬fO P U:=λh=>by have:=hr1.2 (a.1 h).2.1;cases this
   have H:=Lib.hid e;clear e a hr1 hc0 j k;go_wp2;go_ret;exact⟨_,rfl,dy i b,false,rfl,by simp only[Bool.false_eq_true,false_iff];exact H.out⟩
  | true=>
   have M:=hr1.1 rfl;have I:=Lib.hid (And.intro a M);clear a M hr1 hc0 j k;go_wp2_with fail
   clear D E F;refine Calls.mono (FL P G R _ _ U Any u ⟨_,_,_,rfl,fA.ext fP b⟩ (dK.ext l b) I.out.2 (by omega)) ?_;rintro X S ⟨Y,rfl,p,q⟩;obtain⟨a2,jx,rfl,_,_⟩:=Sl.shape q;go_wp2_with fail
   refine Calls.mono (Kh _ _ _ U S _ _ q (dK.ext (dK.ext l b) p)) ?_;rintro Z w3 ⟨v3,rfl,J,rfl⟩;go_wp2;go_ret
   exact ⟨_,rfl,dy i (dy b (dy p J)),_,rfl,by
    rw[kC,I.out.1];exact⟨λh=>⟨A,I.out.2,h⟩,λh=>h.2.2⟩⟩
 ·have B:¬(U.length:Int)<=P.orders.length:=by omega
  have e:¬fO P U:=λh=>A (a.1 h).1;have H:=Lib.hid e;clear e a A;go_wp2;go_ret;exact⟨_,rfl,i,.inl ⟨rfl,H.out⟩⟩
theorem TW (P:Pr) (w:World) (pv C:Value) (U:List (List Int)) (F D:Nat->Prop) (l:gy F w pv P) (m:dK D w C U) :
  Calls Tryz.prog 209 #[pv,C] w (fq w λ_ v=>∃r:Bool,v=.bool r/\(r=true↔jH P=true/\fO P U)):=by
 obtain⟨vo,vp,vc,rfl,h3⟩:=l;have j:=fB.box h3 28;have b:Ext w (w.alloc (.cells #[vo,vp,vc] 28)):=World.grownBy_alloc _ _ _;obtain⟨H,fN,fM,_,_,hc0,e,i,fP⟩:=j.at;simp only[Nat.zero_add] at e i;have p:=dK.ext m b;obtain⟨J,jA,rfl,_,_⟩:=Sl.shape m;clear j m;have E:=EN P (w.alloc (.cells #[vo,vp,vc] 28)) _ Any ⟨_,_,_,rfl,fP⟩;go_enter Tryz.func209,Tryz.ntmps209;go_wp2_with fail
 generalize q:w.alloc (.cells #[vo,vp,vc] 28)=w0 at *;clear q;refine Calls.mono E ?_;rintro K I ⟨v1,rfl,a,rfl⟩;clear E;have u:=a.cell hc0 (by simp);have y:=a.cell e (by simp);have z:=a.cell i (by simp);clear hc0 e i;cases hr:jH P with
 | false=>
  have A:=Lib.hid hr;clear hr;go_wp2;go_ret;exact⟨_,rfl,dy b a,false,rfl,by simp only[Bool.false_eq_true,false_iff];rintro⟨h,_⟩;rw[A.out] at h;exact Bool.noConfusion h⟩
 | true=>
  have G:=lZ hr;have A:=Lib.hid hr;clear hr;go_wp2_with fail
  clear u y z;refine Calls.mono (Ki P G I _ _ U Any D ⟨_,_,_,rfl,fA.ext fP a⟩ (dK.ext p a)) ?_;rintro L M ⟨N,rfl,B,r2,rfl,hr2⟩;have k:=Lib.hid hr2;clear hr2;go_wp2;go_ret;exact⟨_,rfl,dy b (dy a B),r2,rfl,⟨λh=>⟨A.out,k.out.1 h⟩,λh=>k.out.2 h.2⟩⟩
theorem OY (P:Pr) (w:World) (pv F H:Value) (U V:List (List Int)) (M I J:Nat->Prop) (l:gy M w pv P) (m:dK I w F U) (p:dK J w H V) :
  Calls Tryz.prog 154 #[pv,F,H] w (fq w λ_ v=>∃r:Bool,v=.bool r/\(r=true↔jH P=true/\fO P U/\fO P V)):=by
 obtain⟨vo,vp,vc,rfl,h3⟩:=l;have j:=fB.box h3 28;have b:Ext w (w.alloc (.cells #[vo,vp,vc] 28)):=World.grownBy_alloc _ _ _;obtain⟨N,fN,fM,_,_,hc0,e,i,fP⟩:=j.at;simp only[Nat.zero_add] at e i;have q:=dK.ext m b;have u:=dK.ext p b;obtain⟨Q,jA,rfl,_,_⟩:=Sl.shape m;obtain⟨R,pE,rfl,_,_⟩:=Sl.shape p;clear j m p;have K:=TW P (w.alloc (.cells #[vo,vp,vc] 28)) _ _ U Any I ⟨_,_,_,rfl,fP⟩ q;go_enter Tryz.func154,Tryz.ntmps154;go_wp2_with fail
 generalize y:w.alloc (.cells #[vo,vp,vc] 28)=w0 at *;clear y;refine Calls.mono K ?_;rintro S O ⟨v1,rfl,a,r1,rfl,hr1⟩;clear K;have z:=a.cell hc0 (by simp);have A:=a.cell e (by simp);have B:=a.cell i (by simp);clear hc0 e i;cases r1 with
 | false=>
  have k:=Lib.hid hr1;clear hr1;go_wp2;go_ret
  exact ⟨_,rfl,dy b a,false,rfl,by
   simp only[Bool.false_eq_true,false_iff];rintro⟨h,h2,_⟩;have:=k.out.2 ⟨h,h2⟩;cases this⟩
 | true=>
  obtain⟨C,L⟩:=hr1.1 rfl;have G:=lZ C;have k:=Lib.hid (And.intro C L);clear C L hr1;go_wp2_with fail
  clear z A B;refine Calls.mono (Ki P G O _ _ V Any J ⟨_,_,_,rfl,fA.ext fP a⟩ (dK.ext u a)) ?_;rintro T W ⟨X,rfl,D,r2,rfl,hr2⟩;have E:=Lib.hid hr2;clear hr2;go_wp2;go_ret;exact⟨_,rfl,dy b (dy a D),r2,rfl,by rw[E.out];exact⟨λh=>⟨k.out.1,k.out.2,h⟩,λh=>h.2.2⟩⟩
theorem TX (P:Pr) (L:List (List (List Int))) (u:List (List Int)):Ins P L u 0 [] false:=
 ⟨λj a=>by omega,λ_=>⟨by simp,λj a=>by omega⟩,λh=>by cases h⟩
theorem Eb {P:Pr}{L:List (List (List Int))}{u:List (List Int)}{k:Nat}{out:List (List (List Int))}{b:Bool}(I:Ins P L u k out b) (a:gt L k≠u):∀j,j<k+1->gt L j≠u:=λj e=>by
 rcases Nat.lt_succ_iff_lt_or_eq.1 e with h|h
 ·exact I.new j h
 ·subst h;exact a
theorem TY {P:Pr}{L:List (List (List Int))}{u:List (List Int)}{k:Nat}{out:List (List (List Int))}(I:Ins P L u k out false) (hk:k<L.length) (a:gt L k≠u) (h:¬iP P u (gt L k)):Ins P L u (k+1) (out++[gt L k]) false:=by
 refine⟨Eb I a,λ_ => ?_,λh=>by cases h⟩;obtain⟨h1,h2⟩:=I.no rfl;refine⟨by rw[je L k hk,h1],λj e => ?_⟩;rcases Nat.lt_succ_iff_lt_or_eq.1 e with b|b
 ·exact h2 j b
 ·subst b;exact h
theorem TZ {P:Pr}{L:List (List (List Int))}{u:List (List Int)}{k:Nat}{out:List (List (List Int))}(I:Ins P L u k out false) (hk:k<L.length) (a:gt L k≠u) (h:iP P u (gt L k)):Ins P L u (k+1) (out++[u]++[gt L k]) true:=by
 refine⟨Eb I a,(λh=>by cases h),λ_ => ?_⟩;obtain⟨h1,h2⟩:=I.no rfl;refine⟨k,by omega,?_,h,h2⟩
 have b:(L.take (k+1)).drop k=[gt L k]:=by
  rw[je L k hk];have:k=(L.take k).length:=by rw[List.length_take];omega
  rw[List.drop_append_of_le_length (by omega),List.drop_of_length_le (by omega)];rfl
 rw[b,h1];simp
theorem T2 {P:Pr}{L:List (List (List Int))}{u:List (List Int)}{k:Nat}{out:List (List (List Int))}(I:Ins P L u k out true) (hk:k<L.length) (a:gt L k≠u):Ins P L u (k+1) (out++[gt L k]) true:=by
 refine⟨Eb I a,(λh=>by cases h),λ_ => ?_⟩;obtain⟨p,h1,h2,h3,h4⟩:=I.yes rfl;refine⟨p,by omega,?_,h3,h4⟩
 have b:(L.take (k+1)).drop p=(L.take k).drop p++[gt L k]:=by
  rw[je L k hk,List.drop_append_of_le_length (by rw[List.length_take];omega)]
 rw[b,h2];simp
set_option linter.unusedSimpArgs false in
theorem EA (P:Pr) (G:ez P) (w:World) (pv lv uv:Value) (L:List (List (List Int))) (u:List (List Int)) (Sp S:Nat->Prop) (aI:gy Sp w pv P) (hl:fU S w lv L) (hu:dK S w uv u) (hL:∀v∈L,fO P v) (aj:fO P u) (E:L.Pairwise (iP P)) (a8:L.length<=100000) :
  Calls Tryz.prog 185 #[pv,lv,uv] w (fq w λw' r=>∃R:List (List (List Int)),R.Pairwise (iP P)/\(∀v,v∈R↔v∈L\/v=u)/\R.length<=L.length+1/\fU (λk=>S k\/w.heap.size<=k) w' r R):=by
 have hP:=G.v;have bd:=hP.n6;obtain⟨vo,vp,vc,rfl,h3⟩:=aI;have ak:=fB.box h3 28;have l:Ext w (w.alloc (.cells #[vo,vp,vc] 28)):=World.grownBy_alloc _ _ _;have am:(w.alloc (.cells #[vo,vp,vc] 28)).heap.size=w.heap.size+1:=by simp
 obtain⟨W,fN,fM,_,_,hc0,X,Y,fP⟩:=ak.at;simp only[Nat.zero_add] at X Y;have an:∀w',Ext (w.alloc (.cells #[vo,vp,vc] 28)) w'->w'.cell? ⟨w.heap.size,0,none⟩=some W/\w'.cell? ⟨w.heap.size,1,none⟩=some fN/\w'.cell? ⟨w.heap.size,2,none⟩=some fM:=λw' h=>⟨h.cell hc0 (by simp),h.cell X (by simp),h.cell Y (by simp)⟩
 have Q:∀v,fO P v->iY P v/\v.length<=100:=λv h1=>by
  have h2:=(G.iV (G.gG h1)).1;rw[<-h1.2] at h2;have:=G.lz h1;exact⟨h2,by omega⟩
 have q:=Lib.hid (And.intro an (And.intro am (And.intro Q (And.intro hL aj))));clear an am Q hL aj ak;obtain⟨al,qi,rfl,_,_⟩:=Sl.shape hl;obtain⟨au,F,rfl,_,_⟩:=Sl.shape hu;have aM:=dK.ext hu l;go_enter Tryz.func185,Tryz.ntmps185;go_wp2;clear hc0 X Y;generalize aN:w.alloc (.cells #[vo,vp,vc] 28)=w0 at *;clear aN;go_loopw [7,8,9] (λov bv iv wr=>∃(i:Nat) (pR:Bool) (out:List (List (List Int))) (v7:Value),v7=ov/\bv=.bool pR/\iv=.int .i64 i/\i<=L.length/\out.length<=i+1/\Ext w0 wr/\kK S w0.heap.size wr v7 out/\Hid (Ins P L u i out pR)) (λ_ _ iv _=>L.length-(intOf iv).toNat)
 case atStart=>exact⟨0,false,[],_,rfl,rfl,rfl,by omega,by simp,World.grownBy_alloc _ _ _,by rw[<-q.out.2.1];exact kK.EP _ _ _ (Nat.le_refl _),Lib.hid (TX P L u)⟩
 case round=>
  obtain⟨i,pR,out,v7,rfl,rfl,rfl,hi,vJ,C,hO,K⟩:=hrel;by_cases a:i<L.length
  ·have a9:(i:Int)<L.length:=by omega
   obtain⟨bl,ol,a2,A,rfl,_,hbl,aa,hx⟩:=fU.at hl i a;have ab:=C.cell (l.cell aa (by simp)) (by simp);have ac:=q.out.2.2.2.1 _ (iW a);obtain⟨x,ad⟩:∃x,x=gt L i:=⟨_,rfl⟩;rw[<-ad] at aa ab hx ac;have ao:=dK.ext (dK.ext hx l) C;have ap:=dK.ext aM C;have aq:=q.out.2.1;have ar:dK (λk=>S k/\k<w0.heap.size) wr (.slice a2 x.length A) x:=dK.mono hx (λk hk a=>⟨⟨hk,by omega⟩,Nat.lt_of_lt_of_le a (Nat.le_trans l.size C.size),(C.block k (Nat.lt_of_lt_of_le a l.size) (by simp)).trans (l.block k a (by simp))⟩);have M:dK (λk=>S k/\k<w0.heap.size) wr (.slice au u.length F) u:=dK.mono hu (λk hk a=>⟨⟨hk,by omega⟩,Nat.lt_of_lt_of_le a (Nat.le_trans l.size C.size),(C.block k (Nat.lt_of_lt_of_le a l.size) (by simp)).trans (l.block k a (by simp))⟩);have H:=Lib.hid (And.intro ac (And.intro ad (And.intro ar M)));clear ac ad ar M aa hx;go_wp2_with fail
   refine Calls.mono (Kh _ _ x u wr S S ao ap) ?_;rintro eS wS ⟨vS,rfl,lI,rfl⟩;have y:=dy C lI;have N:=hO.ext lI;have I:=lI.cell ab (by simp);clear hO ab;cases heq:jk x u with
   | true=>
    have he:=kC.1 heq;have av:u∈L:=by rw[<-he,H.out.2.1];exact iW a
    have aw:fU (λk=>S k\/w.heap.size<=k) wS (.slice (some ⟨bl,ol,none⟩) L.length qi) L:=fU.sub (fU.ext (fU.ext hl l) y) (λk hk _ => .inl hk);have ax:=Lib.hid (And.intro av aw);clear he av aw heq I;go_wp2;go_ret;exact⟨_,rfl,dy l y,L,E,λv=>⟨.inl,λh=>h.elim id (λe=>e▸ax.out.1)⟩,Nat.le_succ _,ax.out.2⟩
   | false=>
    have ay:gt L i≠u:=λe=>by
     rw[<-H.out.2.1] at e;rw[kC.2 e] at heq;cases heq
    have ae:=Lib.hid ay;clear ay heq;have T:dK (λk=>S k/\k<w0.heap.size) wS (.slice a2 x.length A) x:=dK.ext H.out.2.2.1 lI;have U:dK (λk=>S k/\k<w0.heap.size) wS (.slice au u.length F) u:=dK.ext H.out.2.2.2 lI;have HS:=Lib.hid (And.intro T U);clear T U ao ap;have e1:∀w',Ext w0 w'->w'.cell? ⟨w.heap.size,0,none⟩=some W:=λw' h=>(q.out.1 w' h).1;have e2:∀w',Ext w0 w'->w'.cell? ⟨w.heap.size,1,none⟩=some fN:=λw' h=>(q.out.1 w' h).2.1;have e3:∀w',Ext w0 w'->w'.cell? ⟨w.heap.size,2,none⟩=some fM:=λw' h=>(q.out.1 w' h).2.2;cases pR with
    | true=>
     clear e1 e2 e3;go_wp2;refine wp_region_held_drew (S:=λw'=>Ext w0 w') (by kernel_rfl) (dy y (fk _ _)) (λaT => ?_);refine tk 0 ?_;refine tk 1 ?_;refine tk 2 ?_;refine uq 3 ?_;refine uq 4 ?_;refine uq 5 ?_;refine uq 6 ?_;refine uq 7 ?_;refine uq 8 ?_;refine uq 9 ?_;refine tk 10 ?_;refine wpAnyH_done (by kernel_rfl) ?_ _;have j:=Lib.hid (T2 K.out a ae.out);rw[<-H.out.2.1] at j;have aA:=N.ext (fk wS none);have aU:wS.drew.cell? ⟨bl,ol+i,none⟩=some (.slice a2 x.length A):=I;have aV:=dK.ext HS.out.1 (fk wS none);have aB:=dy y (fk wS none);generalize wS.drew=wD at *;clear K N I;go_wp2_with (first|(at_builtin;refine uM rfl _ _ rfl S w0.heap.size _ _ out x rfl wD aA aV rfl rfl (by omega) aB.size ?_;intro v8 w8 p z;have m:=fu aB z (λb O a=>by have:=(aA.lt b O).1;omega))|fail)
     clear aU;go_roundw
     case rel=>exact⟨i+1,true,out++[x],_,rfl,rfl,by go_num,by omega,by simp;omega,m,p,j⟩
     case measure=>simp[intOf];omega
    | false=>
     have e4:∀w',Ext wS w'->w'.cell? ⟨bl,ol+i,none⟩=some (.slice a2 x.length A):=λw' h=>h.cell I (by simp);have f1:∀w',Ext wS w'->w'.cell? ⟨w.heap.size,0,none⟩=some W:=λw' h=>e1 w' (dy y h);have f2:∀w',Ext wS w'->w'.cell? ⟨w.heap.size,1,none⟩=some fN:=λw' h=>e2 w' (dy y h);have f3:∀w',Ext wS w'->w'.cell? ⟨w.heap.size,2,none⟩=some fM:=λw' h=>e3 w' (dy y h);clear e1 e2 e3;go_wp2
     go_region_held3 (λw'=>Ext wS w') (first|exact fk _ _|assumption)
      (first
       | (go_at_call 233;refine Calls.mono (Calls.rel (w0:=wS) (by assumption) (TP P hP _ _ _ _ u x Any Any Any ⟨_,_,_,rfl,fA.ext fP (dy y (by assumption))⟩ (dK.sub (dK.ext HS.out.2 (by assumption)) (λ_ _ _=>trivial)) (dK.sub (dK.ext HS.out.1 (by assumption)) (λ_ _ _=>trivial)) (q.out.2.2.1 u q.out.2.2.2.2).1 (q.out.2.2.1 x H.out.1).1 (q.out.2.2.1 u q.out.2.2.2.2).2 (q.out.2.2.1 x H.out.1).2)) ?_;rintro eA wA ⟨vA,rfl,gK,iZ,rfl⟩))
     have B:=dy y gK;have D:=N.ext gK;have af:=e4 wA gK;have aD:=dK.ext HS.out.1 gK;have aY:=dK.ext HS.out.2 gK;clear e4 f1 f2 f3 N I;cases J:uu P u x with
     | true=>
      have bb:out.length<=i:=by rw[(K.out.no rfl).1,List.length_take];omega
      have j:=TZ K.out a ae.out (by rw[<-H.out.2.1];exact Ka.1 J);rw[<-H.out.2.1] at j;have ag:=Lib.hid j;clear j K J;have aq:=q.out.2.1
      go_wp2_with (first
       | (revert p;intro p;at_builtin;refine uM rfl _ _ rfl S w0.heap.size _ _ (out++[u]) x rfl w8 p aZ rfl rfl (by simp;omega) m.size ?_;intro v9 w9 a0 a1;have aE:=fu m a1 (λb O a=>by have:=(p.lt b O).1;omega))
       | (at_builtin;refine uM rfl _ _ rfl S w0.heap.size _ _ out u rfl wA D aY rfl rfl (by omega) B.size ?_;intro v8 w8 p z;have m:=fu B z (λb O a=>by have:=(D.lt b O).1;omega);have a3:=z.cell af (λe=>by have h1:w0.heap.size<=bl:=(D.lt _ e.symm).1;omega);have aZ:dK (λk=>S k/\k<w0.heap.size) w8 (.slice a2 x.length A) x:=dK.mono aD (iQ z (λk hk _=>⟨hk,λe=>by have:=(D.lt k e).1;omega⟩)))
       | fail)
      clear af a3;go_roundw
      case rel=>exact⟨i+1,true,out++[u]++[x],_,rfl,rfl,by go_num,by omega,by simp only[List.length_append,List.length_singleton];omega,aE,a0,Lib.hid ag.out⟩
      case measure=>simp[intOf];omega
     | false=>
      have j:=TY K.out a ae.out (by rw[<-H.out.2.1];exact λh=>by rw[Ka.2 h] at J;cases J);rw[<-H.out.2.1] at j;have ag:=Lib.hid j;clear j K J;go_wp2_with (first|(at_builtin;refine uM rfl _ _ rfl S w0.heap.size _ _ out x rfl wA D aD rfl rfl (by omega) B.size ?_;intro v8 w8 p z;have m:=fu B z (λb O a=>by have:=(D.lt b O).1;omega))|fail)
      clear af;go_roundw
      case rel=>exact⟨i+1,false,out++[x],_,rfl,rfl,by go_num,by omega,by simp;omega,m,p,ag⟩
      case measure=>simp[intOf];omega
  ·have ah:i=L.length:=by omega
   have a4:=hO;obtain⟨va,VR,rD⟩:=hO.shape;subst rD;have j:=K.out;rw[ah] at j;have aq:=q.out.2.1;have V:∀ {r:Value}{w':World}{Z:List (List (List Int))},fU (λk=>S k\/w0.heap.size<=k) w' r Z->fU (λk=>S k\/w.heap.size<=k) w' r Z:=λh=>fU.sub h (λk hk _=>hk.imp id (λh2=>by omega));have bh:¬(i:Int)<L.length:=by omega
   cases pR with
   | true=>
    have hR:=V (hO.rows (by omega));have HR:=Lib.hid (And.intro j hR);clear j hR K hO a4 ah;go_wp2;go_ret;exact⟨_,rfl,dy l C,out,(Bv G E q.out.2.2.2.1 q.out.2.2.2.2 HR.out.1 out rfl).1,(Bv G E q.out.2.2.2.1 q.out.2.2.2.2 HR.out.1 out rfl).2,by omega,HR.out.2⟩
   | false=>
    have M:dK (λk=>S k/\k<w0.heap.size) wr (.slice au u.length F) u:=dK.mono hu (λk hk a=>⟨⟨hk,by omega⟩,Nat.lt_of_lt_of_le a (Nat.le_trans l.size C.size),(C.block k (Nat.lt_of_lt_of_le a l.size) (by simp)).trans (l.block k a (by simp))⟩);have HR:=Lib.hid j
    have a5:Hid ((out++[u]).length<=L.length+1):=by
     have h1:=(j.no rfl).1;exact Lib.hid (by rw[h1];simp)
    clear j K ah;go_wp2_with (first|(at_builtin;refine uM rfl _ _ rfl S w0.heap.size _ _ out u rfl wr hO M rfl rfl (by omega) C.size ?_;intro v8 w8 p z;have m:=fu C z (λb O a=>by have:=(hO.lt b O).1;omega);obtain⟨vb,VS,nZ⟩:=p.shape;subst nZ)|fail)
    have hR:=V (p.rows (by simp;omega));rw[List.length_append,List.length_singleton] at hR;go_ret;exact⟨_,rfl,dy l m,out++[u],(Bv G E q.out.2.2.2.1 q.out.2.2.2.2 HR.out (out++[u]) rfl).1,(Bv G E q.out.2.2.2.1 q.out.2.2.2.2 HR.out (out++[u]) rfl).2,a5.out,hR⟩
theorem KE {E:Array Oper}{rest:List Oper}{o:Oper}{a:Act}{Q:Exit->Act->World->Prop}{w:World}(K:o.guard=none) (s x:Operand)
  (X:o.op=Op.call { callee:=Callee.builtin Builtin.append,args := #[s,x],argTypes := #[25,25] }) (B:Nat) (A A' F:Nat->Prop) (w0:World) (v u:Value) (xs:List (List Int)) (y:List Int) (Y:a.eval s=v)
  (b:gT gf 24 B A w0 v xs) (R:gf F w0 u y) (hF:∀k,F k->k<w0.heap.size->A k/\B<=k) (H:∀k,A' k->A k/\¬F k) (L:∀k,A k->k<w0.heap.size) (Z:w=w0.alloc (.cells #[u] 24))
  (hx:a.eval x=.slice (some ⟨w0.heap.size,0,none⟩) 1 1) (S:xs.length<=1000000) (M:B<=w0.heap.size)
  (h:∀q w',gT gf 24 B A' w' q (xs++[y])->w0.grownBy w' v.ownBlock->(q.ownBlock=v.ownBlock\/∀k,q.ownBlock=some k->w0.heap.size<=k)->wpList Tryz.prog E Q rest (a.put o.dst q) w') :
  wpList Tryz.prog E Q (o :: rest) a w:=by
 subst Z;obtain⟨T,G,r,hO,U,hd,hE,N,hr2⟩:=b;have z:Ext w0 (w0.alloc (.cells #[u] 24)):=World.grownBy_alloc _ _ _;refine nX 25 24 (.slice none 0 0) 24 qg Tryz.qh rfl (by decide) K s x X B v T Y (hO.kept z (by cases hv:v.ownBlock<;>simp)) (some ⟨w0.heap.size,0,none⟩) 1 1 [u] hx rfl (by simp) ?_ ?_ (by simp;omega) (by have:=z.size;omega) ?_
 ·intro j V
  have:j=0:=by omega
  subst this;exact⟨_,_,rfl,by rw[World.cell?_alloc_at _ _ _ _ rfl];rfl⟩
 ·intro u' I
  simp at I;subst I;exact gX.one R
 ·intro q w' k1 k2 _ W
  have C:w0.grownBy w' v.ownBlock:=dy (fH _ z) k2
  have D:q.ownBlock=v.ownBlock\/∀k,q.ownBlock=some k->w0.heap.size<=k:=by
   rcases W with h|h
   ·exact .inl h
   ·refine .inr (λk hk => ?_)
    rw[h] at hk;have:(w0.alloc (.cells #[u] 24)).heap.size=k:=by simpa using hk
    simp at this
    omega
  have b:∀k,q.ownBlock=some k->v.ownBlock=some k\/w0.heap.size<=k:=λk hk=>by
   rcases W with h|h
   ·exact .inl (by rw[<-h];exact hk)
   ·rw [h] at hk
    have:(w0.alloc (.cells #[u] 24)).heap.size=k:=by simpa using hk
    simp at this
    exact .inr (by omega)
  refine h q w' ⟨T++[u],λi k=>if i<xs.length then G i k else F k/\k<w0.heap.size,by simp[r],k1,?_,?_,?_,?_,?_⟩ C D
  ·intro i k J hk
   split at hk
   ·rename_i l
    obtain⟨a1,a2,a3⟩:=U i k l hk;exact⟨a1,λe=>(b k e).elim a2 (λh=>by omega),Nat.lt_of_lt_of_le a3 C.size⟩
   ·obtain ⟨b1,b2⟩:=hF k hk.1 hk.2
    exact⟨b2,λe=>(b k e).elim (λh=>hr2 k h b1) (λh=>by have:=hk.2;omega),Nat.lt_of_lt_of_le hk.2 C.size⟩
  ·intro i j k J V hk p
   simp only[List.length_append,List.length_singleton] at J V;split at hk<;>split at p
   ·exact hd i j k (by assumption) (by assumption) hk p
   ·exact absurd (hF k p.1 p.2).1 (N i k (by assumption) hk)
   ·exact absurd (hF k hk.1 hk.2).1 (N j k (by assumption) p)
   ·omega
  ·intro i J
   simp only[List.length_append,List.length_singleton] at J;by_cases l:i<xs.length
   ·rw [iX _ _ _ (by omega),iX _ _ _ l]
    simp only[if_pos l];exact gX.mono (hE i l) (λk hk m=>⟨hk,Nat.lt_of_lt_of_le m C.size,C.block k m (λe=>(U i k l hk).2.1 e.symm)⟩)
   ·have O:i=xs.length:=by omega
    subst O;rw[kr,<-r,kr];simp only[r,Nat.lt_irrefl,if_false];exact gX.mono R (λk hk m=>⟨⟨hk,m⟩,Nat.lt_of_lt_of_le m C.size,C.block k m (λe=>hr2 k e.symm (hF k hk m).1)⟩)
  ·intro i k J hk ha
   obtain⟨c1,c2⟩:=H k ha;split at hk
   ·rename_i l;exact N i k l hk c1
   ·exact c2 hk.1
  ·intro k hk ha
   obtain⟨c1,_⟩:=H k ha;rcases b k hk with h|h
   ·exact hr2 k h c1
   ·have:=L k c1;omega
theorem Oq {B:Nat}{a:World}{u:Value}{y:List Int}(p:gf (From B) a u y) (hB:B<=a.heap.size):iL B (a.alloc (.cells #[u] 24)) (.slice (some ⟨a.heap.size,0,none⟩) 1 1) [y]:=by
 have b:Ext a (a.alloc (.cells #[u] 24)):=World.grownBy_alloc _ _ _;refine⟨[u],λ_ k=>B<=k/\k<a.heap.size,rfl,World.ownsRow_lit a #[u] 1 hB (by decide) rfl,λi k m hk => ?_,λi j k m q _ _ => ?_,λi m => ?_⟩
 ·exact⟨hk.1,λe=>by have:=ku e;omega,Nat.lt_of_lt_of_le hk.2 b.size⟩
 ·simp at m q;omega
 ·have:i=0:=by simpa using m
  subst this;exact gX.mono p (λk hk l=>⟨⟨hk,l⟩,Nat.lt_of_lt_of_le l b.size,b.block k l (by simp)⟩)
theorem Ct {S:Nat->Prop}{w:World}{u:Value}{U:List (List Int)}(h:dK S w u U):fU Any (w.alloc (.cells #[u] 25)) (.slice (some ⟨w.heap.size,0,none⟩) 1 1) [U]:=by
 refine⟨_,1,rfl,⟨by simp,by simp,λh=>by cases h⟩,λi a => ?_⟩;have:i=0:=by simpa using a
 subst this;refine⟨w.heap.size,0,u,rfl,trivial,by simp,by rw[World.cell?_alloc_at _ _ _ _ rfl];rfl,?_⟩;exact dK.sub (dK.ext h (World.grownBy_alloc _ _ _)) (λ_ _ _=>trivial)
theorem Hf {S S':Nat->Prop}{w:World}{u v:Value}{U V:List (List Int)}(h:dK S w u U) (k:dK S' w v V):fU Any (w.alloc (.cells #[u,v] 25)) (.slice (some ⟨w.heap.size,0,none⟩) 2 2) [U,V]:=by
 refine⟨_,2,rfl,⟨by simp,by simp,λh=>by cases h⟩,λi a => ?_⟩;rcases(show i=0\/i=1 by simp at a;omega) with rfl|rfl
 ·refine ⟨w.heap.size,0,u,rfl,trivial,by simp,by rw[World.cell?_alloc_at _ _ _ _ rfl];rfl,?_⟩
  exact dK.sub (dK.ext h (World.grownBy_alloc _ _ _)) (λ_ _ _=>trivial)
 ·refine ⟨w.heap.size,0,v,rfl,trivial,by simp,by rw[World.cell?_alloc_at _ _ _ _ rfl];rfl,?_⟩
  exact dK.sub (dK.ext k (World.grownBy_alloc _ _ _)) (λ_ _ _=>trivial)
theorem T3 {P:Pr}(hP:Valid P) (H:List Int->Prop):(jQ P H).length<=729:=by
 have h1:=D5 P H (eW P).toNat;rw[JW] at h1;have a:eW P<=729:=hP.mO;omega
def pU (P:Pr) (E:List (List Int)):List Nat:=E.map (λx=>(num P x).toNat)
theorem T4 (P:Pr) (E:List (List Int)) (k:Nat) (h:k<E.length):pU P (E.take (k+1))=pU P (E.take k)++[(num P (gt E k)).toNat]:=by
 unfold pU;rw[je E k h,List.map_append];rfl
section
variable {P:Pr}(G:ez P)
include G
theorem ez.T5 {H:List Int->Prop}(S:Sub P H) {k:Nat}(hk:k<(jQ P H).length):¬(num P (gt (jQ P H) k)).toNat∈pU P ((jQ P H).take k):=by
 intro h;unfold pU at h;obtain⟨x,hx,p⟩:=List.mem_map.1 h;have a:=nL G.v S.vec;obtain⟨j,m,rfl⟩:=oW hx;have b:j<k:=by rw[List.length_take] at m;omega
 have e:gt ((jQ P H).take k) j=gt (jQ P H) j:=by
  rw[gM _ _ m,gM _ _ (by omega),List.getElem_take]
 rw[e] at p;have h1:=List.pairwise_iff_getElem.1 (DN G.v H) j k (by omega) hk b;rw[<-gM _ _ (by omega),<-gM _ _ hk] at h1;have b1:=oB G.v (S.vec _ ((a _).1 (fT (l:=jQ P H) (i:=j) (by omega))));have b2:=oB G.v (S.vec _ ((a _).1 (fT hk)));omega
theorem ez.T6 {H:List Int->Prop}(S:Sub P H) {m:Nat}(i:Bits m (pU P (jQ P H))):m=gB P H:=by
 have a:=nL G.v S.vec;refine zu (λt j => ?_) (λt j => ?_)
 ·rw [i t]
  unfold pU;constructor
  ·intro h
   obtain⟨x,hx,rfl⟩:=List.mem_map.1 h;have b:=(a x).1 hx;rw[(G.kE (S.vec x b)).2];exact b
  ·intro h
   exact List.mem_map.2 ⟨_,(a _).2 h,G.qV j⟩
 ·rw [Bool.eq_false_iff]
  intro e;have:=(i t).1 e;unfold pU at this;obtain⟨x,hx,rfl⟩:=List.mem_map.1 this;have:=(G.kE (S.vec x ((a x).1 hx))).1;omega
end
theorem KH (P:Pr) (G:ez P) (w:World) (pv uv:Value) (H:List Int->Prop) (Sp Su:Nat->Prop) (S:Sub P H) (aA:eW P<=32) (ad:gy Sp w pv P) (hu:dK Su w uv (fD P H)) :
  Calls Tryz.prog 208 #[pv,uv] w (fq w λ_ v=>v=.int .i64 ((gB P H:Nat):Int)):=by
 have hP:=G.v;have aB:=hP.n6;have ap:=hP.kT;obtain⟨vo,vp,vc,rfl,h3⟩:=ad;have L:=fB.box h3 28;have M:Ext w (w.alloc (.cells #[vo,vp,vc] 28)):=World.grownBy_alloc _ _ _;have ag:=dK.ext hu M;obtain⟨au,jA,rfl,_,_⟩:=Sl.shape hu;obtain⟨N,fN,fM,_,_,hc0,D,F,fP⟩:=L.at;simp only[Nat.zero_add] at D F;have O:∀w',Ext (w.alloc (.cells #[vo,vp,vc] 28)) w'->w'.cell? ⟨w.heap.size,0,none⟩=some N/\w'.cell? ⟨w.heap.size,1,none⟩=some fN/\w'.cell? ⟨w.heap.size,2,none⟩=some fM:=λw' h=>⟨h.cell hc0 (by simp),h.cell D (by simp),h.cell F (by simp)⟩;have HB:=Lib.hid O;clear O L hu;have hE:=Tg P G (w.alloc (.cells #[vo,vp,vc] 28)) _ _ H Any Su S ⟨_,_,_,rfl,fP⟩ ag;obtain⟨E,r⟩:∃E,E=jQ P H:=⟨_,rfl⟩;have aC:E.length<=729:=by rw[r];exact T3 hP H
 rw[<-r] at hE;have Q:=Lib.hid r;clear r;go_enter Tryz.func208,Tryz.ntmps208;go_wp2_with fail
 clear hc0 D F;generalize aj:w.alloc (.cells #[vo,vp,vc] 28)=w0 at *;clear aj;refine Calls.mono hE ?_;rintro e1 w1 ⟨v1,rfl,hg1,hO⟩;clear hE;have I:=gY.rows (hO.iB (by omega));obtain⟨ae,R,T7,_,_⟩:=Sl.shape I;subst T7;have T:dK Any w1 (.slice ae E.length R) E:=dK.sub I (λ_ _ _=>trivial);clear hO I;go_wp2;go_loopw [6,7] (λmv iv wr=>∃(i m:Nat),mv=.int .i64 (m:Int)/\iv=.int .i64 i/\i<=E.length/\Ext w1 wr/\Hid (Bits m (pU P (E.take i)))) (λ_ iv _=>E.length-(intOf iv).toNat)
 case atStart=>exact⟨0,0,rfl,rfl,by omega,Ext.refl _,Lib.hid (λt=>by simp[pU])⟩
 case round=>
  obtain⟨i,m,rfl,rfl,hi,hg,U⟩:=hrel;have b:=dy hg1 hg;by_cases k:i<E.length
  ·have av:(i:Int)<E.length:=by omega
   obtain⟨bb,off,a2,V,rfl,_,_,hc,hr⟩:=dK.at T i k;have J:=hg.cell hc (by simp);have u:dL P.orders (gt E i):=S.vec _ ((nL hP S.vec _).1 (by rw[<-Q.out];exact fT k));have j:¬(num P (gt E i)).toNat∈pU P (E.take i):=by rw[Q.out];exact G.T5 S (by rw[<-Q.out];exact k)
   have a:=T4 P E i k
   have W:m<4294967296:=by
    have h1:m<2 ^ (eW P).toNat:=Nat.lt_pow_two_of_testBit _ (λt ht=>by
     rw[Bool.eq_false_iff];intro e;have:=(U.out t).1 e;unfold pU at this;obtain⟨x,hx,rfl⟩:=List.mem_map.1 this;have:=(G.kE (S.vec x ((nL hP S.vec x).1 (by rw[<-Q.out];exact List.mem_of_mem_take hx)))).1;omega)
    have h2:(2:Nat) ^ (eW P).toNat<=2 ^ 32:=Nat.pow_le_pow_right (by decide) (by omega);omega
   have hb:=oB hP u;obtain⟨x,hx⟩:∃x,x=gt E i:=⟨_,rfl⟩;rw[<-hx] at hc J hr u j a hb;obtain⟨y,hy⟩:∃y,y=(num P x).toNat:=⟨_,rfl⟩;rw[<-hy] at j a;have X:num P x=(y:Int):=by omega
   have B:y<32:=by omega
   have A:=U.out.app j;rw[<-a] at A;have l:=B7 y B;have C:(2:Nat) ^ y<2 ^ 32:=Nat.pow_lt_pow_right (by decide) B;obtain⟨p,hp⟩:∃p,p=2 ^ y:=⟨_,rfl⟩;rw[<-hp] at l A C
   have Y:IntKind.i64.wrap ((m:Int)+(p:Int))=((m+p:Nat):Int):=by
    rw[IntWalk.i64_in _ ⟨by omega,by omega⟩];omega
   have K:IntKind.i64.wrap (2 ^ min (IntKind.u64.wrap (y:Int)).toNat 64)=(p:Int):=by
    rw[IntWalk.u64_in _ ⟨by omega,by omega⟩,Int.toNat_natCast,Nat.min_eq_left (by omega)];exact l
   have HX:=Lib.hid (And.intro u (And.intro X A));clear u X A j a hb hx hy hp U W C;have e1:∀w',Ext wr w'->w'.cell? ⟨w.heap.size,0,none⟩=some N:=λw' h=>(HB.out w' (dy b h)).1;have e2:∀w',Ext wr w'->w'.cell? ⟨w.heap.size,1,none⟩=some fN:=λw' h=>(HB.out w' (dy b h)).2.1;have e3:∀w',Ext wr w'->w'.cell? ⟨w.heap.size,2,none⟩=some fM:=λw' h=>(HB.out w' (dy b h)).2.2;have e4:∀w',Ext wr w'->w'.cell? ⟨bb,off+i,none⟩=some (.slice a2 x.length V):=λw' h=>h.cell J (by simp);clear J hc;go_wp2
   go_region_held3 (λw'=>Ext wr w') (first|exact fk _ _|assumption)
    (first
     | (go_at_call 168;refine Calls.mono (Calls.rel (w0:=wr) (by assumption) (DI P hP _ _ _ x Any Any ⟨_,_,_,rfl,fA.ext fP (dy b (by assumption))⟩ (Ints.sub (Ints.ext hr (dy hg (by assumption))) (λ_ _ _=>trivial)) HX.out.1)) ?_;rintro eA wA ⟨vA,rfl,gK,iZ,Z⟩;rw[HX.out.2.1] at Z;subst Z))
   clear e1 e2 e3 e4;have aa:=dy hg gK;go_wp2;clear l K Y;go_roundw
   case rel=>exact⟨i+1,m+p,rfl,by go_num,by omega,aa,Lib.hid HX.out.2.2⟩
   case measure=>simp[intOf];omega
  ·have ab:i=E.length:=by omega
   have q:=U.out;rw[ab,List.take_length,Q.out] at q;have HN:=Lib.hid (G.T6 S q);have aJ:¬(i:Int)<E.length:=by omega
   clear q ab k U;go_wp2;go_ret;exact⟨_,rfl,dy M b,congrArg (λz:Nat=>Value.int .i64 (z:Int)) HN.out⟩
end Go.Proofs.YtoakmefajbbggaaGreat
