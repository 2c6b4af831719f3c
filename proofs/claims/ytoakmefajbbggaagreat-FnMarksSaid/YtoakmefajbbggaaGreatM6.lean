/- Merged from templates. -/
import Derived.Test.YtoakmefajbbggaaGreatM5
import Derived.Maps.OwnSet
import Derived.Maps.StringElems
import Derived.StringKeys
import Derived.Laws.BytesArg
set_option maxRecDepth 100000
set_option maxHeartbeats 8000000
namespace Go.Proofs.YtoakmefajbbggaaGreat
open Go.RowKit
section
variable {P:Pr}(G:ez P)
include G
theorem ez.inv_one:gj P (zeros P.orders.length)=zeros P.orders.length:=by
 have h:=G.inv_mul G.jP;rwa [G.fS.er _ (G.invV G.jP)] at h
theorem ez.sub_one:Sub P (λx=>x=zeros P.orders.length):=
 ⟨λx h=>by rw[h];exact G.jP,rfl,λx y hx hy=>by rw[hx,hy];exact G.fS.el _ G.jP,λx h=>by rw[h];exact G.inv_one⟩
theorem ez.Ab:Ind P (λx=>x=zeros P.orders.length) (gt (List.replicate P.orders.length ([]:List Int))):=
 ⟨G.sub_one,λd a h=>absurd (by simp[gt,a]) h,λx hx d a _ b=>absurd (by rw[hx];exact jw _ _) b⟩
omit G in
theorem Jo (Q:List Int->Prop):gi P (λx=>x=zeros P.orders.length\/Q x)=gi P Q:=
 funext λx=>propext ⟨λh K S a=>h K S (λy hy=>hy.elim (λe=>by rw[e];exact S.one) (a y)),λh K S a=>h K S (λy hy=>a y (.inr hy))⟩
end
theorem Jp (P:Pr) (G:ez P) (w:World) (p lv:Value) (L:List (List Int)) (u B:Nat->Prop) (i:fB u w p P) (y:dK B w lv L) (z:∀x∈L,dL P.orders x) (e:L.length<=10000) :
  Calls Tryz.prog 109 #[p,lv] w (fq w λw' v=>iL w.heap.size w' v (fD P (gi P (λx=>x∈L)))):=by
 have hP:=G.v;have l:=hP.n6;obtain⟨pb,po,rfl⟩:=i.shape;obtain⟨J,qi,rfl,_,_⟩:=Sl.shape y;have C:=Lib.hid z;clear z;go_enter Tryz.func109,Tryz.ntmps109;go_wp2_with fail
 refine Calls.mono (B9 P w _ u (λ_=>False) i l) ?_;rintro K D ⟨v1,rfl,hg1,sb,gb,rfl,m⟩;have E:=m.tab.lt;have F:=m.sB;go_wp2_with fail
 refine Calls.mono (Ca P G D sb gb w.heap.size _ _ L _ (λx=>x=zeros P.orders.length) (i.mono (λk _ a=>⟨by omega,Nat.lt_of_lt_of_le a hg1.size,hg1.block k a (by simp)⟩)) m G.Ab C.out (dK.mono y (λk _ a=>⟨by omega,Nat.lt_of_lt_of_le a hg1.size,hg1.block k a (by simp)⟩)) e) ?_;rintro M A ⟨b2,g,rfl,hg2,q,r,_,_⟩;rw[Jo] at r;have b:Ext w A:=fu hg1 hg2 (λj H a=>by cases H;omega);have I:=Lib.hid r;clear r;go_wp2_with fail
 refine Calls.mono (Cb P G A sb gb w.heap.size _ b2 _ _ _ (i.ext b) q I.out) ?_;rintro N O ⟨Q,rfl,hg3,hO⟩;go_wp2;go_ret;exact⟨_,rfl,dy b hg3,hO.weak b.size⟩
theorem Rs (v1 D:Value) (A B:List (List Int)) (w:World) (J K:Nat->Prop) (h1:dK J w v1 A) (E:dK K w D B) :
  Calls Tryz.prog 217 #[v1,D,.func (.func 147) #[] #[]] w (fq w λ_ v=>v=.bool (jk A B)):=by
 obtain⟨a1,AR,rfl,_,_⟩:=Sl.shape h1;obtain⟨a2,jx,rfl,_,_⟩:=Sl.shape E;by_cases a:A.length=B.length
 ·have F:=Lib.hid a
  have b:((A.length:Int) != (B.length:Int))=false:=by simp[a]
  clear a;go_enter Tryz.func217,Tryz.ntmps217;go_wp2;go_loopw [17] (λq wr=>∃k:Nat,q=.int .i64 k/\k<=A.length/\Ext w wr/\Hid (∀j,j<k->gt A j=gt B j)) (λq _=>A.length-(intOf q).toNat)
  case atStart=>exact⟨0,rfl,by omega,Ext.refl _,Lib.hid (λj h=>by omega)⟩
  case round=>
   obtain⟨k,rfl,hk,l,hE⟩:=hrel;clear b;by_cases r:k<A.length
   ·have G:(k:Int)<A.length:=by omega
    have H:(k:Int)<B.length:=by have:=F.out;omega
    obtain⟨b1,o1,c1,d1,rfl,_,_,hc1,u⟩:=dK.at (dK.ext h1 l) k r;obtain⟨b2,o2,c2,d2,rfl,_,_,hc2,y⟩:=dK.at (dK.ext E l) k (by omega);have L:(0:Int)<=k:=by omega
    go_wp2_with fail
    refine Calls.mono (rS _ _ (gt A k) (gt B k) wr _ _ u y) ?_;rintro N O ⟨Q,rfl,tW,rfl⟩;clear hc1 hc2;cases p:jk (gt A k) (gt B k) with
    | true=>
     have z:=Lib.hid p;clear p;go_wp2;go_roundw
     case rel=>exact⟨k+1,by go_num,by omega,dy l tW,Lib.hid (λj M=>by
      rcases Nat.lt_succ_iff_lt_or_eq.1 M with h|h
      ·exact hE.out j h
      ·rw[h];exact kC.1 z.out)⟩
     case measure=>simp[intOf];omega
    | false=>
     have I:=uy (lu.1 p);have z:=Lib.hid I;clear p I;go_wp2;go_ret;exact⟨_,rfl,dy l tW,by rw[z.out];rfl⟩
   ·have m:jk A B=true:=kC.2 (mg F.out (λi R=>hE.out i (by omega)))
    have C:=Lib.hid m;clear m;go_wp2;go_ret;exact⟨_,rfl,l,by rw[C.out];rfl⟩
 ·have m:jk A B=false:=lu.2 (λe=>a (by rw[e]))
  have C:=Lib.hid m;clear m;have b:((A.length:Int) != (B.length:Int))=true:=by simp;omega
  clear a;go_enter Tryz.func217,Tryz.ntmps217;go_wp2;go_ret;exact⟨_,rfl,Ext.refl _,by rw[C.out];rfl⟩
theorem Rt (v1 b:Value) (A B:List (List Int)) (w:World) (e i:Nat->Prop) (h1:dK e w v1 A) (j:dK i w b B) :
  Calls Tryz.prog 159 #[v1,b] w (fq w λ_ v=>v=.bool (jk A B)):=by
 have a:=Rs v1 b A B w e i h1 j;obtain⟨a1,AR,rfl,_,_⟩:=Sl.shape h1;obtain⟨a2,jx,rfl,_,_⟩:=Sl.shape j;go_enter Tryz.func159,Tryz.ntmps159;go_wp2_with fail
 refine Calls.mono a ?_;rintro k l ⟨v,rfl,hg,rfl⟩;clear a;go_wp2;go_ret;exact⟨_,rfl,hg,rfl⟩
def fO (P:Pr) (u:List (List Int)):Prop:=(∀x∈u,dL P.orders x)/\u=fD P (gi P (λx=>x∈u))
theorem ez.ru {P:Pr}(G:ez P) {H:List Int->Prop}(S:Sub P H):(fD P H).length<=P.orders.length:=by
 obtain⟨r,_,h⟩:=G.DF S;rw[h,zk];exact Bn _ _ _
theorem ez.lz {P:Pr}(G:ez P) {u:List (List Int)}(h:fO P u):u.length<=P.orders.length:=by
 rw[h.2];exact G.ru (G.qu h.1)
theorem x4 (P:Pr) (w:World) (p lv:Value) (y:List (List (List Int))) (Q S:Nat->Prop) (R:fB Q w p P) (e:fU S w lv y) :
  Calls Tryz.prog 77 #[p,lv] w (fq w λ_ v=>∃r:Bool,v=.bool r/\(r=true↔jH P=true/\∀u∈y,fO P u)):=by
 obtain⟨pb,po,rfl⟩:=R.shape;obtain⟨al,qi,rfl,_,_⟩:=Sl.shape e;obtain⟨vo,vp,vc,_,_,hc0,hc1,hc2,h3⟩:=R.at;obtain⟨ao,H,rfl,_,_⟩:=h3.o.shape;obtain⟨ap,kS,rfl,_,_⟩:=Sl.shape h3.p;obtain⟨ac,ji,rfl,_,_⟩:=Sl.shape h3.c;have k:=EZ P w (.agg #[.slice ao P.orders.length H,.slice ap P.eH.length kS,.slice ac P.conj.length ji]) Q ⟨_,_,_,rfl,h3⟩;rw[E0] at k;go_enter Tryz.func77,Tryz.ntmps77;go_wp2_with fail
 refine Calls.mono k ?_;rintro e1 w1 ⟨v,rfl,hg1,rfl⟩;clear k;cases hq:jH P with
 | false=>
  have T:=Lib.hid hq;clear hq;go_wp2;go_ret;exact⟨_,rfl,hg1,false,rfl,by simp only[Bool.false_eq_true,false_iff];rintro⟨h,_⟩;rw[T.out] at h;cases h⟩
 | true =>
  have G:=lZ hq;have ai:=G.v.n6;have T:=Lib.hid hq;clear hq hc1 hc2;go_wp2;go_loopw [16] (λV wr=>∃i:Nat,V=.int .i64 i/\i<=y.length/\Ext w wr/\Hid (∀j,j<i->fO P (gt y j))) (λV _=>y.length-(intOf V).toNat)
  case atStart=>exact⟨0,rfl,by omega,hg1,Lib.hid (λj h=>by omega)⟩
  case round=>
   obtain⟨i,rfl,hi,a,hS⟩:=hrel;by_cases z:i<y.length
   ·have ae:(i:Int)<y.length:=by omega
    obtain⟨b,off,a2,jx,rfl,_,_,I,F⟩:=fU.at e i z;obtain⟨U,W⟩:∃U,U=gt y i:=⟨_,rfl⟩;rw[<-W] at I F;have A:=Lib.hid W;clear W;have J:=a.cell hc0 (by simp);have K:=a.cell I (by simp);by_cases C:U.length<=P.orders.length
    ·have L:¬(P.orders.length:Int)<U.length:=by omega
     go_wp2;clear K J L;go_loopw [30] (λX wr=>∃j:Nat,X=.int .i64 j/\j<=U.length/\Ext w wr/\Hid (∀l,l<j->dL P.orders (gt U l))) (λX _=>U.length-(intOf X).toNat)
     case atStart=>exact⟨0,rfl,by omega,a,Lib.hid (λj h=>by omega)⟩
     case round=>
      clear a;obtain⟨j,rfl,hj,a,hV⟩:=hrel;by_cases M:j<U.length
      ·have af:(j:Int)<U.length:=by omega
       obtain⟨b3,QJ,a3,Hh,rfl,_,_,hc3,Y⟩:=dK.at (dK.ext F a) j M;have hex:=BH wr _ _ P (gt U j) Q S (R.ext a) Y (λi hi=>by have:=G.v.gh i hi;omega);cases m:nD P.orders (gt U j) with
       | true=>
        rw[m] at hex;have B:=Lib.hid (uD.1 m);clear m;go_wp2_with fail
        refine Calls.mono hex ?_;rintro eE wE ⟨rfl,rfl⟩;clear hex;go_wp2;go_roundw
        case rel=>exact⟨j+1,by go_num,by omega,a,Lib.hid (λl e=>by
         rcases Nat.lt_succ_iff_lt_or_eq.1 e with h|h
         ·exact hV.out l h
         ·rw[h];exact B.out)⟩
        case measure=>simp[intOf];omega
       | false=>
        rw[m] at hex
        have q:¬fO P U:=λh=>by
         have:=uD.2 (h.1 _ (fT M));rw[m] at this;cases this
        have B:=Lib.hid q;clear m q;go_wp2_with fail
        refine Calls.mono hex ?_;rintro eE wE ⟨rfl,rfl⟩;clear hex;go_wp2;go_ret
        exact ⟨_,rfl,a,false,rfl,by
         simp only[Bool.false_eq_true,false_iff];rintro⟨_,h⟩;exact B.out (by rw[A.out];exact h _ (fT z))⟩
      ·have Z:j=U.length:=by omega
       subst Z
       have D:∀x∈U,dL P.orders x:=λx hx=>by
        obtain⟨l,e,rfl⟩:=List.getElem_of_mem hx;rw[<-gM U l e];exact hV.out l e
       have am:(fD P (gi P (λx=>x∈U))).length<=P.orders.length:=G.ru (G.qu D);have N:=Lib.hid D;clear D;go_wp2_with fail
       refine Calls.mono (Jp P G wr _ _ U Q S (R.ext a) (dK.ext F a) N.out (by omega)) ?_;rintro eG wG ⟨vG,rfl,y7,aa⟩;have E:=dy a y7;have O:=gY.rows (aa.iB (by omega));obtain⟨aG,VE,CG,_,_⟩:=Sl.shape O;subst CG;go_wp2_with fail
       refine Calls.mono (Rt _ _ _ U wG _ _ O (dK.ext F E)) ?_;rintro eS wS ⟨vS,rfl,lI,rfl⟩;cases m:jk (fD P (gi P (λx=>x∈U))) U with
       | true=>
        have B:=Lib.hid (kC.1 m);clear m;go_wp2;go_roundw
        case rel=>exact⟨i+1,by go_num,by omega,dy E lI,Lib.hid (λl e=>by
         rcases Nat.lt_succ_iff_lt_or_eq.1 e with h|h
         ·exact hS.out l h
         ·rw[h,<-A.out];exact⟨N.out,B.out.symm⟩)⟩
        case measure=>simp[intOf];omega
       | false=>
        have B:=Lib.hid (lu.1 m);clear m;go_wp2;go_ret
        exact ⟨_,rfl,dy E lI,false,rfl,by
         simp only[Bool.false_eq_true,false_iff];rintro⟨_,h⟩;have:=h _ (fT z);rw[<-A.out] at this;exact B.out this.2.symm⟩
    ·have L:(P.orders.length:Int)<U.length:=by omega
     have q:¬fO P U:=λh=>C (G.lz h);have B:=Lib.hid q;clear q C;go_wp2;go_ret
     exact ⟨_,rfl,a,false,rfl,by
      simp only[Bool.false_eq_true,false_iff];rintro⟨_,h⟩;exact B.out (by rw[A.out];exact h _ (fT z))⟩
   ·have ab:i=y.length:=by omega
    subst ab;go_wp2;go_ret
    exact ⟨_,rfl,a,true,rfl,by
     simp only[true_iff]
     exact ⟨T.out,λu F=>by
      obtain⟨l,e,rfl⟩:=List.getElem_of_mem F;rw[<-gM y l e];exact hS.out l e⟩⟩
end Go.Proofs.YtoakmefajbbggaaGreat
namespace Go.Proofs.YtoakmefajbbggaaGreat
theorem Bq (P:Pr) (x:List Int) (k:Int) (hk:0<=k):iT P x k=pw P x k.toNat:=by
 unfold iT;rw[if_neg (by omega)]
def lN (U:List (List Int)) (n:Nat):Nat->List (List Int)
 | 0=>List.replicate n []
 | k+1=>(lN U n k).set (dep (gt U k)) (gt U k)
theorem Dc (U:List (List Int)) (n k:Nat):(lN U n k).length=n:=by
 induction k with
 | zero=>simp[lN]
 | succ k a=>simp only[lN,List.length_set];exact a
theorem AV (P:Pr) (U:List (List Int)):∀k,k<=U.length->∀d,d<P.orders.length ->
  (gt (lN U P.orders.length k) d=[]/\∀j,j<k->dep (gt U j)≠d)\/∃j,j<k/\dep (gt U j)=d/\gt (lN U P.orders.length k) d=gt U j:=by
 intro k;induction k with
 | zero=>intro _ d b;exact .inl ⟨by simp[lN,gt,b],λj a=>by omega⟩
 | succ k e=>
  intro hk d b;have i:=Dc U P.orders.length k;simp only[lN];by_cases h:dep (gt U k)=d
  ·right
   exact⟨k,by omega,h,by rw[h,iN _ _ _ (by omega)]⟩
  ·rw [iy _ _ _ _ h]
   rcases e (by omega) d b with⟨h1,h2⟩|⟨j,h1,h2,h3⟩
   ·left
    refine⟨h1,λj a => ?_⟩;rcases Nat.lt_succ_iff_lt_or_eq.1 a with a|a
    ·exact h2 j a
    ·rw[a];exact h
   ·right
    exact⟨j,by omega,h2,h3⟩
theorem Ru {P:Pr}{U:List (List Int)}(e:iY P U) (d:Nat) (i:d<P.orders.length) (b:gt (lN U P.orders.length U.length) d≠[]) :
  T P d (gt (lN U P.orders.length U.length) d)/\gt (gt (lN U P.orders.length U.length) d) d=1:=by
 rcases AV P U U.length (Nat.le_refl _) d i with⟨h,_⟩|⟨j,k,sA,l⟩
 ·exact absurd h b
 ·obtain ⟨a,_,c⟩:=e.1 _ (fT k)
  rw[l,<-sA];exact⟨qF a,c⟩
structure qT (P:Pr) (H:List Int->Prop) (b:List (List Int)) (X:List Int) (d:Nat) (Y:List Int):Prop where
 vec:dL P.orders Y
 cos:H (fC P (gj P X) Y)
 mU:∀e,e<d->gt b e≠[]->gt Y e=0
structure sX (P:Pr) (b:List (List Int)) (X:List Int) (d:Nat) (Y:List Int):Prop where
 vec:T P d Y
 inv:∀Q q R,kg P Q (gt b) (X :: q) R->∃R',kg P Q (gt b) (Y :: q) R'
structure rL (P:Pr) (r:Nat->List Int) (m:Nat) (X:List Int) (e:Nat) (Y:List Int):Prop where
 vec:dL P.orders Y
 mU:∀i,m<=i->i<e->r i≠[]->gt Y i=0
 cos:∀K,Sub P K->(∀i,m<=i->i<P.orders.length->r i≠[]->K (r i))->K (fC P (gj P X) Y)
 old:∀k,(∀i,m<=i->i<P.orders.length->r i≠[]->k<i)->gt Y k=gt X k
def kj (P:Pr) (b:List (List Int)) (z:List Int):Nat->List (List Int)
 | 0=>[]
 | k+1=>kj P b z k++(if gt b k=[] then [] else [oO P z (gt b k)])
theorem Jq (P:Pr) (b:List (List Int)) (z:List Int) (k:Nat):(kj P b z k).length<=k:=by
 induction k with
 | zero=>exact Nat.le_refl _
 | succ k a=>simp only[kj];split<;>simp<;>omega
theorem Jr {P:Pr}{b:List (List Int)}{z x:List Int}{k:Nat} : x∈kj P b z k↔∃e,e<k/\gt b e≠[]/\x=oO P z (gt b e):=by
 induction k with
 | zero=>simp[kj]
 | succ k j=>
  simp only[kj,List.mem_append,j];constructor
  ·rintro (⟨e,h1,a,i⟩|h)
   ·exact⟨e,by omega,a,i⟩
   ·split at h
    ·simp at h
    ·rename_i hk
     simp at h
     exact⟨k,by omega,hk,h⟩
  ·rintro ⟨e,h1,a,i⟩
   rcases Nat.lt_succ_iff_lt_or_eq.1 h1 with h|h
   ·exact .inl ⟨e,h,a,i⟩
   ·subst h;right;rw[if_neg a];simp[i]
section
variable {P:Pr}(G:ez P)
include G
theorem ez.Js {H:List Int->Prop}(S:Sub P H):Ind P H (gt (lN (fD P H) P.orders.length (fD P H).length)):=by
 obtain⟨h1,h2,h3⟩:=G.iV S;refine⟨S,λd a b => ?_,λx hx d a l m => ?_⟩
 ·refine ⟨?_,Ru h1 d a b⟩
  rcases AV P _ _ (Nat.le_refl _) d a with⟨h,_⟩|⟨j,e,_,k⟩
  ·exact absurd h b
  ·rw[k];exact h2 _ (fT e)
 ·obtain ⟨j,e,sA⟩:=h3 x hx d a l m
  rcases AV P _ _ (Nat.le_refl _) d a with⟨_,h⟩|⟨i,p,_,k⟩
  ·exact absurd sA (h j e)
  ·rw [k]
   intro q;have:=(h1.1 _ (fT p)).1.1;rw[q] at this;simp at this;omega
theorem ez.Rv {H:List Int->Prop}{b:List (List Int)}(S:Sub P H) {X:List Int}(a:dL P.orders X):qT P H b X 0 X:=
 ⟨a,by rw[G.inv_mul a];exact S.one,λe i=>by omega⟩
omit G in
theorem qT.skip {H:List Int->Prop}{b:List (List Int)}{X Y:List Int}{d:Nat}(h:qT P H b X d Y) (i:gt b d=[]\/gt Y d=0):qT P H b X (d+1) Y:=
 ⟨h.vec,h.cos,λe j a=>by
  rcases Nat.lt_succ_iff_lt_or_eq.1 j with h1|h1
  ·exact h.mU e h1 a
  ·subst h1;exact i.elim (λh=>absurd h a) id⟩
theorem ez.Rw {H:List Int->Prop}{b:List (List Int)}(I:Ind P H (gt b)) {X Y:List Int}{d:Nat}(l:dL P.orders X) (j:d<P.orders.length) (m:gt b d≠[]) (h:qT P H b X d Y) :
  qT P H b X (d+1) (fC P Y (iT P (gt b d) (-(gt Y d)))):=by
 obtain⟨p,k,m3⟩:=I.mem d j m;have a:=G.DG j h.vec k m3;refine⟨a.2.2,?_,λe q i => ?_⟩
 ·rw [<-G.ass (G.invV l) h.vec (G.sV k.1 _)]
  exact I.sub.mul _ _ h.cos (I.sub.iT p _)
 ·rcases Nat.lt_succ_iff_lt_or_eq.1 q with h1|h1
  ·rw[a.2.1 e h1];exact h.mU e h1 i
  ·subst h1;exact a.1
omit G in
theorem qT.rep {H:List Int->Prop}{b:List (List Int)}{X Y:List Int}(h:qT P H b X P.orders.length Y):zg P H (gt b) X Y:=⟨h.vec,h.cos,h.mU⟩
theorem ez.Rx {H:List Int->Prop}{b:Nat->List Int}(I:Ind P H b) {X Y:List Int}(a:dL P.orders X) (h:zg P H b X Y):Y=zeros P.orders.length↔H X:=by
 have i:=G.invV a;constructor
 ·intro j
  have h1:=h.2.1;rw[j,G.fS.er _ i] at h1;have:=I.sub.inv _ h1;rwa [G.inv_inv a] at this
 ·intro hx
  refine G.Qp I a h ⟨G.jP,?_,λe _ _=>jw _ _⟩;rw[G.fS.er _ i];exact I.sub.inv _ hx
omit G in
theorem Ry {b:List (List Int)}{X:List Int}(a:dL P.orders X):sX P b X 0 X:=⟨pP.2 a,λ_ _ R A=>⟨R,A⟩⟩
omit G in
theorem sX.skip {b:List (List Int)}{X Y:List Int}{d:Nat}(h:sX P b X d Y) (a:gt Y d=0):sX P b X (d+1) Y:=⟨h.vec.up a,h.inv⟩
theorem ez.Rz {b:List (List Int)}{X Y:List Int}{d:Nat}(l:d<P.orders.length) (p:gt b d≠[]) (a:T P d (gt b d)/\gt (gt b d) d=1) (r:gt Y d≠0) (h:sX P b X d Y) :
  sX P b X (d+1) (fC P Y (iT P (gt b d) (-(gt Y d)))):=by
 have e:=G.DG l h.vec.1 a.1 a.2;have m:T P (d+1) (fC P Y (iT P (gt b d) (-(gt Y d)))):=T.up ⟨e.2.2,λk hk=>by rw[e.2.1 k hk];exact h.vec.2 k hk⟩ e.1;have i:=G.sV a.1.1 (-(gt Y d));refine⟨m,λQ q R A => ?_⟩;obtain⟨w,A1⟩:=h.inv Q q R A;refine⟨_,IP A1 l h.vec r p m (λK S h1 j => ?_) (λK S h1 j=>S.mul _ _ j (S.iT h1 _))⟩;have u:=S.mul _ _ j (S.inv _ (S.iT h1 (-(gt Y d))));rwa [G.ass h.vec.1 i (G.invV i),G.j7 i,G.fS.er _ h.vec.1] at u
theorem ez.RA {Q:List Int->Prop}{b q q':List (List Int)}{R:List Int->Prop}{y:List Int}(A:kg P Q (gt b) (y :: q) R) {d:Nat}(m:d<P.orders.length) (p:T P d y) (w:gt b d=[]) (r:b.length=P.orders.length)
  (k:Int) (i:0<=k) (hk:(k*gt y d)%gt P.orders d=1) (a:∀x,x∈q'↔x∈q\/x=y\/x=pw P (pw P y k.toNat) (gt P.orders d).toNat\/x∈kj P b (pw P y k.toNat) P.orders.length) :
  ∃R',kg P Q (gt (b.set d (pw P y k.toNat))) q' R':=by
 obtain⟨z,hz1⟩:=G.IZ m p k i hk;refine⟨_,G.IU A m p w z hz1 (λK S h=>S.pw h _) (λe u => ?_) (λx hx => ?_) (λx hx => ?_) (λe u j => .inr ?_)⟩
 ·by_cases h:e=d
  ·subst h;rw[if_pos rfl,iN _ _ _ (by omega)]
  ·rw[if_neg h,iy _ _ _ _ (λl=>h l.symm)]
 ·rcases (a x).1 hx with h|h|h|h
  ·exact .inl h
  ·exact .inr (.inl h)
  ·exact .inr (.inr (.inr (.inl h)))
  ·obtain ⟨e,h1,l,h3⟩:=Jr.1 h
   exact .inr (.inr (.inr (.inr ⟨e,h1,l,.inr h3⟩)))
 ·rw [a]
  rcases hx with h|h|h
  ·exact .inl h
  ·exact .inr (.inl h)
  ·exact .inr (.inr (.inl h))
 ·rw [a]
  exact .inr (.inr (.inr (Jr.2 ⟨e,u,j,rfl⟩)))
theorem ez.RB {r:Nat->List Int}{m:Nat}{X:List Int}(a:dL P.orders X):rL P r m X m X:=
 ⟨a,λi h1 b=>by omega,λK S _=>by rw[G.inv_mul a];exact S.one,λ_ _=>rfl⟩
omit G in
theorem rL.skip {r:Nat->List Int}{m e:Nat}{X Y:List Int}(h:rL P r m X e Y) (j:r e=[]\/gt Y e=0):rL P r m X (e+1) Y:=
 ⟨h.vec,λi h1 k b=>by
  rcases Nat.lt_succ_iff_lt_or_eq.1 k with a|a
  ·exact h.mU i h1 a b
  ·subst a;exact j.elim (λh=>absurd h b) id,h.cos,h.old⟩
theorem ez.RD {r:Nat->List Int}{m e:Nat}{X Y:List Int}(y:dL P.orders X) (a:m<=e) (l:e<P.orders.length) (u:r e≠[]) (p:T P e (r e)/\gt (r e) e=1) (h:rL P r m X e Y) :
  rL P r m X (e+1) (fC P Y (iT P (r e) (-(gt Y e)))):=by
 have b:=G.DG l h.vec p.1 p.2;refine⟨b.2.2,λi h1 z q => ?_,λK S w => ?_,λk hk=>by rw[b.2.1 k (hk e a l u)];exact h.old k hk⟩
 ·rcases Nat.lt_succ_iff_lt_or_eq.1 z with j|j
  ·rw[b.2.1 i j];exact h.mU i h1 j q
  ·subst j;exact b.1
 ·rw [<-G.ass (G.invV y) h.vec (G.sV p.1.1 _)]
  exact S.mul _ _ (h.cos K S w) (S.iT (w e a l u) _)
omit G in
theorem rL.RF {H:List Int->Prop}{b r:Nat->List Int}{d k:Nat}{X Y:List Int}(h:rL P r (d+1) X P.orders.length Y) (C:kN P H b r (d+1)) (hk:d+1+k=P.orders.length) :
  nK P (sq r k (d+1)) X (sq r k (d+1)).length Y:=by
 refine ⟨h.vec,λj l => ?_,λK S p=>h.cos K S (λi h1 m a=>p _ (qR.2 ⟨i,h1,by omega,a,rfl⟩)),λj l=>h.old j (λi h1 m a=>by
  have:=l _ (qR.2 ⟨i,h1,by omega,a,rfl⟩);rwa [C.dep h1 m a] at this)⟩
 obtain⟨e,h1,m,a,q⟩:=qR.1 (fT l);rw[q,C.dep h1 (by omega) a];exact h.mU e h1 (by omega) a
end
theorem EI {P:Pr}{H:List Int->Prop}(S:Sub P H):gi P H=H:=
 funext λ_=>propext ⟨λh=>h H S (λ_ hy=>hy),λh=>qa h⟩
theorem zY (P:Pr) (Q L:List Int->Prop):gi P (λx=>gi P Q x\/L x)=gi P (λx=>Q x\/L x):=
 funext λ_=>propext ⟨λh K S a=>h K S (λy hy=>hy.elim (λh=>h K S (λz b=>a z (.inl b))) (λh=>a y (.inr h))),
  λh K S a=>h K S (λy hy=>hy.elim (λh=>a y (.inl (qa h))) (λh=>a y (.inr h)))⟩
theorem ez.Aa {P:Pr}(G:ez P):gi P (λ_=>False)=λx=>x=zeros P.orders.length:=
 funext λ_=>propext ⟨λh=>h _ G.sub_one (λ_ h=>h.elim),λh K S _=>by rw[h];exact S.one⟩
theorem ez.oC {P:Pr}(G:ez P) {H:List Int->Prop}(S:Sub P H):gi P (λx=>x∈fD P H)=H:=by
 have a:=G.iV S;have b:∀y,y∈fD P H->dL P.orders y:=λy hy=>S.vec y (a.2.1 y hy);refine funext λx=>propext ⟨λh=>h H S a.2.1,λh => ?_⟩;exact zm (G.qu b) (λz e=>qa e) _ (Nat.le_refl _) x ((G.DO S a.1 a.2.1 a.2.2 x).2 h)
theorem ez.gG {P:Pr}(G:ez P) {u:List (List Int)}(h:fO P u):Sub P (gi P (λx=>x∈u)):=G.qu h.1
theorem ez.r8 {P:Pr}(G:ez P) {H:List Int->Prop}(S:Sub P H):fO P (fD P H):=
 ⟨λx hx=>S.vec x ((G.iV S).2.1 x hx),by rw[G.oC S]⟩
end Go.Proofs.YtoakmefajbbggaaGreat
namespace Go.Proofs.YtoakmefajbbggaaGreat
open Go.RowKit
theorem ez.RG {P:Pr}(G:ez P) {H:List Int->Prop}(S:Sub P H) {X Y:List Int}(a:dL P.orders X) (h:nK P (fD P H) X (fD P H).length Y):Y=zeros P.orders.length↔H X:=by
 obtain⟨h1,h2,h3⟩:=G.iV S;have k:=G.invV a;have e:=h.cos H S h2;constructor
 ·intro b
  rw[b,G.fS.er _ k] at e;have:=S.inv _ e;rwa [G.inv_inv a] at this
 ·intro hx
  have hy:=S.mul _ _ hx e;rw[<-G.ass a k h.vec,G.j7 a,G.fS.el _ h.vec] at hy;by_cases b:Y=zeros P.orders.length
  ·exact b
  ·obtain ⟨d,hd,hT,hne⟩:=uP h.vec b
   obtain⟨j,hj,i⟩:=h3 Y hy d hd hT hne;exact absurd (by rw[<-i];exact h.mU j hj) hne
theorem Jt {o l:List Int}(h:dL o l):mP l=true↔l=zeros o.length:=by
 rw[xD];constructor
 ·intro a
  refine mg (by rw[h.1];simp[zeros]) (λi b => ?_);rw[a i b];exact(jw _ _).symm
 ·intro a i b
  rw[a];exact jw _ _
theorem FR (P:Pr) (G:ez P) (w:World) (p m q:Value) (H:List Int->Prop) (X:List Int) (y z A:Nat->Prop) (S:Sub P H) (B:fB y w p P) (C:dK z w m (fD P H)) (hx:Ints A w q X) (D:dL P.orders X) :
  Calls Tryz.prog 160 #[p,m,q] w (fq w λ_ v=>∃r:Bool,v=.bool r/\(r=true↔H X)):=by
 have F:=G.v.n6;have K:=G.ru S;have e:=(G.iV S).1;have b:=Da P G w p m q (fD P H) X y z A B C e (by omega) hx D;obtain⟨pb,po,rfl⟩:=B.shape;obtain⟨L,jA,rfl,_,_⟩:=Sl.shape C;obtain⟨M,l6,rfl,_,_⟩:=hx.shape;have N:=Lib.hid e;clear e;go_enter Tryz.func160,Tryz.ntmps160;go_wp2_with fail
 refine Calls.mono b ?_;rintro O E ⟨v1,rfl,hg1,Y,hO,l⟩;clear b;have i:=hO.ints (by rw[l.vec.1];omega);obtain⟨Q,nM,rfl,_,_⟩:=i.shape;have a:=(Jt l.vec).trans (G.RG S D l);cases k:mP Y with
 | true=>
  rw[k] at a;have u:=Lib.hid a;have j:=BF _ _ E Any i;rw[k] at j;clear a k l;go_wp2_with fail
  refine Calls.mono j ?_;rintro I J ⟨rfl,rfl⟩;clear j;go_wp2;go_ret;exact⟨_,rfl,hg1,true,rfl,by simpa using u.out⟩
 | false=>
  rw[k] at a;have u:=Lib.hid a;have j:=BF _ _ E Any i;rw[k] at j;clear a k l;go_wp2_with fail
  refine Calls.mono j ?_;rintro I J ⟨rfl,rfl⟩;clear j;go_wp2;go_ret;exact⟨_,rfl,hg1,false,rfl,by simpa using u.out⟩
def gW (P:Pr) (L:List (List Int)) (X:List Int):List (List Int):=L.map (λy=>fW P y X)
theorem RH (P:Pr) (G:ez P) (w:World) (p lv K:Value) (L:List (List Int)) (X:List Int) (M N O:Nat->Prop) (Q:fB M w p P) (R:dK N w lv L) (S:∀y∈L,dL P.orders y) (T:L.length<=10000) (hx:Ints O w K X) (U:dL P.orders X) :
  Calls Tryz.prog 203 #[p,lv,K] w (fq w λw' v=>iL w.heap.size w' v (gW P L X)):=by
 have hP:=G.v;have Y:=hP.n6;obtain⟨pb,po,rfl⟩:=Q.shape;obtain⟨al,qi,rfl,_,_⟩:=Sl.shape R;obtain⟨ax,l6,rfl,_,_⟩:=hx.shape;have B:=Lib.hid (And.intro S U);clear S U;have m:(gW P L X).length=L.length:=by unfold gW;rw[List.length_map]
 have e:=Lib.hid m;clear m;go_enter Tryz.func203,Tryz.ntmps203;go_wp2;go_loopw [7,12] (λZ D wr=>∃(k:Nat) (v4:Value),v4=Z/\D=.int .i64 k/\k<=L.length/\Ext w wr/\iL w.heap.size wr v4 ((gW P L X).take k)) (λ_ D _=>L.length-(intOf D).toNat)
 case atStart=>exact⟨0,_,rfl,rfl,by omega,Ext.refl _,gN.nil _ _ _ _⟩
 case round=>
  obtain⟨k,v4,rfl,rfl,hk,l,hO⟩:=hrel;by_cases i:k<L.length
  ·have V:(k:Int)<L.length:=by omega
   obtain⟨b,off,a2,jx,rfl,_,_,hc,hi⟩:=dK.at (dK.ext R l) k i;have q:=B.out.1 _ (fT i)
   have a:(gW P L X).take (k+1)=(gW P L X).take k++[fW P (gt L k) X]:=by
    rw[je _ k (by rw[e.out];exact i)];unfold gW;rw[jM _ _ _ i]
   have E:((gW P L X).take k).length<=1000000:=by rw[List.length_take];have:=e.out;omega
   have C:=Lib.hid (And.intro a q);clear a q;go_wp2_with fail
   refine Calls.mono (u5 P hP wr _ _ _ (gt L k) X M N O (Q.ext l) hi (hx.ext l) C.out.2 B.out.2) ?_;rintro eC W ⟨vC,rfl,F,r⟩;rw[G.Ar C.out.2 B.out.2] at r;have u:=G.oA C.out.2 B.out.2;have z:gf (From wr.heap.size) W vC (fW P (gt L k) X):=gf.of r (by rw[u.1];omega) (λj h1 _=>h1);obtain⟨ay,nM,oF,_,_⟩:=z.ints.shape;subst oF;clear hc u;go_wp2_with (first|(at_builtin;refine rA rfl _ _ rfl w.heap.size wr W v4 _ ((gW P L X).take k) (fW P (gt L k) X) rfl hO F z rfl rfl E l.size ?_;intro v5 w5 H I ad;have A:=hO.vn l (Nat.le_refl _) I)|fail)
   go_roundw
   case rel=>exact⟨k+1,v5,rfl,by go_num,by omega,A,by rw[C.out.1];exact H⟩
   case measure=>simp[intOf];omega
  ·have J:k=L.length:=by omega
   subst J;rw[List.take_of_length_le (by rw[e.out];exact Nat.le_refl _)] at hO;obtain⟨az,rC,lJ,_,_⟩:=jm.shape (hO.iB (by rw[e.out];omega));subst lJ;go_wp2;go_ret;exact⟨_,rfl,l,hO⟩
theorem KP (P:Pr) (G:ez P) (w:World) (p lv k:Value) (L:List (List Int)) (X:List Int) (l r u:Nat->Prop) (m:fB l w p P) (A:dK r w lv L) (B:∀y∈L,dL P.orders y) (e:L.length<=10000) (hx:Ints u w k X) (C:dL P.orders X) :
  Calls Tryz.prog 142 #[p,lv,k] w (fq w λw' v=>iL w.heap.size w' v (fD P (gi P (λz=>z∈gW P L X)))):=by
 have i:(gW P L X).length=L.length:=by unfold gW;rw[List.length_map]
 have a:=RH P G w p lv k L X l r u m A B e hx C;obtain⟨pb,po,rfl⟩:=m.shape;obtain⟨H,qi,rfl,_,_⟩:=Sl.shape A;obtain⟨I,l6,rfl,_,_⟩:=hx.shape
 have j:∀z∈gW P L X,dL P.orders z:=λz D=>by
  unfold gW at D;obtain⟨y,hy,rfl⟩:=List.mem_map.1 D;exact G.oA (B y hy) C
 have q:=Lib.hid (And.intro j i);clear j i;go_enter Tryz.func142,Tryz.ntmps142;go_wp2_with fail
 refine Calls.mono a ?_;rintro J F ⟨v1,rfl,b,hO⟩;clear a;have E:=gY.rows (hO.iB (by rw[q.out.2];omega));obtain⟨a1,AR,yh,_,_⟩:=Sl.shape E;subst yh;go_wp2_with fail
 refine Calls.mono (Jp P G F _ _ (gW P L X) l _ (m.ext b) E q.out.1 (by rw[q.out.2];omega)) ?_;rintro K M ⟨N,rfl,hg2,AP⟩;go_wp2;go_ret;exact⟨_,rfl,dy b hg2,AP.weak b.size⟩
end Go.Proofs.YtoakmefajbbggaaGreat
namespace Go.Proofs.YtoakmefajbbggaaGreat
def jT (P:Pr) (K:List Int->Prop) (g x:List Int):Prop:=∃y,K y/\x=fW P y g
section
variable {P:Pr}(G:ez P)
include G
theorem ez.DU {g:List Int}(a:dL P.orders g):fW P (zeros P.orders.length) g=zeros P.orders.length:=by
 unfold fW;rw[G.fS.el _ a,G.inv_mul a]
theorem ez.Ju {x g:List Int}(hx:dL P.orders x) (a:dL P.orders g):fW P (gj P x) g=gj P (fW P x g):=by
 refine G.sk (G.oA hx a) (G.oA (G.invV hx) a) ?_;rw[<-G.Bf hx (G.invV hx) a,G.j7 hx,G.DU a]
theorem ez.FP {H:List Int->Prop}(S:Sub P H) {g:List Int}(a:dL P.orders g):Sub P (λy=>dL P.orders y/\H (fW P y g)):=
 ⟨λ_ h=>h.1,⟨G.jP,by rw[G.DU a];exact S.one⟩,λx y hx hy=>⟨G.gz hx.1 hy.1,by rw[G.Bf hx.1 hy.1 a];exact S.mul _ _ hx.2 hy.2⟩,
  λx hx=>⟨G.invV hx.1,by rw[G.Ju hx.1 a];exact S.inv _ hx.2⟩⟩
theorem ez.sx {K:List Int->Prop}(S:Sub P K) {g:List Int}(b:dL P.orders g):Sub P (jT P K g):=by
 refine⟨?_,⟨_,S.one,(G.DU b).symm⟩,?_,?_⟩
 ·rintro x ⟨y,hy,rfl⟩;exact G.oA (S.vec y hy) b
 ·rintro x x' ⟨y,hy,rfl⟩ ⟨e,a,rfl⟩
  exact⟨_,S.mul _ _ hy a,(G.Bf (S.vec y hy) (S.vec e a) b).symm⟩
 ·rintro x ⟨y,hy,rfl⟩
  exact⟨_,S.inv _ hy,(G.Ju (S.vec y hy) b).symm⟩
theorem ez.FT {K:List Int->Prop}(S:Sub P K) {g:List Int}(b:dL P.orders g):gi P (λz=>z∈gW P (fD P K) g)=jT P K g:=by
 have e:=(G.iV S).2.1
 have i:∀z,z∈gW P (fD P K) g->dL P.orders z:=λz a=>by
  unfold gW at a;obtain⟨y,hy,rfl⟩:=List.mem_map.1 a;exact G.oA (S.vec y (e y hy)) b
 have j:=G.qu (Q:=λz=>z∈gW P (fD P K) g) i;refine funext λx=>propext ⟨λh=>h _ (G.sx S b) (λz a => ?_),?_⟩
 ·unfold gW at a
  obtain⟨y,hy,rfl⟩:=List.mem_map.1 a;exact⟨y,e y hy,rfl⟩
 ·rintro ⟨y,hy,rfl⟩
  have h1:gi P (λz=>z∈fD P K) y:=by rw[G.oC S];exact hy
  exact(h1 _ (G.FP j b) (λz a=>⟨S.vec z (e z a),qa (List.mem_map.2 ⟨z,a,rfl⟩)⟩)).2
end
def uk:List Int->List (List Int)
 | []=>[[]]
 | a :: o=>(List.range a.toNat).flatMap (λi:Nat=>(uk o).map (λt=>(i:Int) :: t))
def lS:List Int->Nat
 | []=>1
 | a :: o=>a.toNat*lS o
theorem xU {α b:Type}(l:List α) (f:α->List b) (n:Nat) (h:∀x∈l,(f x).length=n):(l.flatMap f).length=l.length*n:=by
 induction l with
 | nil=>simp
 | cons a l e=>
  rw[List.flatMap_cons,List.length_append,h a (List.mem_cons_self ..),e (λx hx=>h x (List.mem_cons_of_mem _ hx)),List.length_cons,Nat.succ_mul];omega
theorem Jv:∀o,(uk o).length=lS o
 | []=>rfl
 | a :: o=>by
  rw[uk,xU _ _ (lS o) (λi _=>by rw[List.length_map,Jv o]),List.length_range];rfl
theorem Jw:∀(o x:List Int),x.length=o.length->(∀i,i<o.length->0<=gt x i/\gt x i<gt o i)->x∈uk o
 | [],x,b,_=>by
  have:x=[]:=List.eq_nil_of_length_eq_zero b;subst this;simp[uk]
 | a :: o,x,b,h=>by
  cases x with
  | nil=>simp at b
  | cons y x=>
   have e:=h 0 (by simp);have j:gt (y :: x) 0=y:=rfl;have k:gt (a :: o) 0=a:=rfl;rw[j,k] at e;rw[uk,List.mem_flatMap];refine⟨y.toNat,List.mem_range.2 (by omega),?_⟩;rw[List.mem_map];refine⟨x,Jw o x (by simpa using b) (λi l=>by simpa [gt] using h (i+1) (by simpa using l)),by rw[show((y.toNat:Nat):Int)=y by omega]⟩
def oP (o:List Int):Nat->List (List (List Int))
 | 0=>[[]]
 | k+1=>oP o k++(uk (o.drop (o.length-k))).flatMap (λt=>(oP o k).map (λs=>(List.replicate (o.length-k-1) 0++1 :: t) :: s))
theorem RI (o:List Int) (k:Nat):(oP o (k+1)).length=(oP o k).length*(1+lS (o.drop (o.length-k))):=by
 rw[oP,List.length_append,xU _ _ (oP o k).length (λt _=>by rw[List.length_map]),Jv,Nat.mul_add,Nat.mul_one,Nat.mul_comm (lS _)]
theorem Jx {l:List Int}{k i:Nat} : gt (l.drop k) i=gt l (k+i):=by
 simp[gt]
theorem RJ {o x:List Int}{d:Nat}(hx:dL o x) (l:d<o.length) (a:∀k,k<d->gt x k=0) (h1:gt x d=1):x=List.replicate d 0++1 :: x.drop (d+1):=by
 have m:=hx.1;refine mg (by simp;omega) (λi p => ?_);rcases Nat.lt_trichotomy i d with h|h|h
 ·rw[a i h,iX _ _ _ (by simpa using h),jw]
 ·subst h
  rw[h1];simp[gt]
 ·have e:gt (List.replicate d 0++1 :: x.drop (d+1)) i=gt x i:=by
   simp only[gt,List.getD_eq_getElem?_getD];rw[List.getElem?_append_right (by simp;omega),List.length_replicate];obtain⟨j,b⟩:∃j,i-d=j+1:=⟨i-d-1,by omega⟩;rw[b,List.getElem?_cons_succ,List.getElem?_drop,show d+1+j=i by omega]
  exact e.symm
theorem Br {o:List Int} : ∀(k:Nat) (u:List (List Int)),k<=o.length->(∀z∈u,dL o z/\o.length-k<=dep z/\dep z<o.length/\gt z (dep z)=1/\∀j,j<dep z->gt z j=0) ->
  (∀i j,i<j->j<u.length->dep (gt u i)<dep (gt u j))->u∈oP o k
 | 0,u,_,h,_=>by
  cases u with
  | nil=>simp[oP]
  | cons z u=>have:=h z (List.mem_cons_self ..);omega
 | k + 1,u,hk,h,l=>by
  rw[oP,List.mem_append];cases u with
  | nil=>exact .inl (Br k [] (by omega) (λz b=>by cases b) (λi j _ m=>by simp at m))
  | cons z u=>
   have b:=h z (List.mem_cons_self ..);by_cases w:dep z=o.length-k-1
   ·refine .inr (List.mem_flatMap.2 ⟨z.drop (dep z+1),?_,List.mem_map.2 ⟨u,?_,?_⟩⟩)
    ·refine Jw _ _ (by simp[b.1.1];omega) (λi e => ?_)
     have e:i<o.length-(o.length-k):=by simpa using e
     rw[Jx,Jx,show dep z+1+i=o.length-k+i by omega];exact b.1.2 _ (by omega)
    ·refine Br k u (by omega) (λy hy => ?_) (λi j A m=>by simpa [gt] using l (i+1) (j+1) (by omega) (by simpa using m))
     have a:=h y (List.mem_cons_of_mem _ hy);obtain⟨i,e,hie⟩:=List.getElem_of_mem hy;have:=l 0 (i+1) (by omega) (by simpa using e);have p:gt (z :: u) 0=z:=rfl;have q:gt (z :: u) (i+1)=y:=by simp[gt,e,hie]
     rw[p,q] at this;exact⟨a.1,by omega,a.2.2.1,a.2.2.2⟩
    ·have:=RJ b.1 b.2.2.1 b.2.2.2.2 b.2.2.2.1
     rw[w] at this;rw[w];exact(congrArg (· :: u) this).symm
   ·refine .inl (Br k (z :: u) (by omega) (λy hy => ?_) l)
    have a:=h y hy;refine⟨a.1,?_,a.2.2.1,a.2.2.2⟩;rcases List.mem_cons.1 hy with rfl|r
    ·omega
    ·obtain ⟨i,e,hie⟩:=List.getElem_of_mem r
     have:=l 0 (i+1) (by omega) (by simpa using e);have p:gt (z :: u) 0=z:=rfl;have q:gt (z :: u) (i+1)=y:=by simp[gt,e,hie]
     rw[p,q] at this;omega
theorem sD {α:Type} : ∀(l m:List α),l.Nodup->(∀x∈l,x∈m)->l.length<=m.length
 | [],m,_,_=>by simp
 | a :: l,m,hn,e=>by
  obtain⟨i,j,rfl⟩:=List.append_of_mem (e a (List.mem_cons_self ..));have b:=List.nodup_cons.1 hn
  have:=sD l (i++j) b.2 (λx hx=>by
   have h1:=e x (List.mem_cons_of_mem _ hx);rw[List.mem_append,List.mem_cons] at h1;rw[List.mem_append];rcases h1 with h1|h1|h1
   ·exact .inl h1
   ·subst h1;exact absurd hx b.1
   ·exact .inr h1)
  simp only[List.length_append,List.length_cons] at *;omega
theorem RL {o:List Int}(h:∀a∈o,2<=a):1<=lS o:=by
 induction o with
 | nil=>simp[lS]
 | cons a o e=>
  have:=e (λb i=>h b (List.mem_cons_of_mem _ i));have:=h a (List.mem_cons_self ..);rw[lS];exact Nat.mul_pos (by omega) (by omega)
def zq (c:Nat):Nat:=if c<2 then 1 else if c<4 then 2 else if c<8 then 8 else if c<16 then 64 else if c<32 then 1024 else 17408
theorem RM:∀c,c<33->2<=c->zq (c/2)*(1+c/2)<=zq c:=by decide
theorem RN (c:Nat):1<=zq c:=by
 unfold zq;repeat' split
 all_goals omega
theorem RO (o:List Int) (r:∀a∈o,2<=a) (u:lS o<=32):(oP o o.length).length<=17408:=by
 have i:∀(l:List Int),(∀a∈l,2<=a)->∀a,2<=a->lS l<=lS (a :: l)/2:=λl _ a ha=>by
  rw[lS,Nat.le_div_iff_mul_le (by omega),Nat.mul_comm];exact Nat.mul_le_mul_right _ (by omega)
 have key:∀(m:List Int) (c:Nat),(∀a∈m,2<=a)->lS m<=c->c<=32->∀pre:List Int,o=pre++m->(oP o m.length).length<=zq c:=by
  intro m;induction m with
  | nil=>intro c _ _ _ pre _;simp[oP];exact RN c
  | cons a m w=>
   intro c ha y z pre q;have j:=ha a (List.mem_cons_self ..);have e:∀b∈m,2<=b:=λb A=>ha b (List.mem_cons_of_mem _ A);have B:=i m e a j;have C:=RL e;have k:lS m<=c/2:=Nat.le_trans B (Nat.div_le_div_right y);have D:=w (c/2) e k (by omega) (pre++[a]) (by rw[q];simp)
   have p:o.drop (o.length-m.length)=m:=by
    rw[q];rw[show(pre++a :: m).length-m.length=(pre++[a]).length by simp;omega,show pre++a :: m=(pre++[a])++m by simp];exact List.drop_left
   rw[List.length_cons,RI,p];have h1:1+lS m<=1+c/2:=by omega
   exact Nat.le_trans (Nat.mul_le_mul D h1) (RM c (by omega) (by omega))
 exact key o 32 r u (by omega) [] rfl
end Go.Proofs.YtoakmefajbbggaaGreat
namespace Go.Proofs.YtoakmefajbbggaaGreat
open Go.RowKit
def fJ (P:Pr) (U:List (List Int)):Nat->Int
 | 0=>1
 | k+1=>fJ P U k*gt P.orders (dep (gt U k))
theorem RP {P:Pr}(hP:Valid P) {U:List (List Int)}(e:iY P U):∀k m,k<=U.length->(∀j,j<k->dep (gt U j)<m)->m<=P.orders.length->1<=fJ P U k/\fJ P U k<=gI P.orders m:=by
 intro k;induction k with
 | zero=>intro m _ _ l;exact⟨by simp[fJ],uE m (λi p=>hP.pos i (by omega))⟩
 | succ k q=>
  intro m hk a l;have u:=a k (by omega);have b:k<U.length:=by omega
  obtain⟨h1,h2⟩:=q (dep (gt U k)) (by omega) (λj a=>e.2 j k a b) (by omega);have w:=hP.gh (dep (gt U k)) (by omega);have y:fJ P U k*gt P.orders (dep (gt U k))<=gI P.orders (dep (gt U k))*gt P.orders (dep (gt U k)):=Int.mul_le_mul_of_nonneg_right h2 (by omega);have r:gI P.orders (dep (gt U k)+1)<=gI P.orders m:=BI _ _ (by omega) (λi p=>hP.pos i (by omega));have z:1*1<=fJ P U k*gt P.orders (dep (gt U k)):=Int.mul_le_mul h1 (by omega) (by omega) (by omega);simp only[gI] at r;simp only[fJ];exact⟨by omega,by omega⟩
theorem ry {P:Pr}(hP:Valid P) {U:List (List Int)}(a:iY P U) (k:Nat) (hk:k<=U.length):1<=fJ P U k/\fJ P U k<=729:=by
 obtain⟨h1,h2⟩:=RP hP a k P.orders.length hk (λj b=>(a.1 _ (fT (by omega))).2.1) (Nat.le_refl _);have:=hP.mO;exact⟨h1,by omega⟩
theorem AU (P:Pr) (hP:Valid P) (w:World) (p I:Value) (U:List (List Int)) (Q J:Nat->Prop) (K:fB Q w p P) (L:dK J w I U) (y:iY P U) (Z:U.length<=100) :
  Calls Tryz.prog 82 #[p,I] w (fq w λ_ v=>v=.int .i64 (fJ P U U.length)):=by
 have R:=hP.n6;obtain⟨pb,po,rfl⟩:=K.shape;obtain⟨ao,iA,oH,A⟩:=K.iO;obtain⟨au,jA,rfl,_,_⟩:=Sl.shape L;have B:∀z∈U,dep z<z.length:=λz S=>by have:=y.1 z S;rw[this.1.1];exact this.2.1
 have M:=Lib.hid y;clear y;go_enter Tryz.func82,Tryz.ntmps82;go_wp2_with fail
 refine Calls.mono (C5 _ U w J L B (by omega)) ?_;rintro e1 T ⟨pv,rfl,j,k⟩
 have m:∃V q,pv=.slice V U.length q:=by
  rcases k.form with⟨h1,l⟩|⟨g,cp,h1,_⟩
  ·have W:U.length=0:=by unfold ij at l;rw[List.map_eq_nil_iff] at l;rw[l];rfl
   exact⟨none,0,by rw[h1,W]⟩
  ·exact⟨_,_,by rw[h1];unfold ij;rw[List.length_map]⟩
 obtain⟨ap,kS,rfl⟩:=m;go_wp2;go_loopw [5,11] (λmv C wr=>∃i:Nat,mv=.int .i64 (fJ P U i)/\C=.int .i64 i/\i<=U.length/\T=wr) (λ_ C _=>U.length-(intOf C).toNat)
 case atStart=>exact⟨0,rfl,rfl,by omega,rfl⟩
 case round=>
  obtain⟨i,rfl,rfl,hi,rfl⟩:=hrel;by_cases a:i<U.length
  ·have N:(i:Int)<U.length:=by omega
   have r:gt (ij U) i=.int .i64 (dep (gt U i)):=by unfold ij;rw[jM _ _ _ a]
   have D:∃g,ap=some ⟨g,0,none⟩:=by
    rcases k.form with⟨h1,l⟩|⟨g,cp,h1,_⟩
    ·unfold ij at l;rw[List.map_eq_nil_iff] at l;rw[l] at a;simp at a
    ·simp only[Value.slice.injEq] at h1;exact⟨g,h1.1⟩
   obtain⟨gp,rfl⟩:=D;have u:=k.cell i (by unfold ij;rw[List.length_map];exact a);rw[r] at u;clear r;have e:fJ P U (i+1)=fJ P U i*gt P.orders (dep (gt U i)):=rfl;have E:=ry hP M.out (i+1) a;rw[e] at E;obtain⟨d,F⟩:∃d,d=dep (gt U i):=⟨_,rfl⟩;rw[<-F] at u e E;have G:d<P.orders.length:=by rw[F];exact(M.out.1 _ (fT a)).2.1
   clear F;have O:(d:Int)<P.orders.length:=by omega
   obtain⟨b,off,rfl,_,_,gJ⟩:=Ints.at (A.ext j) d G;have X:=j.cell oH (by simp);have hw:IntKind.i64.wrap (fJ P U i*gt P.orders d)=fJ P U i*gt P.orders d:=IntWalk.i64_in _ (by omega);have Y:=Lib.hid e;clear e E;go_wp2;go_roundw
   case rel=>exact⟨i+1,by rw[Y.out],by go_num,by omega,trivial⟩
   case measure=>simp[intOf];omega
  ·have H:i=U.length:=by omega
   subst H;go_wp2;go_ret;exact⟨_,rfl,j,rfl⟩
end Go.Proofs.YtoakmefajbbggaaGreat
namespace Go.Proofs.YtoakmefajbbggaaGreat
open Classical in
noncomputable def xm (P:Pr) (H:List Int->Prop):Nat->Nat
 | 0=>0
 | k+1=>if H (fF P k) then xm P H k ||| 2 ^ k else xm P H k
noncomputable def gB (P:Pr) (H:List Int->Prop):Nat:=xm P H (eW P).toNat
theorem qU (k t:Nat):(2 ^ k).testBit t=decide (k=t):=by
 by_cases h:k=t
 ·subst h;simp
 ·simp[Nat.testBit_two_pow_of_ne h,h]
theorem Jy (P:Pr) (H:List Int->Prop) (k t:Nat):(xm P H k).testBit t=true↔t<k/\H (fF P t):=by
 induction k with
 | zero=>simp[xm]
 | succ k b=>
  rw[xm];split
  ·rename_i h
   rw[Nat.testBit_or,Bool.or_eq_true,b,qU,decide_eq_true_iff];constructor
   ·rintro (⟨h1,h2⟩|h1)
    ·exact⟨by omega,h2⟩
    ·subst h1;exact⟨by omega,h⟩
   ·rintro ⟨h1,h2⟩
    rcases Nat.lt_succ_iff_lt_or_eq.1 h1 with a|a
    ·exact .inl ⟨a,h2⟩
    ·exact .inr a.symm
  ·rename_i h
   rw[b];constructor
   ·rintro⟨h1,h2⟩;exact⟨by omega,h2⟩
   ·rintro ⟨h1,h2⟩
    rcases Nat.lt_succ_iff_lt_or_eq.1 h1 with a|a
    ·exact⟨a,h2⟩
    ·subst a;exact absurd h2 h
theorem nH {P:Pr}{H:List Int->Prop}{t:Nat}(a:t<(eW P).toNat):(gB P H).testBit t=true↔H (fF P t):=by
 unfold gB;rw[Jy];exact⟨λh=>h.2,λh=>⟨a,h⟩⟩
theorem Bt {P:Pr}{H:List Int->Prop}{t:Nat}(a:(eW P).toNat<=t):(gB P H).testBit t=false:=by
 rw[Bool.eq_false_iff];intro h;unfold gB at h;rw[Jy] at h;omega
theorem zu {P:Pr}{H:List Int->Prop}{m:Nat}(h1:∀t,t<(eW P).toNat->(m.testBit t=true↔H (fF P t))) (b:∀t,(eW P).toNat<=t->m.testBit t=false):m=gB P H:=by
 apply Nat.eq_of_testBit_eq;intro t;by_cases a:t<(eW P).toNat
 ·exact Bool.eq_iff_iff.2 ((h1 t a).trans (nH a).symm)
 ·rw[b t (by omega),Bt (by omega)]
theorem Jz (P:Pr) (H:List Int->Prop):gB P H<2 ^ (eW P).toNat:=by
 apply Nat.lt_pow_two_of_testBit;intro t a;exact Bt a
section
variable {P:Pr}(G:ez P)
include G
theorem ez.kE {x:List Int}(hx:dL P.orders x):(num P x).toNat<(eW P).toNat/\fF P ((num P x).toNat:Int)=x:=by
 have a:=oB G.v hx;refine⟨by omega,?_⟩;rw[show(((num P x).toNat:Nat):Int)=num P x by omega];exact uX G.v hx
theorem ez.um {H:List Int->Prop}(_hH:∀x,H x->dL P.orders x) {x:List Int}(hx:dL P.orders x):(gB P H).testBit (num P x).toNat=true↔H x:=by
 obtain⟨h1,h2⟩:=G.kE hx;rw[nH h1,h2]
theorem ez.DV {H K:List Int->Prop}(S:Sub P H) (R:Sub P K) (h:gB P H=gB P K):H=K:=
 funext λx=>propext ⟨λhx=>(G.um R.vec (S.vec x hx)).1 (h▸(G.um S.vec (S.vec x hx)).2 hx),λhx=>(G.um S.vec (R.vec x hx)).1 (h▸(G.um R.vec (R.vec x hx)).2 hx)⟩
theorem ez.JA {H:List Int->Prop}(h1:∀x,H x->dL P.orders x) (l:H (zeros P.orders.length)) (p:∀x y,H x->H y->H (fC P x y)):Sub P H:=by
 refine⟨h1,l,p,λx hx => ?_⟩;have a:=h1 x hx;obtain⟨M,hM,q⟩:=G.fin P.orders.length 0 x (by omega) (pP.2 a)
 have j:∀k,H (pw P x k):=λk=>by
  induction k with
  | zero=>exact l
  | succ k r=>exact p _ _ r hx
 obtain⟨m,rfl⟩:∃m,M=m+1:=⟨M-1,by omega⟩
 have e:gj P x=pw P x m:=by
  have b:=G.invV a;have i:=G.kf a m;rw[G.IG a] at q;rw[<-G.fS.er _ b,<-q,<-G.ass b a i,G.inv_mul a,G.fS.el _ i]
 rw[e];exact j m
def lG (P:Pr) (H:List Int->Prop) (x:List Int):List Int->Prop:=gi P (λy=>H y\/y=x)
omit G in
theorem RQ (P:Pr) (y:List Int) (l:List (List Int)):gi P (λx=>x∈y :: l)=lG P (gi P (λx=>x∈l)) y:=by
 unfold lG;rw[zY];congr 1
 funext x
 exact propext (by rw[List.mem_cons];exact Or.comm)
theorem ez.RR {M:List Nat}(j:gB P (λx=>x=zeros P.orders.length)∈M)
  (k:∀H,Sub P H->gB P H∈M->∀t,t<(eW P).toNat->¬H (fF P t)->gB P (lG P H (fF P t))∈M) {H:List Int->Prop}(S:Sub P H):gB P H∈M:=by
 have key:∀l:List (List Int),(∀x∈l,dL P.orders x)->gB P (gi P (λx=>x∈l))∈M:=by
  intro l;induction l with
  | nil=>
   intro _
   have:gi P (λx=>x∈([]:List (List Int)))=λx=>x=zeros P.orders.length:=by
    rw[<-G.Aa];congr 1;funext x;simp
   rw[this];exact j
  | cons y l m=>
   intro h;have b:=m (λx hx=>h x (List.mem_cons_of_mem _ hx));have hy:=h y (List.mem_cons_self ..);have Sl:=G.qu (Q:=λx=>x∈l) (λx hx=>h x (List.mem_cons_of_mem _ hx));rw[RQ];by_cases a:gi P (λx=>x∈l) y
   ·have:lG P (gi P (λx=>x∈l)) y=gi P (λx=>x∈l):=by
     unfold lG;have e:(λz=>gi P (λx=>x∈l) z\/z=y)=gi P (λx=>x∈l):=funext λz=>propext ⟨λh=>h.elim id (λe=>e▸a),.inl⟩;rw[e];exact EI Sl
    rw[this];exact b
   ·obtain ⟨h1,i⟩:=G.kE hy
    have:=k _ Sl b _ h1 (by rw[i];exact a);rw[i] at this;exact this
 have:=key (fD P H) (λx hx=>S.vec x ((G.iV S).2.1 x hx));rw[G.oC S] at this;exact this
def nG (P:Pr) (m:Nat) (x:List Int):Prop:=dL P.orders x/\m.testBit (num P x).toNat=true
theorem ez.oZ {H:List Int->Prop}(S:Sub P H):nG P (gB P H)=H:=
 funext λx=>propext ⟨λh=>(G.um S.vec h.1).1 h.2,λh=>⟨S.vec x h,(G.um S.vec (S.vec x h)).2 h⟩⟩
omit G in
theorem RS (a:Int) (l:List Int) (k:Nat):gI (a :: l) (k+1)=a*gI l k:=by
 induction k with
 | zero=>simp[gI,gt]
 | succ k b=>
  rw[gI,b];have:gt (a :: l) (k+1)=gt l k:=by simp[gt]
  rw[this,Int.mul_assoc];rfl
omit G in
theorem JB:∀(l:List Int),(∀a∈l,0<=a)->((lS l:Nat):Int)=gI l l.length
 | [],_=>rfl
 | a :: l,h=>by
  have e:=JB l (λb i=>h b (List.mem_cons_of_mem _ i));have ha:=h a (List.mem_cons_self ..);rw[lS,List.length_cons,RS,Int.natCast_mul,e,show((a.toNat:Nat):Int)=a by omega]
omit G in
theorem RT (hP:Valid P):((lS P.orders:Nat):Int)=eW P:=
 JB _ (λa ha=>by
  obtain⟨i,b,rfl⟩:=List.getElem_of_mem ha;rw[<-gM _ _ b];have:=(hP.gh i b).1;omega)
theorem ez.Ax (A:eW P<=32) {M:List Nat}(B:M.Nodup) (k:∀m∈M,∃H,Sub P H/\m=gB P H):M.length<=17408:=by
 have hP:=G.v
 have C:∀a∈P.orders,2<=a:=λa ha=>by
  obtain⟨i,q,rfl⟩:=List.getElem_of_mem ha;rw[<-gM _ _ q];exact(hP.gh i q).1
 have D:lS P.orders<=32:=by have:=RT hP;omega
 have r:=RO P.orders C D
 have l:(M.map (λm=>fD P (nG P m))).Nodup:=by
  refine List.nodup_iff_pairwise_ne.2 ?_;rw[List.pairwise_map];refine(List.nodup_iff_pairwise_ne.1 B).imp_of_mem (λ{a b} ha r p w=>p ?_);obtain⟨H,S,rfl⟩:=k a ha;obtain⟨K,R,rfl⟩:=k b r;rw[G.oZ S,G.oZ R] at w;have:H=K:=by rw[<-G.oC S,<-G.oC R,w]
  rw[this]
 have e:∀u∈M.map (λm=>fD P (nG P m)),u∈oP P.orders P.orders.length:=by
  intro u E;obtain⟨m,hm,rfl⟩:=List.mem_map.1 E;obtain⟨H,S,rfl⟩:=k m hm;rw[G.oZ S];have y:=(G.iV S).1;refine Br _ _ (Nat.le_refl _) (λz F => ?_) y.2;obtain⟨I,z2,z3⟩:=y.1 z F;exact⟨I,by omega,z2,z3,λj J=>Bg J⟩
 have:=sD _ _ l e;rw[List.length_map] at this;omega
end
def iP (P:Pr) (u v:List (List Int)):Prop:=fJ P u u.length<fJ P v v.length\/(fJ P u u.length=fJ P v v.length/\gm u.flatten v.flatten<0)
def jO (P:Pr) (L:List (List (List Int))):Prop:=L.Pairwise (iP P)/\∀u,u∈L↔fO P u
theorem x6 {P:Pr}{u:List (List Int)} : ¬iP P u u:=by
 rintro(h|⟨_,h⟩)
 ·omega
 ·rw[(uh _ _).2 rfl] at h;omega
theorem Av {P:Pr}{u v w:List (List Int)}(h:iP P u v) (k:iP P v w):iP P u w:=by
 unfold iP at *;rcases h with h|⟨h1,b⟩<;>rcases k with k|⟨i,k2⟩
 ·exact .inl (by omega)
 ·exact .inl (by omega)
 ·exact .inl (by omega)
 ·refine .inr ⟨by omega,?_⟩
  have e:=Bo u.flatten v.flatten w.flatten (by omega) (by omega);rcases Int.lt_or_eq_of_le e with a|a
  ·exact a
  ·rw [uh] at a
   rw[a] at b;have:=rJ w.flatten v.flatten;omega
theorem JC {α:Type}{r:α->α->Prop}(j:∀a,¬r a a) (q:∀a b c,r a b->r b c->r a c):∀ {l m:List α},l.Pairwise r->m.Pairwise r->(∀x,x∈l↔x∈m)->l=m
 | [],[],_,_,_=>rfl
 | [],b :: m,_,_,h=>by have:=(h b).2 (List.mem_cons_self ..);cases this
 | a :: l,[],_,_,h=>by have:=(h a).1 (List.mem_cons_self ..);cases this
 | a :: l,b :: m,hl,hm,h=>by
  have e:=List.pairwise_cons.1 hl;have i:=List.pairwise_cons.1 hm
  have k:a=b:=by
   rcases List.mem_cons.1 ((h a).1 (List.mem_cons_self ..)) with h1|h1
   ·exact h1
   ·rcases List.mem_cons.1 ((h b).2 (List.mem_cons_self ..)) with p|p
    ·exact p.symm
    ·exact absurd (q _ _ _ (e.1 b p) (i.1 a h1)) (j a)
  subst k;congr 1
  refine JC j q e.2 i.2 (λx=>⟨λhx => ?_,λhx => ?_⟩)
  ·rcases List.mem_cons.1 ((h x).1 (List.mem_cons_of_mem _ hx)) with h1|h1
   ·subst h1;exact absurd (e.1 _ hx) (j _)
   ·exact h1
  ·rcases List.mem_cons.1 ((h x).2 (List.mem_cons_of_mem _ hx)) with h1|h1
   ·subst h1;exact absurd (i.1 _ hx) (j _)
   ·exact h1
theorem jO.one {P:Pr}{L M:List (List (List Int))}(h:jO P L) (k:jO P M):L=M:=
 JC (λ_=>x6) (λ_ _ _=>Av) h.1 k.1 (λu=>(h.2 u).trans (k.2 u).symm)
def tb (P:Pr) (a b:Nat):Nat:=(num P (fC P (fF P a) (fF P b))).toNat
def oQ (P:Pr) (m a n:Nat):Nat->Nat
 | 0=>n
 | b+1=>if m.testBit b then oQ P m a n b ||| 2 ^ tb P a b else oQ P m a n b
def nr (P:Pr) (N m:Nat):Nat->Nat
 | 0=>m
 | a+1=>if m.testBit a then oQ P m a (nr P N m a) N else nr P N m a
theorem JD (P:Pr) (m a n k t:Nat):(oQ P m a n k).testBit t=true↔n.testBit t=true\/∃b,b<k/\m.testBit b=true/\tb P a b=t:=by
 induction k with
 | zero=>simp[oQ]
 | succ k i=>
  rw[oQ];split
  ·rename_i h
   rw[Nat.testBit_or,Bool.or_eq_true,i,qU,decide_eq_true_iff];constructor
   ·rintro ((h1|⟨b,h1,h2,h3⟩)|h1)
    ·exact .inl h1
    ·exact .inr ⟨b,by omega,h2,h3⟩
    ·exact .inr ⟨k,by omega,h,h1⟩
   ·rintro (h1|⟨b,h1,h2,h3⟩)
    ·exact .inl (.inl h1)
    ·rcases Nat.lt_succ_iff_lt_or_eq.1 h1 with e|e
     ·exact .inl (.inr ⟨b,e,h2,h3⟩)
     ·subst e;exact .inr h3
  ·rename_i h
   rw[i];constructor
   ·rintro (h1|⟨b,h1,h2,h3⟩)
    ·exact .inl h1
    ·exact .inr ⟨b,by omega,h2,h3⟩
   ·rintro (h1|⟨b,h1,h2,h3⟩)
    ·exact .inl h1
    ·rcases Nat.lt_succ_iff_lt_or_eq.1 h1 with e|e
     ·exact .inr ⟨b,e,h2,h3⟩
     ·subst e;exact absurd h2 h
theorem xq (P:Pr) (N m k t:Nat):(nr P N m k).testBit t=true↔m.testBit t=true\/∃a b,a<k/\b<N/\m.testBit a=true/\m.testBit b=true/\tb P a b=t:=by
 induction k with
 | zero=>simp[nr]
 | succ k i=>
  rw[nr];split
  ·rename_i h
   rw[JD,i];constructor
   ·rintro ((h1|⟨a,b,h1,h2,h3,h4,h5⟩)|⟨b,h1,h2,h3⟩)
    ·exact .inl h1
    ·exact .inr ⟨a,b,by omega,h2,h3,h4,h5⟩
    ·exact .inr ⟨k,b,by omega,h1,h,h2,h3⟩
   ·rintro (h1|⟨a,b,h1,h2,h3,h4,h5⟩)
    ·exact .inl (.inl h1)
    ·rcases Nat.lt_succ_iff_lt_or_eq.1 h1 with e|e
     ·exact .inl (.inr ⟨a,b,e,h2,h3,h4,h5⟩)
     ·subst e;exact .inr ⟨b,h2,h4,h5⟩
  ·rename_i h
   rw[i];constructor
   ·rintro (h1|⟨a,b,h1,h2,h3,h4,h5⟩)
    ·exact .inl h1
    ·exact .inr ⟨a,b,by omega,h2,h3,h4,h5⟩
   ·rintro (h1|⟨a,b,h1,h2,h3,h4,h5⟩)
    ·exact .inl h1
    ·rcases Nat.lt_succ_iff_lt_or_eq.1 h1 with e|e
     ·exact .inr ⟨a,b,e,h2,h3,h4,h5⟩
     ·subst e;exact absurd h3 h
structure sY (P:Pr) (H:List Int->Prop) (x:Nat) (m:Nat):Prop where
 high:∀t,(eW P).toNat<=t->m.testBit t=false
 below:∀t,t<(eW P).toNat->m.testBit t=true->lG P H (fF P x) (fF P t)
 above:∀t,t<(eW P).toNat->H (fF P t)\/t=x->m.testBit t=true
theorem RU {a b:Nat}(h:∀t,a.testBit t=true->b.testBit t=true):a<=b:=by
 have:a ||| b=b:=Nat.eq_of_testBit_eq (λt=>by
  rw[Nat.testBit_or];cases e:b.testBit t with
  | true=>simp
  | false=>
   cases ha:a.testBit t with
   | true=>rw[h t ha] at e;cases e
   | false=>rfl)
 rw[<-this];exact Nat.left_le_or
section
variable {P:Pr}(G:ez P)
include G
theorem ez.kD {t:Nat}(_ht:t<(eW P).toNat):dL P.orders (fF P t):=rz G.v _ (by omega)
theorem ez.qV {t:Nat}(a:t<(eW P).toNat):(num P (fF P t)).toNat=t:=by
 rw[tK G.v _ (by omega) (by omega)];omega
theorem ez.nI {a b:Nat}(ha:a<(eW P).toNat) (e:b<(eW P).toNat):tb P a b<(eW P).toNat/\fF P (tb P a b)=fC P (fF P a) (fF P b):=
 G.kE (G.gz (G.kD ha) (G.kD e))
theorem ez.JE {H:List Int->Prop}(S:Sub P H) {x:List Int}(hx:dL P.orders x):Sub P (lG P H x):=
 G.qu (λy h=>h.elim (S.vec y) (λe=>e▸hx))
omit G in
theorem RV {H:List Int->Prop}{x:Nat}(hx:x<(eW P).toNat):sY P H x (gB P H ||| 2 ^ x):=by
 refine⟨λt a => ?_,λt a h => ?_,λt a h => ?_⟩
 ·rw[Nat.testBit_or,Bt a,qU,Bool.false_or,decide_eq_false_iff_not];omega
 ·rw [Nat.testBit_or,Bool.or_eq_true,nH a,qU,decide_eq_true_iff] at h
  rcases h with h|h
  ·exact qa (.inl h)
  ·subst h;exact qa (.inr rfl)
 ·rw [Nat.testBit_or,Bool.or_eq_true,nH a,qU,decide_eq_true_iff]
  exact h.imp id (λe=>e.symm)
theorem ez.RX {H:List Int->Prop}(S:Sub P H) {x m:Nat}(hx:x<(eW P).toNat) (B:sY P H x m):sY P H x (nr P (eW P).toNat m (eW P).toNat):=by
 have k:=G.JE S (G.kD hx);refine⟨λt e => ?_,λt e h => ?_,λt e h => ?_⟩
 ·rw [Bool.eq_false_iff]
  intro h;rw[xq] at h;rcases h with h|⟨a,b,h1,i,_,_,j⟩
  ·rw[B.high t e] at h;cases h
  ·have:=(G.nI h1 i).1;omega
 ·rw [xq] at h
  rcases h with h|⟨a,b,h1,i,l,p,j⟩
  ·exact B.below t e h
  ·rw [<-j,(G.nI h1 i).2]
   exact k.mul _ _ (B.below a h1 l) (B.below b i p)
 ·rw[xq];exact .inl (B.above t e h)
omit G in
theorem RY (N m k:Nat):m<=nr P N m k:=RU (λt h=>(xq P N m k t).2 (.inl h))
theorem ez.RZ {H:List Int->Prop}(S:Sub P H) {x m:Nat}(hx:x<(eW P).toNat) (B:sY P H x m) (k:nr P (eW P).toNat m (eW P).toNat=m):m=gB P (lG P H (fF P x)):=by
 have l:Sub P (nG P m):=by
  refine G.JA (λy h=>h.1) ⟨G.jP,?_⟩ (λy z hy a=>⟨G.gz hy.1 a.1,?_⟩)
  ·obtain ⟨h1,i⟩:=G.kE G.jP
   exact B.above _ h1 (.inl (by rw[i];exact S.one))
  ·obtain ⟨p,q⟩:=G.kE hy.1
   obtain⟨r,z2⟩:=G.kE a.1;have:(nr P (eW P).toNat m (eW P).toNat).testBit (tb P (num P y).toNat (num P z).toNat)=true:=(xq _ _ _ _ _).2 (.inr ⟨_,_,p,r,hy.2,a.2,rfl⟩);rw[k] at this;unfold tb at this;rw[q,z2] at this;exact this
 have b:∀y,lG P H (fF P x) y->nG P m y:=λy hy=>hy _ l (λz a=>by
  rcases a with a|a
  ·have e:=S.vec z a
   obtain⟨h1,i⟩:=G.kE e;exact⟨e,B.above _ h1 (.inl (by rw[i];exact a))⟩
  ·subst a
   exact⟨G.kD hx,by rw[G.qV hx];exact B.above x hx (.inr rfl)⟩)
 refine zu (λt j=>⟨B.below t j,λh => ?_⟩) B.high;have:=(b _ h).2;rwa [G.qV j] at this
omit G in
theorem JF {H:List Int->Prop}{x m:Nat}(B:sY P H x m):m<2 ^ (eW P).toNat:=Nat.lt_pow_two_of_testBit _ (λt a=>B.high t a)
end
theorem R1 {m y:Nat}(h:m.testBit y=false):m+2 ^ y=m ||| 2 ^ y:=by
 have a:m%2 ^ (y+1)<2 ^ y:=by
  rcases Nat.lt_or_ge (m%2 ^ (y+1)) (2 ^ y) with h1|h1
  ·exact h1
  ·have l:m%2 ^ (y+1)<2 ^ (y+1):=Nat.mod_lt _ (Nat.two_pow_pos _)
   have i:=Nat.testBit_of_two_pow_le_and_two_pow_add_one_gt h1 l;rw[Nat.testBit_mod_two_pow] at i;simp[h] at i
 have j:=Nat.two_pow_add_eq_or_of_lt a 1;rw[Nat.mul_one] at j
 have b:2 ^ y+m%2 ^ (y+1)<2 ^ (y+1):=by
  have e:=Nat.pow_succ (n:=2) (m:=y);omega
 have p:=Nat.two_pow_add_eq_or_of_lt b (m/2 ^ (y+1));have k:=Nat.two_pow_add_eq_or_of_lt (Nat.lt_trans a (Nat.pow_lt_pow_right (by omega) (Nat.lt_succ_self y))) (m/2 ^ (y+1));have q:=Nat.div_add_mod m (2 ^ (y+1));have r:m+2 ^ y=2 ^ (y+1)*(m/2 ^ (y+1))+(2 ^ y+m%2 ^ (y+1)):=by omega
 rw[r,p,j];rw[q] at k;rw[<-Nat.or_assoc,Nat.or_comm _ (2 ^ y),Nat.or_assoc,<-k,Nat.or_comm]
def Bits (m:Nat) (q:List Nat):Prop:=∀t,m.testBit t=true↔t∈q
theorem Bits.app {m y:Nat}{q:List Nat}(h:Bits m q) (hy:¬y∈q):Bits (m+2 ^ y) (q++[y]):=λt=>by
 have:m.testBit y=false:=by
  rw[Bool.eq_false_iff];exact λe=>hy ((h y).1 e)
 rw[R1 this,Nat.testBit_or,Bool.or_eq_true,h t,qU,decide_eq_true_iff,List.mem_append,List.mem_singleton];exact or_congr Iff.rfl eq_comm
theorem tC {P:Pr}(_hP:Valid P):num P (zeros P.orders.length)=0:=by
 have key:∀k,iq P.orders (zeros P.orders.length) k=0:=by
  intro k;induction k with
  | zero=>rfl
  | succ k a=>
   have b:gt (zeros P.orders.length) k=0:=jw _ _;simp only[iq,a,b];simp
 exact key _
def mG (P:Pr) (gs:List Nat):List Int->Prop:=gi P (λy=>∃g∈gs,y=fF P g)
structure nU (P:Pr) (gs q:List Nat) (k i:Nat):Prop where
 nd:q.Nodup
 rM:∀t∈q,t<(eW P).toNat/\mG P gs (fF P t)
 zero:0∈q
 done:∀j,j<k->∀g∈gs,tb P (gt q j) g∈q
 part:∀j,j<i->tb P (gt q k) (gt gs j)∈q
section
variable {P:Pr}(G:ez P)
include G
theorem ez.BU {gs:List Nat}(h:∀g∈gs,g<(eW P).toNat):Sub P (mG P gs):=G.qu (λ_ ⟨g,a,e⟩=>e▸G.kD (h g a))
theorem ez.BS:fF P ((0:Nat):Int)=zeros P.orders.length:=by
 have h:=G.kE G.jP;have a:num P (zeros P.orders.length)=0:=tC G.v;rw[a] at h;exact h.2
theorem ez.R2 (gs:List Nat):nU P gs [0] 0 0:=by
 have a:=G.v.kT;refine⟨by simp,λt b => ?_,by simp,λj e=>by omega,λj e=>by omega⟩;have:t=0:=by simpa using b
 subst this;exact⟨by omega,by rw[G.BS];intro H S _;exact S.one⟩
omit G in
theorem nU.len {gs q:List Nat}{k i:Nat}(h:nU P gs q k i):q.length<=(eW P).toNat:=by
 have:=sD q (List.range (eW P).toNat) h.nd (λt a=>List.mem_range.2 (h.rM t a).1);simpa using this
omit G in
theorem nU.next {gs q:List Nat}{k:Nat}(h:nU P gs q k gs.length):nU P gs q (k+1) 0:=
 ⟨h.nd,h.rM,h.zero,λj a g b=>by
  rcases Nat.lt_succ_iff_lt_or_eq.1 a with h1|h1
  ·exact h.done j h1 g b
  ·subst h1
   obtain⟨i,e,rfl⟩:=List.getElem_of_mem b;rw[<-gM gs i e];exact h.part i e,λj a=>by omega⟩
omit G in
theorem nU.skip {gs q:List Nat}{k i:Nat}(h:nU P gs q k i) (hy:tb P (gt q k) (gt gs i)∈q):nU P gs q k (i+1):=
 ⟨h.nd,h.rM,h.zero,h.done,λj a=>by
  rcases Nat.lt_succ_iff_lt_or_eq.1 a with h1|h1
  ·exact h.part j h1
  ·subst h1;exact hy⟩
theorem ez.R3 {gs q:List Nat}{k i:Nat}(h:nU P gs q k i) (z:∀g∈gs,g<(eW P).toNat) (hk:k<q.length) (A:i<gs.length) (hy:¬tb P (gt q k) (gt gs i)∈q):nU P gs (q++[tb P (gt q k) (gt gs i)]) k (i+1):=by
 have l:=h.rM _ (fT hk);have p:=z _ (fT A);have m:=G.nI l.1 p;have S:=G.BU z;have r:∀t,t∈q->t∈q++[tb P (gt q k) (gt gs i)]:=λt u=>List.mem_append.2 (.inl u);refine⟨?_,λt u => ?_,r _ h.zero,λj w g y => ?_,λj w => ?_⟩
 ·rw [List.nodup_append]
  exact ⟨h.nd,by simp,λa ha b B=>by
   rw[List.mem_singleton.1 B];exact λe=>hy (e▸ha)⟩
 ·rcases List.mem_append.1 u with h1|h1
  ·exact h.rM t h1
  ·rw [List.mem_singleton.1 h1]
   exact⟨m.1,by rw[m.2];exact S.mul _ _ l.2 (qa ⟨_,fT A,rfl⟩)⟩
 ·rw[iX _ _ _ (by omega)];exact r _ (h.done j w g y)
 ·rw [iX _ _ _ hk]
  rcases Nat.lt_succ_iff_lt_or_eq.1 w with h1|h1
  ·exact r _ (h.part j h1)
  ·subst h1;exact List.mem_append.2 (.inr (List.mem_singleton_self _))
theorem ez.R4 {gs:List Nat}(l:∀g∈gs,g<(eW P).toNat) {K:List Int->Prop}(m:∀y,K y->dL P.orders y) (h1:K (zeros P.orders.length)) (q:∀y,K y->∀g∈gs,K (fC P y (fF P g))):∀z,mG P gs z->K z:=by
 have S:Sub P (λz=>dL P.orders z/\∀y,K y->K (fC P y z)):=G.JA (λ_ h=>h.1) ⟨G.jP,λy hy=>by rw[G.fS.er _ (m y hy)];exact hy⟩
  (λa b ha j=>⟨G.gz ha.1 j.1,λy hy=>by rw[<-G.ass (m y hy) ha.1 j.1];exact j.2 _ (ha.2 y hy)⟩)
 intro z p;have:=(p _ S (λy ⟨g,i,e⟩=>e▸⟨G.kD (l g i),λy hy=>q y hy g i⟩)).2 _ h1;have k:=(G.BU l).vec z p;rwa [G.fS.el _ k] at this
theorem ez.R5 {gs q:List Nat}(i:∀g∈gs,g<(eW P).toNat) (h:nU P gs q q.length 0) {m:Nat}(b:Bits m q):m=gB P (mG P gs):=by
 refine zu (λt k=>⟨λr=>(h.rM t ((b t).1 r)).2,λu => ?_⟩) (λt k => ?_)
 ·have l:=G.R4 i (K:=λy=>dL P.orders y/\(num P y).toNat∈q) (λ_ h=>h.1) ⟨G.jP,by rw[tC G.v];exact h.zero⟩ (λy hy g a=>by
   refine⟨G.gz hy.1 (G.kD (i g a)),?_⟩;obtain⟨j,p,rI⟩:=List.getElem_of_mem hy.2;have:=h.done j p g a;unfold tb at this;rw[gM q j p,rI,(G.kE hy.1).2] at this;exact this) _ u
  rw[G.qV k] at l;exact(b t).2 l.2
 ·rw [Bool.eq_false_iff]
  intro e;have:=(h.rM t ((b t).1 e)).1;omega
omit G in
theorem KD (gs:List Nat) (t:Nat):mG P (gs++[t])=lG P (mG P gs) (fF P t):=by
 unfold mG lG;rw[zY];congr 1
 funext y
 exact propext ⟨λ⟨g,a,e⟩=>(List.mem_append.1 a).elim (λh => .inl ⟨g,h,e⟩) (λh => .inr (by rw[<-List.mem_singleton.1 h];exact e)),λh=>h.elim (λ⟨g,a,e⟩=>⟨g,List.mem_append.2 (.inl a),e⟩) (λe=>⟨t,by simp,e⟩)⟩
theorem ez.Kz:mG P []=λx=>x=zeros P.orders.length:=by
 rw[<-G.Aa];unfold mG;congr 1;funext y;simp
end
def jr (P:Pr) (m:Nat):Nat->List (List Int)
 | 0=>[]
 | k+1=>if k≠0/\m.testBit k=true then jr P m k++[fF P k] else jr P m k
theorem DW {P:Pr}{m k:Nat}{x:List Int} : x∈jr P m k↔∃t,t<k/\t≠0/\m.testBit t=true/\x=fF P t:=by
 induction k with
 | zero=>simp[jr]
 | succ k b=>
  rw[jr];split
  ·rename_i h
   rw[List.mem_append,b,List.mem_singleton];constructor
   ·rintro (⟨t,h1,h2⟩|h1)
    ·exact⟨t,by omega,h2⟩
    ·exact⟨k,by omega,h.1,h.2,h1⟩
   ·rintro ⟨t,h1,h2,h3,h4⟩
    rcases Nat.lt_succ_iff_lt_or_eq.1 h1 with a|a
    ·exact .inl ⟨t,a,h2,h3,h4⟩
    ·subst a;exact .inr h4
  ·rename_i h
   rw[b];constructor
   ·rintro⟨t,h1,h2⟩;exact⟨t,by omega,h2⟩
   ·rintro ⟨t,h1,h2,h3,h4⟩
    rcases Nat.lt_succ_iff_lt_or_eq.1 h1 with a|a
    ·exact⟨t,a,h2,h3,h4⟩
    ·subst a;exact absurd ⟨h2,h3⟩ h
theorem JG (P:Pr) (m k:Nat):(jr P m k).length<=k:=by
 induction k with
 | zero=>simp[jr]
 | succ k a=>
  rw[jr];split
  ·rw[List.length_append,List.length_singleton];omega
  ·omega
def Fits (P:Pr) (L:List (List Int)) (d:Nat) (x:List Int):Prop:=dep x=d/\gt x d=1/\∀e,d<e->e<P.orders.length->(∃y∈L,dep y=e)->gt x e=0
open Classical in
noncomputable def DX (P:Pr) (L:List (List Int)) (d:Nat):List (List Int):=L.filter (λx=>decide (Fits P L d x))
noncomputable def pQ (P:Pr) (L:List (List Int)):Nat->List (List Int)
 | 0=>[]
 | d+1=>pQ P L d++DX P L d
theorem filter_one {α:Type}{l:List α}{p:α->Bool}{a:α}(m:l.Nodup) (ha:a∈l) (h:∀x∈l,p x=true↔x=a):l.filter p=[a]:=by
 induction l with
 | nil=>cases ha
 | cons b l q=>
  have i:=List.nodup_cons.1 m;by_cases j:b=a
  ·subst j
   rw[List.filter_cons_of_pos ((h b (List.mem_cons_self ..)).2 rfl)];have:l.filter p=[]:=List.filter_eq_nil_iff.2 (λx hx k=>i.1 (((h x (List.mem_cons_of_mem _ hx)).1 k)▸hx));rw[this]
  ·rw [List.filter_cons_of_neg (λk=>j ((h b (List.mem_cons_self ..)).1 k))]
   exact q i.2 ((List.mem_cons.1 ha).resolve_left (λe=>j e.symm)) (λx hx=>h x (List.mem_cons_of_mem _ hx))
section
variable {P:Pr}(G:ez P)
include G
theorem ez.Bu {H:List Int->Prop}(S:Sub P H) {x:List Int} : x∈jr P (gB P H) (eW P).toNat↔H x/\x≠zeros P.orders.length:=by
 rw[DW];constructor
 ·rintro ⟨t,h1,h2,a,rfl⟩
  rw[nH h1] at a;refine⟨a,λe=>h2 ?_⟩;have b:=G.qV h1;rw[e,tC G.v] at b;exact b.symm
 ·rintro ⟨h1,h2⟩
  have i:=S.vec x h1;obtain⟨k,j⟩:=G.kE i;refine⟨_,k,λe=>h2 ?_,(G.um S.vec i).2 h1,j.symm⟩;rw[<-j,e];exact G.BS
theorem ez.R6 (m:Nat):∀k,k<=(eW P).toNat->(jr P m k).Nodup:=by
 intro k;induction k with
 | zero=>intro _;simp[jr]
 | succ k i=>
  intro hk;have h1:=i (by omega);rw[jr];split
  ·rw [List.nodup_append]
   refine⟨h1,by simp,λa ha b j e => ?_⟩;rw[List.mem_singleton.1 j] at e;obtain⟨t,t1,_,_,t4⟩:=DW.1 ha;have l:=G.qV (t:=t) (by omega);have p:=G.qV (t:=k) (by omega);rw[<-t4,e] at l;omega
  ·exact h1
open Classical in
theorem ez.R7 {H:List Int->Prop}(S:Sub P H) {r:Nat->List Int}(A:Red P H r) {d:Nat}(w:d<P.orders.length) :
  DX P (jr P (gB P H) (eW P).toNat) d=if r d=[] then [] else [r d]:=by
 have i:∀e,e<P.orders.length->((∃y∈jr P (gB P H) (eW P).toNat,dep y=e)↔r e≠[]):=λe k=>by
  constructor
  ·rintro ⟨y,hy,rfl⟩
   obtain⟨O,_⟩:=(G.Bu S).1 hy;have E:=S.vec y O;exact A.piv y O _ k (qF E) (sU (by rw[E.1];exact k))
  ·intro h
   obtain⟨F,m2,l⟩:=A.mem e k h;refine⟨r e,(G.Bu S).2 ⟨F,λz => ?_⟩,DD k m2 (by rw[l];decide)⟩;rw[z] at l;have:gt (zeros P.orders.length) e=0:=jw _ _;rw[this] at l;cases l
 unfold DX;by_cases u:r d=[]
 ·rw [if_pos u]
  refine List.filter_eq_nil_iff.2 (λx hx I => ?_);have R:=of_decide_eq_true I;exact(i d w).1 ⟨x,hx,R.1⟩ u
 ·rw [if_neg u]
  obtain⟨F,m2,l⟩:=A.mem d w u
  have J:r d∈jr P (gB P H) (eW P).toNat:=(G.Bu S).2 ⟨F,λz=>by
   rw[z] at l;have:gt (zeros P.orders.length) d=0:=jw _ _;rw[this] at l;cases l⟩
  refine filter_one (G.R6 _ _ (Nat.le_refl _)) J (λx hx => ?_);rw[decide_eq_true_iff];constructor
  ·rintro ⟨f1,f2,f3⟩
   obtain⟨Q,_⟩:=(G.Bu S).1 hx;have E:=S.vec x Q;have U:T P d x:=by rw[<-f1];exact qF E
   have K:x≠[]:=λe=>by rw[e] at f2;cases f2
   have B:Red P H (λe=>if e=d then x else r e):=by
    refine⟨⟨S,λe k h => ?_,λy hy e k L V => ?_⟩,λa b M N ha m => ?_⟩
    ·by_cases j:e=d
     ·subst j;simp only[if_pos] at h ⊢;exact⟨Q,U,f2⟩
     ·simp only[if_neg j] at h ⊢;exact A.mem e k h
    ·by_cases j:e=d
     ·simp only[if_pos j];exact K
     ·simp only[if_neg j];exact A.piv y hy e k L V
    ·by_cases q:a=d
     ·have p:b≠d:=by omega
      simp only[if_pos q,if_neg p] at ha m ⊢;exact f3 b (by omega) N ((i b N).2 m)
     ·by_cases p:b=d
      ·simp only[if_neg q] at ha ⊢
       rw[p];exact A.red a d (by omega) w ha u
      ·simp only[if_neg q,if_neg p] at ha m ⊢
       exact A.red a b M N ha m
   have:=G.IL B A d w;simpa using this
  ·rintro rfl
   have C:=DD w m2 (by rw[l];decide);exact⟨C,l,λe k D I=>A.red d e k D u ((i e D).1 I)⟩
omit G in
theorem R8 (r:Nat->List Int) (d:Nat):lD (d+1) r=lD d r++(if r d=[] then [] else [r d]):=by
 unfold lD;rw[List.range_succ,List.filterMap_append];congr 1
 by_cases h:r d=[]<;>simp[h]
theorem ez.R9 {H:List Int->Prop}(S:Sub P H):pQ P (jr P (gB P H) (eW P).toNat) P.orders.length=fD P H:=by
 obtain⟨r,A,a⟩:=G.DF S;rw[a]
 have key:∀d,d<=P.orders.length->pQ P (jr P (gB P H) (eW P).toNat) d=lD d r:=by
  intro d;induction d with
  | zero=>intro _;rfl
  | succ d b=>intro e;rw[pQ,b (by omega),G.R7 S A (by omega),R8]
 exact key _ (Nat.le_refl _)
end
theorem DY {α:Type}{n:Nat}(e:0<n):∀ {u v:List (List α)},(∀x∈u,x.length=n)->(∀x∈v,x.length=n)->u.flatten=v.flatten->u=v
 | [],[],_,_,_=>rfl
 | [],b :: v,_,hv,h=>by
  have i:=hv b (List.mem_cons_self ..);have:=congrArg List.length h;simp only[List.flatten_nil,List.length_nil,List.flatten_cons,List.length_append] at this;omega
 | a :: u,[],hu,_,h=>by
  have ha:=hu a (List.mem_cons_self ..);have:=congrArg List.length h;simp only[List.flatten_nil,List.length_nil,List.flatten_cons,List.length_append] at this;omega
 | a :: u,b :: v,hu,hv,h=>by
  have ha:=hu a (List.mem_cons_self ..);have i:=hv b (List.mem_cons_self ..);rw[List.flatten_cons,List.flatten_cons] at h;obtain⟨h1,j⟩:=List.append_inj h (by omega);rw[h1,DY e (λx hx=>hu x (List.mem_cons_of_mem _ hx)) (λx hx=>hv x (List.mem_cons_of_mem _ hx)) j]
theorem Aw {P:Pr}(G:ez P) {u v:List (List Int)}(b:fO P u) (e:fO P v) (a:u≠v) (i:¬iP P u v):iP P v u:=by
 unfold iP at *;by_cases h1:fJ P u u.length=fJ P v v.length
 ·refine .inr ⟨h1.symm,?_⟩
  have l:¬gm u.flatten v.flatten<0:=λh=>i (.inr ⟨h1,h⟩)
  have m:gm u.flatten v.flatten≠0:=λh=>by
   rw[uh] at h;by_cases p:P.orders.length=0
   ·have j:u=[]:=List.eq_nil_of_length_eq_zero (by have:=G.lz b;omega)
    have k:v=[]:=List.eq_nil_of_length_eq_zero (by have:=G.lz e;omega);exact a (j.trans k.symm)
   ·exact a (DY (n:=P.orders.length) (by omega) (λx hx=>(b.1 x hx).1) (λx hx=>(e.1 x hx).1) h)
  have:=rJ u.flatten v.flatten;omega
 ·refine .inl ?_
  have:¬fJ P u u.length<fJ P v v.length:=λh=>i (.inl h);omega
structure Ins (P:Pr) (L:List (List (List Int))) (u:List (List Int)) (k:Nat) (out:List (List (List Int))) (pR:Bool):Prop where
 new:∀j,j<k->gt L j≠u
 no:pR=false->out=L.take k/\∀j,j<k->¬iP P u (gt L j)
 yes:pR=true->∃p,p<k/\out=L.take p++u :: (L.take k).drop p/\iP P u (gt L p)/\∀j,j<p->¬iP P u (gt L j)
theorem Bv {P:Pr}(G:ez P) {L:List (List (List Int))}{u:List (List Int)}(F:L.Pairwise (iP P)) (H:∀v∈L,fO P v) (J:fO P u) {out:List (List (List Int))}{pR:Bool}(I:Ins P L u L.length out pR) :
  ∀R,R=(if pR then out else out++[u])->R.Pairwise (iP P)/\∀v,v∈R↔v∈L\/v=u:=by
 rintro R rfl
 have k:∀v∈L,v≠u:=λv b=>by
  obtain⟨j,l,rfl⟩:=List.getElem_of_mem b;rw[<-gM L j l];exact I.new j l
 cases pR with
 | false=>
  obtain⟨h1,h2⟩:=I.no rfl;rw[List.take_length] at h1;subst h1;rw[if_neg (by decide)];refine⟨List.pairwise_append.2 ⟨F,by simp,λv b w r => ?_⟩,λv=>by rw[List.mem_append,List.mem_singleton]⟩;rw[List.mem_singleton.1 r];obtain⟨j,l,rI⟩:=List.getElem_of_mem b;have i:gt out j=v:=by rw[gM out j l];exact rI
  exact Aw G J (H v b) (λe=>k v b e.symm) (by rw[<-i];exact h2 j l)
 | true=>
  obtain⟨p,hp,h1,h2,h3⟩:=I.yes rfl;rw[List.take_length] at h1;rw[if_pos rfl,h1];have y:p<L.length:=hp;have a:L.take p++L.drop p=L:=List.take_append_drop p L;have m:L.drop p=gt L p :: L.drop (p+1):=by rw[List.drop_eq_getElem_cons y,gM L p y]
  have z:=F;rw[<-a] at z;obtain⟨K,B,q3⟩:=List.pairwise_append.1 z
  have C:∀w∈L.drop p,iP P u w:=λw r=>by
   rw[m] at r B;rcases List.mem_cons.1 r with rfl|q
   ·exact h2
   ·exact Av h2 ((List.pairwise_cons.1 B).1 w q)
  have D:∀v∈L.take p,iP P v u:=λv b=>by
   have A:v∈L:=List.mem_of_mem_take b;obtain⟨j,l,rI⟩:=List.getElem_of_mem b;have E:j<p:=by rw[List.length_take] at l;omega
   have i:gt L j=v:=by
    rw[gM L j (by omega),<-rI,List.getElem_take]
   exact Aw G J (H v A) (λe=>k v A e.symm) (by rw[<-i];exact h3 j E)
  refine⟨List.pairwise_append.2 ⟨K,List.pairwise_cons.2 ⟨C,B⟩,λv b w r => ?_⟩,λv => ?_⟩
  ·rcases List.mem_cons.1 r with rfl|q
   ·exact D v b
   ·exact q3 v b w q
  ·rw [List.mem_append,List.mem_cons]
   constructor
   ·rintro (h|h|h)
    ·exact .inl (List.mem_of_mem_take h)
    ·exact .inr h
    ·exact .inl (List.mem_of_mem_drop h)
   ·rintro (h|h)
    ·rw [<-a] at h
     exact(List.mem_append.1 h).imp id .inr
    ·exact .inr (.inl h)
end Go.Proofs.YtoakmefajbbggaaGreat
namespace Go.Proofs.YtoakmefajbbggaaGreat
open Go.RowKit
structure kU (P:Pr) (M:List Nat) (i x:Nat):Prop where
 nd:M.Nodup
 sub:∀m∈M,∃H,Sub P H/\m=gB P H
 one:gB P (λx=>x=zeros P.orders.length)∈M
 done:∀j,j<i->j<M.length->∀t,t<(eW P).toNat->∀H,Sub P H->gt M j=gB P H->¬H (fF P t)->gB P (lG P H (fF P t))∈M
 part:i<M.length->∀t,t<x->t<(eW P).toNat->∀H,Sub P H->gt M i=gB P H->¬H (fF P t)->gB P (lG P H (fF P t))∈M
noncomputable def gC (P:Pr) (u:List (List Int)):Nat:=gB P (gi P (λx=>x∈u))
section
variable {P:Pr}(G:ez P)
include G
theorem ez.Es:kU P [gB P (λx=>x=zeros P.orders.length)] 0 0:=
 ⟨by simp,λm a=>⟨_,G.sub_one,by simpa using a⟩,by simp,λj b=>by omega,λ_ t e=>by omega⟩
theorem ez.BR:(gB P (λx=>x=zeros P.orders.length))=1:=by
 have hP:=G.v;have a:=hP.kT;refine(zu (λt b => ?_) (λt b => ?_)).symm
 ·rw [show(1:Nat)=2 ^ 0 by rfl,qU]
  simp only[decide_eq_true_iff];constructor
  ·rintro rfl
   have h1:=uX hP G.jP;rw[tC hP] at h1;exact h1
  ·intro h
   have h1:=tK hP (t:Int) (by omega) (by omega);rw[h,tC hP] at h1;omega
 ·rw [show(1:Nat)=2 ^ 0 by rfl,qU]
  simp only[decide_eq_false_iff_not];omega
omit G in
theorem kU.skip {M:List Nat}{i x:Nat}(F:kU P M i x) (h:∀H,Sub P H->gt M i=gB P H->x<(eW P).toNat->H (fF P x)):kU P M i (x+1):=
 ⟨F.nd,F.sub,F.one,F.done,λj t k a H S e b=>by
  by_cases hx:t<x
  ·exact F.part j t hx a H S e b
  ·obtain rfl:t=x:=by omega
   exact absurd (h H S e a) b⟩
omit G in
theorem Et {M:List Nat}{i x:Nat}(F:kU P M i x) (hx:x<(eW P).toNat) (h:(gt M i).testBit x=true):kU P M i (x+1):=
 F.skip λH _ e _=>by rw[e,nH hx] at h;exact h
theorem ez.Ew {M:List Nat}{i x:Nat}(F:kU P M i x) {H:List Int->Prop}(S:Sub P H) (e:gt M i=gB P H) (hk:gB P (lG P H (fF P x))∈M):kU P M i (x+1):=
 ⟨F.nd,F.sub,F.one,F.done,λb t k a K R e' j=>by
  by_cases hx:t<x
  ·exact F.part b t hx a K R e' j
  ·obtain rfl:t=x:=by omega
   rw[<-G.DV S R (e.symm.trans e')];exact hk⟩
theorem ez.Ey {M:List Nat}{i x:Nat}(F:kU P M i x) (p:i<M.length) {H:List Int->Prop}(S:Sub P H) (e:gt M i=gB P H) (hx:x<(eW P).toNat) (hk:¬gB P (lG P H (fF P x))∈M) :
  kU P (M++[gB P (lG P H (fF P x))]) i (x+1):=by
 have u:=G.JE S (G.kD hx);refine⟨?_,?_,List.mem_append_left _ F.one,?_,?_⟩
 ·rw [List.nodup_append]
  refine⟨F.nd,by simp,λa ha b q => ?_⟩;simp only[List.mem_singleton] at q;rintro rfl;rw[q] at ha;exact hk ha
 ·intro m w
  rcases List.mem_append.1 w with h|h
  ·exact F.sub m h
  ·exact⟨_,u,by simpa using h⟩
 ·intro j y z t r K R e' k
  rw[iX _ _ _ (by omega)] at e';exact List.mem_append_left _ (F.done j y (by omega) t r K R e' k)
 ·intro _ t r l K R e' k
  rw[iX _ _ _ p] at e';by_cases hx:t<x
  ·exact List.mem_append_left _ (F.part p t hx l K R e' k)
  ·obtain rfl:t=x:=by omega
   rw[<-G.DV S R (e.symm.trans e')];exact List.mem_append_right _ (by simp)
omit G in
theorem kU.next {M:List Nat}{i x:Nat}(F:kU P M i x) (hx:(eW P).toNat<=x):kU P M (i+1) 0:=
 ⟨F.nd,F.sub,F.one,λj m a t b K R e l=>by
  by_cases k:j<i
  ·exact F.done j k a t b K R e l
  ·obtain rfl:j=i:=by omega
   exact F.part a t (by omega) b K R e l,λ_ t b=>by omega⟩
theorem ez.Ez {M:List Nat}{i:Nat}(F:kU P M i 0) (m:M.length<=i) {H:List Int->Prop}(S:Sub P H):gB P H∈M:=by
 refine G.RR F.one (λK R a t b k => ?_) S;obtain⟨j,l,e⟩:=oW a;exact F.done j (by omega) l t b K R e k
theorem ez.zK (a:eW P<=32) {M:List Nat}{i x:Nat}(F:kU P M i x):M.length<=17408:=G.Ax a F.nd F.sub
theorem ez.Lt {M:List Nat}{i:Nat}(F:kU P M i 0) (l:M.length<=i) :
  (M.map (λm=>fD P (nG P m))).Nodup/\∀u,u∈M.map (λm=>fD P (nG P m))↔fO P u:=by
 constructor
 ·refine List.nodup_iff_pairwise_ne.2 ?_
  rw[List.pairwise_map];refine(List.nodup_iff_pairwise_ne.1 F.nd).imp_of_mem (λ{a b} ha p j k=>j ?_);obtain⟨H,S,rfl⟩:=F.sub a ha;obtain⟨K,R,rfl⟩:=F.sub b p;rw[G.oZ S,G.oZ R] at k;have:H=K:=by rw[<-G.oC S,<-G.oC R,k]
  rw[this]
 ·intro u
  constructor
  ·intro e
   obtain⟨m,hm,rfl⟩:=List.mem_map.1 e;obtain⟨H,S,rfl⟩:=F.sub m hm;rw[G.oZ S];exact G.r8 S
  ·intro e
   have S:=G.gG e;exact List.mem_map.2 ⟨_,G.Ez F l S,by rw[G.oZ S];exact e.2.symm⟩
theorem ez.Cf {H:List Int->Prop}(S:Sub P H):gC P (fD P H)=gB P H:=by unfold gC;rw[G.oC S]
end
def Bw (a b:Nat):Bool:=decide (a &&& b=a)
end Go.Proofs.YtoakmefajbbggaaGreat
namespace Go.Proofs.YtoakmefajbbggaaGreat
theorem Sc (P:Pr) (u:List Int) (o:Nat) (x:List Int):(rK P u o x).length=o:=by unfold rK;simp
theorem Sd (P:Pr) (u:List Int) (o:Nat) (l:List (List Int)):(l.flatMap (rK P u o)).length=l.length*o:=by
 induction l with
 | nil=>simp
 | cons x l a=>rw[List.flatMap_cons,List.length_append,a,Sc,List.length_cons,Nat.add_mul];omega
theorem Sh {P:Pr}(hP:Valid P) {U:List (List Int)}(b:iY P U) (k:Nat) (hk:k<=U.length):((lF P U k).length:Int)=fJ P U k:=by
 induction k with
 | zero=>simp[lF,fJ]
 | succ k a=>
  have a:=a (by omega);have e:=hP.gh (dep (gt U k)) (b.1 _ (fT (by omega))).2.1;simp only[lF,fJ];rw[Sd,Int.natCast_mul,a,show(((gt P.orders (dep (gt U k))).toNat:Nat):Int)=gt P.orders (dep (gt U k)) by omega]
end Go.Proofs.YtoakmefajbbggaaGreat
namespace Go.Proofs.YtoakmefajbbggaaGreat
open Go.RowKit
section
variable {P:Pr}(G:ez P)
include G
theorem ez.uS {H:List Int->Prop}(S:Sub P H):fJ P (fD P H) (fD P H).length=(jQ P H).length:=by
 rw[<-G.Rb S,(Ji _).length_eq];exact(Sh G.v (G.iV S).1 _ (Nat.le_refl _)).symm
omit G in
theorem uR {P:Pr}(hP:Valid P) (H:List Int->Prop):(jQ P H).Nodup:=
 List.nodup_iff_pairwise_ne.2 ((DN hP H).imp (λ{a b} h e=>by subst e;omega))
theorem ez.F0 {H K:List Int->Prop}(S:Sub P H) (R:Sub P K) (h:∀x,H x->K x):fJ P (fD P H) (fD P H).length<=fJ P (fD P K) (fD P K).length /\
  (fJ P (fD P H) (fD P H).length=fJ P (fD P K) (fD P K).length->∀x,K x->H x):=by
 rw[G.uS S,G.uS R];have hP:=G.v;have hH:=nL hP S.vec;have b:=nL hP R.vec;have e:∀x∈jQ P H,x∈jQ P K:=λx hx=>(b x).2 (h x ((hH x).1 hx));have h1:=sD _ _ (uR hP H) e;refine⟨by omega,λl x hx=>Classical.byContradiction λi => ?_⟩;have a:(x :: jQ P H).Nodup:=List.nodup_cons.2 ⟨λj=>i ((hH x).1 j),uR hP H⟩
 have k:=sD _ (jQ P K) a (λy hy=>by
  rcases List.mem_cons.1 hy with rfl|hy
  ·exact(b _).2 hx
  ·exact e y hy)
 simp only[List.length_cons] at k;omega
theorem ez.JH {H K:List Int->Prop}(S:Sub P H) (_R:Sub P K):Bw (gB P H) (gB P K)=true↔∀x,H x->K x:=by
 unfold Bw;rw[decide_eq_true_iff];constructor
 ·intro h x hx
  obtain⟨h1,b⟩:=G.kE (S.vec x hx);have a:(gB P H).testBit (num P x).toNat=true:=(nH h1).2 (by rw[b];exact hx);rw[<-h,Nat.testBit_and,Bool.and_eq_true] at a;have:=(nH h1).1 a.2;rwa [b] at this
 ·intro h
  apply Nat.eq_of_testBit_eq;intro t;rw[Nat.testBit_and];by_cases e:t<(eW P).toNat
  ·cases a:(gB P H).testBit t
   ·rfl
   ·have:=(nH (P:=P) (H:=K) e).2 (h _ ((nH e).1 a))
    rw[this];rfl
  ·rw[Bt (by omega)];rfl
theorem ez.Si {L:List (List (List Int))}(h:jO P L) {i j:Nat}(p:i<j) (q:j<L.length):Bw (gC P (gt L j)) (gC P (gt L i))=false:=by
 have a:=(h.2 _).1 (iW (l:=L) (i:=i) (by omega));have b:=(h.2 _).1 (iW q);have k:=List.pairwise_iff_getElem.1 h.1 i j (by omega) q p;rw[<-gM L i (by omega),<-gM L j q] at k;cases u:Bw (gC P (gt L j)) (gC P (gt L i)) with
 | false=>rfl
 | true=>
  exfalso
  have m:=(G.JH (G.gG b) (G.gG a)).1 u;obtain⟨h1,h2⟩:=G.F0 (G.gG b) (G.gG a) m;rw[<-a.2,<-b.2] at h1 h2;rcases k with r|⟨w,r⟩
  ·omega
  ·have y:=h2 w.symm
   have:gi P (λx=>x∈gt L j)=gi P (λx=>x∈gt L i):=funext λx=>propext ⟨m x,y x⟩;have e:gt L i=gt L j:=by rw[a.2,b.2,this]
   rw[e,(uh _ _).2 rfl] at r;omega
theorem ez.EB {L:List (List (List Int))}(h:jO P L):0<L.length/\gt L (L.length-1)=fD P (dL P.orders):=by
 have e:=(h.2 (fD P (dL P.orders))).2 (G.r8 G.ze);obtain⟨i,hi,b⟩:=oW e;refine⟨by omega,?_⟩;by_cases k:i=L.length-1
 ·rw[<-k];exact b
 ·exfalso
  have a:=(h.2 _).1 (iW (l:=L) (i:=L.length-1) (by omega));have:=G.Si h (i:=i) (j:=L.length-1) (by omega) (by omega);rw[b,G.Cf G.ze] at this;have m:=(G.JH (G.gG a) G.ze).2 (λx hx=>(G.gG a).vec x hx);unfold gC at this;rw[m] at this;cases this
end
section
variable {P:Pr}(G:ez P)
include G
end
end Go.Proofs.YtoakmefajbbggaaGreat
namespace Go.Proofs.YtoakmefajbbggaaGreat
open Go.RowKit
open Go.Maps (Keyed)
structure oh (κ ν : Type) where
 t:TypeId
 k:TypeId
 e:TypeId
 kv:κ -> Value
 kl:κ -> Lit
 tA:κ -> Prop
 ev:ν -> Value
 el:ν -> Lit
 uK:ν -> Prop
 z:ν
 keyed:Keyed Tryz.prog k
 und:Tryz.prog.underlying t=some (.map k e)
 key:∀a,tA a->keyOf Tryz.prog k (kv a)=some (kl a)
 inj:∀a c,kl a=kl c->a=c
 isKey:∀a,WideAt.IsKeyLit (kl a)
 elem:∀x,uK x->plainElem (H:=Unit) Tryz.prog e (ev x)=some (.lit (el x),[])
 inv:∀v x ps,plainElem (H:=Unit) Tryz.prog e v=some (.lit (el x),ps)->v=ev x
 zero:∀w,(zeroValue e).run Tryz.prog w=.ok (ev z) w
 zO:uK z
variable {κ ν : Type}
def iU (M:oh κ ν) (w:World) (b:Nat) (f:κ -> ν) (m:Nat):Prop:=
 ∃(n:Nat) (D:DataW Unit),w.ownsMap Tryz.prog M.k (plainElem Tryz.prog M.e) b n D/\n<=m/\Maps.IsMap D/\∀a,M.tA a->D.atKey (M.kl a) (.lit (M.el M.z))=.lit (M.el (f a))
theorem iU.made (M:oh κ ν) (w:World):iU M (w.alloc (.map #[] 0)) w.heap.size (λ_=>M.z) 0:=
 ⟨0,.map [],World.ownsMap_made _ _ _ _,Nat.le_refl _,Maps.isMap_empty,λa _=>by simp[WideAt.atKey_none]⟩
theorem iU.lt {M:oh κ ν}{w:World}{b:Nat}{f:κ -> ν}{m:Nat}(h:iU M w b f m):b<w.heap.size:=by
 obtain⟨n,D,h,_⟩:=h;exact h.lt
theorem iU.kept {M:oh κ ν}{w w':World}{b:Nat}{f:κ -> ν}{m:Nat}{r:Option Nat}(h:iU M w b f m) (e:w.grownBy w' r) (a:some b≠r):iU M w' b f m:=by
 obtain⟨n,D,h,h2⟩:=h;exact⟨n,D,h.kept e a,h2⟩
theorem iU.ext {M:oh κ ν}{w w':World}{b:Nat}{f:κ -> ν}{m:Nat}(h:iU M w b f m) (a:Ext w w'):iU M w' b f m:=h.kept a (by simp)
theorem iU.le {M:oh κ ν}{w:World}{b:Nat}{f:κ -> ν}{m a:Nat}(h:iU M w b f m) (e:m<=a):iU M w b f a:=by
 obtain⟨n,D,h,h2,h3⟩:=h;exact⟨n,D,h,Nat.le_trans h2 e,h3⟩
theorem iU.look {M:oh κ ν}{w:World}{b:Nat}{f:κ -> ν}{m:Nat}(h:iU M w b f m) (a:κ) (ha:M.tA a) :
  (Instr.lookup M.t (.map (some b)) (M.kv a) false).run Tryz.prog w=.ok (M.ev (f a)) w:=by
 obtain⟨n,D,h,_,_,i⟩:=h;obtain⟨v,ps,e,j⟩:=h.lookup M.keyed M.und (M.zero w) (M.elem M.z M.zO) (M.key a ha);rw[i a ha] at j;rw[e,M.inv _ _ _ j]
theorem iU.update [DecidableEq κ] {M:oh κ ν}{w:World}{b:Nat}{f:κ -> ν}{m:Nat}(h:iU M w b f m) (a:κ) (ha:M.tA a) (x:ν) (hx:M.uK x) (l:m<=1048576) :
  ∃w',(Instr.mapUpdate M.t (.map (some b)) (M.kv a) (M.ev x)).run Tryz.prog w=.ok () w'/\iU M w' b (λc=>if c=a then x else f c) (m+1)/\w.grownBy w' (some b):=by
 obtain⟨n,D,h,hn,j,hat⟩:=h;obtain⟨w',hrun,hown,hg⟩:=h.update M.keyed M.und (by unfold maxLen;omega) (M.key a ha) (M.elem x hx);refine⟨w',hrun,⟨n+1,_,hown,by omega,j.put _ _,?_⟩,hg⟩;intro c k;by_cases i:c=a
 ·subst i
  rw[Maps.atKey_put_same j (M.isKey c)];simp
 ·rw[Maps.atKey_put_other (λe=>i (M.inj _ _ e)),hat c k];simp[i]
end Go.Proofs.YtoakmefajbbggaaGreat
namespace Go.Proofs.YtoakmefajbbggaaGreat
open Go.RowKit
def pS (x:List Int):List Int:=x++[59]
def nV (u:List (List Int)):List Int:=(u.map pS).flatten
def jG (u:List (List Int)):ByteArray:=strOfNums (nV u)
def j3 (l:List Int):List Value:=l.map (Value.int .u8)
theorem Sj (u:List (List Int)) (k:Nat) (h:k<u.length):nV (u.take (k+1))=nV (u.take k)++pS (gt u k):=by
 unfold nV;rw[je u k h,List.map_append,List.flatten_append];simp
theorem zP (u:List (List Int)) (b:Nat) (h:∀x∈u,x.length<=b):(nV u).length<=(b+1)*u.length:=by
 induction u with
 | nil=>simp[nV]
 | cons x u a=>
  have h1:=a (λy hy=>h y (List.mem_cons_of_mem _ hy));have e:=h x (List.mem_cons_self ..);unfold nV at h1 ⊢;simp only[List.map_cons,List.flatten_cons,List.length_append,List.length_cons,pS,List.length_nil,Nat.mul_succ];omega
theorem B2 (u:List (List Int)):(jG u).size=(nV u).length:=strOfNums_size _
theorem yq:Tryz.prog.underlying 22=some (.slice 5):=by kernel_rfl
theorem JI:Tryz.prog.underlying 5=some (.int .u8):=by kernel_rfl
theorem uL:Tryz.prog.underlying 9=some .string:=by kernel_rfl
theorem Tryz.CM:(Tryz.prog.info? 5).map (λi=>(i.zero,i.size,i.bytes))=some (some (.int .u8 0),1,1):=by kernel_rfl
theorem CO {B:Nat}{w:World}{v:Value}{l:List Int}(h:fK B 5 w v (j3 l)):(convert 22 9 v).run Tryz.prog w=.ok (.string (strOfNums l)) w:=by
 rcases h.form with⟨rfl,a⟩|⟨g,cap,rfl,_⟩
 ·have:l=[]:=by unfold j3 at a;rw[List.map_eq_nil_iff] at a;exact a
  subst this;rw[run_convert_bytes_nil w _ _ yq JI 0 0 _ uL];rfl
 ·have b:(j3 l).length=l.length:=by unfold j3;rw[List.length_map]
  rw[b];refine run_convert_bytes_arg w _ _ yq JI g 0 l.length cap l rfl (λi e => ?_) _ uL;have:=h.cell i (by rw[b];exact e);rw[Nat.zero_add,this];unfold j3;rw[jM _ _ _ e];rfl
theorem zS (u:List (List Int)) (w:World) (Y:Value) (S:Nat->Prop) (h:dK S w Y u) (Z:∀x∈u,∀e∈x,0<=e/\e<256) (J:∀x∈u,x.length<=1000) (hn:u.length<=100) :
  Calls Tryz.prog 138 #[Y] w (fq w λ_ v=>v=.string (jG u)):=by
 obtain⟨au,jA,rfl,_,_⟩:=Sl.shape h
 have a:∀k,(nV (u.take k)).length<=1001*100:=λk=>by
  have h1:=zP (u.take k) 1000 (λx hx=>J x (List.mem_of_mem_take hx));have:(u.take k).length<=100:=by rw[List.length_take];omega
  have:=Nat.mul_le_mul_left 1001 this;omega
 have K:=Lib.hid (And.intro Z (And.intro J a));clear Z J a;go_enter Tryz.func138,Tryz.ntmps138;go_wp2;go_loopw [3,10] (λL M wr=>∃(k:Nat) (v4:Value),v4=L/\M=.int .i64 k/\k<=u.length/\Ext w wr/\fK w.heap.size 5 wr v4 (j3 (nV (u.take k)))) (λ_ M _=>u.length-(intOf M).toNat)
 case atStart=>exact⟨0,_,rfl,rfl,by omega,Ext.refl _,World.ownsRow_nil _ _ _ _⟩
 case round=>
  obtain⟨k,v4,rfl,rfl,hk,q,hO⟩:=hrel;by_cases l:k<u.length
  ·have aa:(k:Int)<u.length:=by omega
   obtain⟨b,off,a2,jx,rfl,_,_,hc0,hi⟩:=dK.at h k l;have hc:=q.cell hc0 (by simp);clear hc0;have hx:=K.out.1 _ (fT l);have z:=K.out.2.1 _ (fT l);have i:=Sj u k l;have A:=K.out.2.2 k;obtain⟨x,B⟩:∃x,x=gt u k:=⟨_,rfl⟩;rw[<-B] at hx z i hc hi;obtain⟨r,C⟩:∃r,r=nV (u.take k):=⟨_,rfl⟩;rw[<-C] at i A hO;have D:=Lib.hid (And.intro hx (And.intro z (And.intro i (And.intro A (And.intro B C)))));clear hx z i A B C;have ad:x.length<=1000:=D.out.2.1;go_wp2;clear hc;go_loopw [3,16] (λL N wr=>∃(j:Nat) (v4:Value),v4=L/\N=.int .i64 j/\j<=x.length/\Ext w wr/\fK w.heap.size 5 wr v4 (j3 (r++x.take j))) (λ_ N _=>x.length-(intOf N).toNat)
   case atStart=>exact⟨0,v4,rfl,rfl,by omega,q,by rw[List.take_zero,List.append_nil];exact hO⟩
   case round=>
    clear hO q;obtain⟨j,v4,rfl,rfl,I,q,hO⟩:=hrel;by_cases p:j<x.length
    ·have O:(j:Int)<x.length:=by omega
     obtain⟨b2,off2,rfl,_,_,Q⟩:=Ints.at (Ints.ext hi q) j p;have hx:=D.out.1 _ (fT p)
     have m:j3 (r++x.take (j+1))=j3 (r++x.take j)++[.int .u8 (gt x j)]:=by
      unfold j3;rw[je x j p,<-List.append_assoc,List.map_append];rfl
     have a:(j3 (r++x.take j)).length<=1000000:=by
      have h1:=D.out.2.1;have h2:=D.out.2.2.2.1;unfold j3;rw[List.length_map,List.length_append,List.length_take];omega
     obtain⟨e,R⟩:∃e,e=gt x j:=⟨_,rfl⟩;rw[<-R] at hx m Q
     have ah:IntKind.u8.wrap e=e:=by
      simp only[IntKind.wrap,IntKind.signed,IntKind.bits];simp;omega
     have H:=Lib.hid (And.intro m (And.intro a (And.intro R hx)));clear m a R hx;go_wp2_with (first|(at_builtin;refine yM 22 5 (.int .u8 0) 1 yq Tryz.CM rfl (by decide) rfl _ _ rfl w.heap.size v4 _ (j3 (r++x.take j)) rfl wr hO rfl rfl rfl H.out.2.1 q.size ?_;intro T U E F;have G:Ext w U:=fu q F (λj I l=>by have:=(hO.lt j I).1;omega))|fail)
     go_roundw
     case rel=>exact⟨j+1,T,rfl,by go_num,by omega,G,by rw[H.out.1];exact E⟩
     case measure=>simp[intOf];omega
    ·have V:j=x.length:=by omega
     subst V;rw[List.take_length] at hO
     have m:j3 (nV (u.take (k+1)))=j3 (r++x)++[.int .u8 59]:=by
      rw[D.out.2.2.1];unfold j3 pS;rw[<-List.append_assoc,List.map_append (l₂:=[59])];rfl
     have a:(j3 (r++x)).length<=1000000:=by
      have h1:=D.out.2.1;have h2:=D.out.2.2.2.1;unfold j3;rw[List.length_map,List.length_append];omega
     have H:=Lib.hid (And.intro m a);clear m a;go_wp2_with (first|(at_builtin;refine yM 22 5 (.int .u8 0) 1 yq Tryz.CM rfl (by decide) rfl _ _ rfl w.heap.size v4 _ (j3 (r++x)) rfl wr hO rfl rfl rfl H.out.2 q.size ?_;intro T U E F;have G:Ext w U:=fu q F (λj I l=>by have:=(hO.lt j I).1;omega))|fail)
     go_roundw
     case rel=>exact⟨k+1,T,rfl,by go_num,by omega,G,by rw[H.out.1];exact E⟩
     case measure=>simp[intOf];omega
  ·have W:k=u.length:=by omega
   subst W;rw[List.take_length] at hO;have ai:=CO hO
   have X:∃az nz y,v4=.slice az nz y:=by
    rcases hO.form with⟨h1,_⟩|⟨g,cp,h1,_⟩
    ·exact⟨_,_,_,h1⟩
    ·exact⟨_,_,_,h1⟩
   obtain⟨az,nz,y,rfl⟩:=X;go_wp2;go_ret;exact⟨_,rfl,q,rfl⟩
end Go.Proofs.YtoakmefajbbggaaGreat
namespace Go.Proofs.YtoakmefajbbggaaGreat
open Go.RowKit
open Go.Maps (Keyed)
theorem Bx:Tryz.prog.underlying 40=some (.int .u64):=by kernel_rfl
theorem zN:Tryz.prog.underlying 4=some .bool:=by kernel_rfl
theorem Sk:Tryz.prog.underlying 143=some (.map 40 4):=by kernel_rfl
theorem Sn:Tryz.prog.underlying 147=some (.map 9 40):=by kernel_rfl
theorem JJ {a:Nat}(h:a<2 ^ 64):(Lit.int .u64 (a:Int)).wf=true:=by
 have e:a<18446744073709551616:=h;have h1:IntKind.u64.min=0:=by decide
 have b:IntKind.u64.max=18446744073709551615:=by decide
 simp only[Lit.wf,h1,b];simp;omega
def uN:oh Nat Bool where
 t:=143
 k:=40
 e:=4
 kv a := .int .u64 (a:Int)
 kl a := .int .u64 (a:Int)
 tA a:=a<2 ^ 64
 ev x := .bool x
 el x := .bool x
 uK _:=True
 z:=false
 keyed:=Maps.int_keyed Bx
 und:=Sk
 key a ha:=Maps.keyOf_int_mk Bx (JJ ha)
 inj a c h:=by simp at h;omega
 isKey _:=trivial
 elem x _:=plainElem_bool zN x
 inv v x ps h:=by
  unfold plainElem at h;rw[zN] at h;cases v<;>simp at h
  rw[h.1]
 zero w:=by kernel_rfl
 zO:=trivial
def E6:oh ByteArray Nat where
 t:=147
 k:=9
 e:=40
 kv s := .string s
 kl s := .string s.data.toList
 tA s:=s.size<=maxLen
 ev x := .int .u64 (x:Int)
 el x := .int .u64 (x:Int)
 uK x:=x<2 ^ 64
 z:=0
 keyed:=Maps.string_keyed uL
 und:=Sn
 key s hs:=WideMaps.keyOf_string_mk uL hs
 inj a c h:=by
  cases a with|mk a=>cases c with|mk c=>
  simp only[Lit.string.injEq] at h;rw[Array.toList_inj.1 h]
 isKey _:=trivial
 elem x hx:=plainElem_int Bx (JJ hx)
 inv v x ps h:=by
  obtain⟨c,rfl,b,_⟩:=plainElem_int_inv Bx h;simp only[Prod.mk.injEq,DataW.lit.injEq,Lit.int.injEq,true_and] at b;rw[b.1]
 zero w:=by kernel_rfl
 zO:=by decide
theorem iU.ne {κ ν : Type}{M:oh κ ν}{w:World}{b B E m:Nat}{f:κ -> ν}{v:Value}{xs:List Value}(h:iU M w b f m) (hO:fK B E w v xs):some b≠v.ownBlock:=by
 obtain⟨n,D,⟨es,clock,a,_⟩,_⟩:=h;obtain⟨_,⟨rfl,_⟩|⟨g,cap,cur,rfl,_,i,_⟩⟩:=hO
 ·intro e;cases e
 ·intro e
  cases e
  rw[i] at a;cases a
end Go.Proofs.YtoakmefajbbggaaGreat
namespace Go.Proofs.YtoakmefajbbggaaGreat
open Go.RowKit
theorem uJ {k:Array Oper}{o:Oper}{a:Act}{K:Act->World->Prop}{Q:Exit->Act->World->Prop}{r:Prop}{w:World}(m:o.guard=none) (s x:Operand)
  (u:o.op=Op.call { callee:=Callee.builtin Builtin.append,args := #[s,x],argTypes := #[24,24] }) (B:Nat) (v:Value) (l:List Int) (y:Int) (z:a.eval s=v) (b:World) (i:Own B b v l)
  (A:w=b.alloc (.cells #[.int .i64 y] 2)) (hx:a.eval x=.slice (some ⟨b.heap.size,0,none⟩) 1 1) (q:l.length<=1000000) (p:B<=b.heap.size)
  (h:∀j w',Own B w' j (l++[y])->b.grownBy w' v.ownBlock->K (a.put o.dst j) w') :
  if Region.wanted o (yielded k a.tmps)=true then Oper.wp Tryz.prog o a w K Q else r:=by
 subst A;have e:Ext b (b.alloc (.cells #[.int .i64 y] 2)):=World.grownBy_alloc _ _ _;refine vg 24 2 (.int .i64 0) 8 qz Tryz.pV rfl (by decide) m s x u B v (l.map (Value.int .i64)) z (i.gw e).v b.heap.size (.int .i64 y) hx (by rw[World.cell?_alloc_at _ _ _ _ rfl];rfl) rfl (by simpa using (by omega:l.length<=2000000)) (by have:=e.size;omega) ?_;intro j w' h1 C _;exact h j w' (Own.of (by rw[List.map_append];exact h1)) (dy (fH _ e) C)
end Go.Proofs.YtoakmefajbbggaaGreat
