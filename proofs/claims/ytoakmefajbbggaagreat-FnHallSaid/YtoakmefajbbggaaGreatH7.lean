/- Merged from templates. -/
import Derived.Test.YtoakmefajbbggaaGreatH6
import Derived.Sort.OwnSortedInts
import Derived.Shelf.SlSortCmp.NoneTotal
set_option maxRecDepth 100000
set_option maxHeartbeats 8000000
namespace Go.Proofs.YtoakmefajbbggaaGreat
theorem stepE_len (P:Pr) (u:List Int) (o:Nat) (x:List Int):(stepE P u o x).length=o:=by unfold stepE;simp
theorem flatMap_len (P:Pr) (u:List Int) (o:Nat) (l:List (List Int)):(l.flatMap (stepE P u o)).length=l.length*o:=by
 induction l with
 | nil=>simp
 | cons x l a=>rw[List.flatMap_cons,List.length_append,a,stepE_len,List.length_cons,Nat.add_mul];omega
theorem elsP_len {P:Pr}(hP:Valid P) {U:List (List Int)}(b:SeqOk P U) (k:Nat) (hk:k<=U.length):((elsP P U k).length:Int)=prodU P U k:=by
 induction k with
 | zero=>simp[elsP,prodU]
 | succ k a=>
  have a:=a (by omega);have e:=hP.ord7 (dep (gt U k)) (b.1 _ (gtMem (by omega))).2.1;simp only[elsP,prodU];rw[flatMap_len,Int.natCast_mul,a,show(((gt P.orders (dep (gt U k))).toNat:Nat):Int)=gt P.orders (dep (gt U k)) by omega]
end Go.Proofs.YtoakmefajbbggaaGreat
namespace Go.Proofs.YtoakmefajbbggaaGreat
open Go.RowKit
section
variable {P:Pr}(G:Grp P)
include G
theorem Grp.order_elems {H:List Int->Prop}(S:Sub P H):prodU P (cseq P H) (cseq P H).length=(elemsIn P H).length:=by
 rw[<-G.els_sorted S,(sortL_perm _).length_eq];exact(elsP_len G.v (G.seq_facts S).1 _ (Nat.le_refl _)).symm
omit G in
theorem elemsIn_nodup {P:Pr}(hP:Valid P) (H:List Int->Prop):(elemsIn P H).Nodup:=
 List.nodup_iff_pairwise_ne.2 ((elemsIn_asc hP H).imp (λ{a b} h e=>by subst e;omega))
theorem Grp.order_le {H K:List Int->Prop}(S:Sub P H) (R:Sub P K) (h:∀x,H x->K x):prodU P (cseq P H) (cseq P H).length<=prodU P (cseq P K) (cseq P K).length /\
  (prodU P (cseq P H) (cseq P H).length=prodU P (cseq P K) (cseq P K).length->∀x,K x->H x):=by
 rw[G.order_elems S,G.order_elems R];have hP:=G.v;have hH:=elemsIn_mem hP S.vec;have b:=elemsIn_mem hP R.vec;have e:∀x∈elemsIn P H,x∈elemsIn P K:=λx hx=>(b x).2 (h x ((hH x).1 hx));have h1:=nodup_sub_len _ _ (elemsIn_nodup hP H) e;refine⟨by omega,λl x hx=>Classical.byContradiction λi => ?_⟩;have a:(x :: elemsIn P H).Nodup:=List.nodup_cons.2 ⟨λj=>i ((hH x).1 j),elemsIn_nodup hP H⟩
 have k:=nodup_sub_len _ (elemsIn P K) a (λy hy=>by
  rcases List.mem_cons.1 hy with rfl|hy
  ·exact(b _).2 hx
  ·exact e y hy)
 simp only[List.length_cons] at k;omega
end
section
variable {P:Pr}(G:Grp P)
include G
end
end Go.Proofs.YtoakmefajbbggaaGreat
namespace Go.Proofs.YtoakmefajbbggaaGreat
def El {P:Pr}(_:Grp P):Type := {x:List Int // Vec P.orders x}
section
variable {P:Pr}{G:Grp P}
instance:Mul (El G):=⟨λx y=>⟨rMul P x.1 y.1,G.mulV x.2 y.2⟩⟩
instance:One (El G):=⟨⟨zeros P.orders.length,G.oneV⟩⟩
instance:Inv (El G):=⟨λx=>⟨rInv P x.1,G.invV x.2⟩⟩
theorem El.ass (x y z:El G):x*y*z=x*(y*z):=Subtype.ext (G.ass x.2 y.2 z.2)
theorem El.ol (x:El G):1*x=x:=Subtype.ext (G.grp.el _ x.2)
theorem El.or (x:El G):x*1=x:=Subtype.ext (G.grp.er _ x.2)
theorem El.il (x:El G):x⁻¹ * x=1:=Subtype.ext (G.inv_mul x.2)
theorem El.ir (x:El G):x*x⁻¹ = 1:=Subtype.ext (G.mul_inv x.2)
theorem El.ilc (x y:El G):x⁻¹ * (x*y)=y:=by rw[<-El.ass,El.il,El.ol]
theorem El.irc (x y:El G):x*(x⁻¹ * y)=y:=by rw[<-El.ass,El.ir,El.ol]
theorem El.inv_of {x y:El G}(h:x*y=1):y=x⁻¹ :=by rw[<-El.ilc x y,h,El.or]
theorem El.mi (x y:El G):(x*y)⁻¹ = y⁻¹ * x⁻¹ := (El.inv_of (by rw[El.ass,El.irc,El.ir])).symm
theorem El.ii (x:El G):x⁻¹⁻¹ = x:=(El.inv_of (El.il x)).symm
theorem El.io:(1:El G)⁻¹ = 1:=(El.inv_of (El.ol 1)).symm
def ep (x:El G):Nat->El G
 | 0=>1
 | k+1=>ep x k*x
theorem ep_val (x:El G):∀k,(ep x k).1=pw P x.1 k
 | 0=>rfl
 | k+1=>by
  show rMul P (ep x k).1 x.1=_
  rw[ep_val x k];rfl
theorem ep_add (x:El G) (a b:Nat):ep x (a+b)=ep x a*ep x b:=by
 induction b with
 | zero=>exact(El.or _).symm
 | succ b e=>show ep x (a+b)*x=ep x a*(ep x b*x);rw[e,El.ass]
theorem ep_mul (x:El G) (a b:Nat):ep x (a*b)=ep (ep x a) b:=by
 induction b with
 | zero=>rfl
 | succ b e=>rw[Nat.mul_succ,ep_add,e];rfl
theorem ep_one (k:Nat):ep (1:El G) k=1:=by
 induction k with
 | zero=>rfl
 | succ k a=>show ep 1 k*1=1;rw[a,El.or]
theorem ep_1 (x:El G):ep x 1=x:=El.ol x
theorem ep_conj (x g:El G) (k:Nat):ep (g⁻¹ * (x*g)) k=g⁻¹ * (ep x k*g):=by
 induction k with
 | zero=>show(1:El G)=g⁻¹ * (1*g);rw[El.ol,El.il]
 | succ k a=>
  show ep _ k*_=_
  rw[a];show g⁻¹ * (ep x k*g)*(g⁻¹ * (x*g))=g⁻¹ * ((ep x k*x)*g)
  simp only[El.ass,El.irc]
structure SG (H:El G->Prop):Prop where
 one:H 1
 mul:∀x y,H x->H y->H (x*y)
 inv:∀x,H x->H x⁻¹
theorem SG.ep {H:El G->Prop}(S:SG H) {x:El G}(hx:H x) (k:Nat):H (ep x k):=by
 induction k with
 | zero=>exact S.one
 | succ k a=>exact S.mul _ _ a hx
theorem SG.and {H K:El G->Prop}(S:SG H) (R:SG K):SG (λx=>H x/\K x):=
 ⟨⟨S.one,R.one⟩,λ_ _ h k=>⟨S.mul _ _ h.1 k.1,R.mul _ _ h.2 k.2⟩,λ_ h=>⟨S.inv _ h.1,R.inv _ h.2⟩⟩
def dT (d:Nat) (x:El G):Prop:=∀k,k<d->gt x.1 k=0
theorem dT_T {d:Nat}{x:El G} : dT d x↔T P d x.1:=⟨λh=>⟨x.2,h⟩,λh=>h.2⟩
theorem dT_sg {d:Nat}(a:d<=P.orders.length):SG (dT (G:=G) d):=
 ⟨dT_T.2 (T.zeros G.v d),λ_ _ h k=>dT_T.2 (G.T_mul a (dT_T.1 h) (dT_T.1 k)),λ_ h=>dT_T.2 (G.T_inv a (dT_T.1 h))⟩
theorem dT_top {x:El G}(h:dT P.orders.length x):x=1:=Subtype.ext ((dT_T.1 h).top G.v)
theorem dT_up {d:Nat}{x:El G}(h:dT d x) (a:gt x.1 d=0):dT (d+1) x:=dT_T.2 ((dT_T.1 h).up a)
theorem dT_down {d:Nat}{x:El G}(h:dT (d+1) x):dT d x:=λk hk=>h k (by omega)
theorem dT_zero (x:El G):dT 0 x:=λk hk=>by omega
def pv (H:El G->Prop) (d:Nat):Prop:=d<P.orders.length/\∃x,H x/\dT d x/\gt x.1 d≠0
theorem pv_mono {H K:El G->Prop}(h:∀x,H x->K x) {d:Nat} : pv H d->pv K d:=λ⟨h1,x,h2,h3⟩=>⟨h1,x,h _ h2,h3⟩
theorem prm7 (q c k:Nat) (a:q=2\/q=3\/q=5\/q=7) (e:0<c) (h1:c<q) (hk:¬q∣k):(k*c)%q≠0:=by
 have b:c=1\/c=2\/c=3\/c=4\/c=5\/c=6:=by omega
 rcases a with rfl|rfl|rfl|rfl<;>rcases b with rfl|rfl|rfl|rfl|rfl|rfl<;>omega
theorem hit7 (q b c:Nat) (a:q=2\/q=3\/q=5\/q=7) (e:0<b) (h1:b<q) (i:c<q):∃j,(j*b)%q=c:=by
 have key:∀q,q<8->(q=2\/q=3\/q=5\/q=7)->∀b,b<q->0<b->∀c,c<q->∃j,j<q/\(j*b)%q=c:=by decide
 obtain⟨j,_,h⟩:=key q (by omega) a b h1 e c i;exact⟨j,h⟩
theorem ordN (G:Grp P) {d:Nat}(a:d<P.orders.length):∃q:Nat,gt P.orders d=(q:Int)/\(gt P.orders d).toNat=q/\(q=2\/q=3\/q=5\/q=7):=by
 have:=G.v.ord d a;exact⟨(gt P.orders d).toNat,by omega,rfl,by omega⟩
theorem ep_dT {d:Nat}(a:d<=P.orders.length) {x:El G}(h:dT d x) (k:Nat):dT d (ep x k):=(dT_sg a).ep h k
theorem ep_at {d:Nat}(a:d<P.orders.length) {x:El G}(h:dT d x) (k:Nat):gt (ep x k).1 d=((k:Int)*gt x.1 d)%gt P.orders d:=by
 rw[ep_val];exact G.pw_at a (dT_T.1 h) k
theorem lead_ne {d:Nat}(a:d<P.orders.length) {x:El G}(h:dT d x) (i:gt x.1 d≠0) {k:Nat}(hk:¬(gt P.orders d).toNat∣k):gt (ep x k).1 d≠0:=by
 obtain⟨q,h1,b,h3⟩:=ordN G a;have j:=x.2.2 d a;obtain⟨c,hc⟩:∃c:Nat,gt x.1 d=(c:Int):=⟨(gt x.1 d).toNat,by omega⟩;rw[ep_at a h,h1,hc];have:=prm7 q c k h3 (by omega) (by omega) (by rw[<-b];exact hk);intro e;apply this;have l:(((k*c)%q:Nat):Int)=0:=by rw[Int.natCast_emod,Int.natCast_mul];exact e
 omega
theorem lead_hit {d:Nat}(a:d<P.orders.length) {x:El G}(h:dT d x) (i:gt x.1 d≠0) {c:Int}(k:0<=c/\c<gt P.orders d):∃j,gt (ep x j).1 d=c:=by
 obtain⟨q,h1,h2,h3⟩:=ordN G a;have l:=x.2.2 d a;obtain⟨b,hbe⟩:∃b:Nat,gt x.1 d=(b:Int):=⟨(gt x.1 d).toNat,by omega⟩;obtain⟨e,he⟩:∃e:Nat,c=(e:Int):=⟨c.toNat,by omega⟩;obtain⟨j,hj⟩:=hit7 q b e h3 (by omega) (by omega) (by omega);refine⟨j,?_⟩;rw[ep_at a h,h1,hbe,he,<-hj,Int.natCast_emod,Int.natCast_mul]
theorem el_diff {d:Nat}(a:d<P.orders.length) {x y:El G}(hx:dT d x) (hy:dT d y) (h:gt x.1 d=gt y.1 d):dT (d+1) (x⁻¹ * y):=
 dT_T.2 (G.diff a (dT_T.1 hx) (dT_T.1 hy) h)
theorem el_same {d:Nat}(a:d<P.orders.length) {x y:El G}(h:dT (d+1) (x⁻¹ * y)):gt x.1 d=gt y.1 d:=by
 have h1:=(G.right (Nat.succ_le_of_lt a) x.2 (dT_T.1 h)).1 d (by omega);have b:rMul P x.1 (x⁻¹ * y).1=y.1:=congrArg Subtype.val (El.irc x y);rw[b] at h1;exact h1.symm
theorem le_of_pv {H K:El G->Prop}(S:SG H) (R:SG K) (i:∀x,H x->K x) (p:∀d,pv K d->pv H d):∀x,K x->H x:=by
 have key:∀f d,d+f=P.orders.length->∀x,K x->dT d x->H x:=by
  intro f;induction f with
  | zero=>
   intro d q x _ b;have:d=P.orders.length:=by omega
   subst this;rw[dT_top b];exact S.one
  | succ f l=>
   intro d q x hx b;by_cases m:gt x.1 d=0
   ·exact l (d+1) (by omega) x hx (dT_up b m)
   ·obtain ⟨a,y,hy,e,hy0⟩:=p d ⟨by omega,x,hx,b,m⟩
    obtain⟨j,r⟩:=lead_hit a e hy0 (x.2.2 d a);have k:=ep_dT (Nat.le_of_lt a) e j;have h1:=l (d+1) (by omega) _ (R.mul _ _ (R.inv _ (R.ep (i _ hy) j)) hx) (el_diff a k b r);have u:=S.mul _ _ (S.ep hy j) h1;rwa [El.irc] at u
 exact λx hx=>key P.orders.length 0 (by omega) x hx (dT_zero x)
theorem els_ex (G:Grp P):∃l:List (El G),l.Nodup/\∀x,x∈l:=by
 have key:∀m:List (List Int),m.Nodup->∃l:List (El G),l.Nodup/\∀x:El G,x∈l↔x.1∈m:=by
  intro m;induction m with
  | nil=>intro _;exact⟨[],List.nodup_nil,λx=>by simp⟩
  | cons a m k=>
   intro h;obtain⟨h1,i⟩:=List.nodup_cons.1 h;obtain⟨l,hl,j⟩:=k i;by_cases ha:Vec P.orders a
   ·obtain ⟨y,hy⟩:∃y:El G,y.1=a:=⟨⟨a,ha⟩,rfl⟩
    refine⟨y :: l,List.nodup_cons.2 ⟨λb=>h1 (hy▸(j _).1 b),hl⟩,λx => ?_⟩;rw[List.mem_cons,List.mem_cons,j x];exact⟨λb=>b.elim (λe => .inl (by rw[e];exact hy)) .inr,λb=>b.elim (λe => .inl (Subtype.ext (e.trans hy.symm))) .inr⟩
   ·refine ⟨l,hl,λx => ?_⟩
    rw[j x,List.mem_cons];exact⟨.inr,λb=>b.elim (λe=>absurd (e▸x.2) ha) id⟩
 obtain⟨l,h1,i⟩:=key (elemsIn P (Vec P.orders)) (elemsIn_nodup G.v _);exact⟨l,h1,λx=>(i x).2 ((elemsIn_mem G.v (λ_ h=>h)) x.1 |>.2 x.2)⟩
noncomputable def els (G:Grp P):List (El G):=Classical.choose (els_ex G)
theorem els_nodup (G:Grp P):(els G).Nodup:=(Classical.choose_spec (els_ex G)).1
theorem els_mem (G:Grp P) (x:El G):x∈els G:=(Classical.choose_spec (els_ex G)).2 x
open Classical in
noncomputable def elsIn (H:El G->Prop):List (El G):=(els G).filter (λx=>decide (H x))
theorem elsIn_nodup (H:El G->Prop):(elsIn H).Nodup:=(els_nodup G).filter _
theorem elsIn_mem {H:El G->Prop}{x:El G} : x∈elsIn H↔H x:=by
 classical
 unfold elsIn;rw[List.mem_filter,decide_eq_true_iff];exact⟨λh=>h.2,λh=>⟨els_mem G x,h⟩⟩
noncomputable def cd (H:El G->Prop):Nat:=(elsIn H).length
theorem cd_list {H:El G->Prop}{l:List (El G)}(h1:l.Nodup) (a:∀x,x∈l↔H x):cd H=l.length:=
 ((List.perm_ext_iff_of_nodup (elsIn_nodup H) h1).2 (λx=>elsIn_mem.trans (a x).symm)).length_eq
theorem cd_congr {H K:El G->Prop}(h:∀x,H x↔K x):cd H=cd K:=by
 have:H=K:=funext λx=>propext (h x);rw[this]
theorem cd_pos {H:El G->Prop}(S:SG H):0<cd H:=List.length_pos_of_mem (elsIn_mem.2 S.one)
def eqv (N:El G->Prop) (x y:El G):Prop:=N (x⁻¹ * y)
theorem eqv_refl {N:El G->Prop}(S:SG N) (x:El G):eqv N x x:=by unfold eqv;rw[El.il];exact S.one
theorem eqv_symm {N:El G->Prop}(S:SG N) {x y:El G}(h:eqv N x y):eqv N y x:=by
 have:=S.inv _ h;rwa [El.mi,El.ii] at this
theorem eqv_trans {N:El G->Prop}(S:SG N) {x y z:El G}(h:eqv N x y) (k:eqv N y z):eqv N x z:=by
 have:=S.mul _ _ h k;rwa [El.ass,El.irc] at this
theorem flat_len {α a:Type}(l:List α) (f:α->List a) (n:Nat) (h:∀x∈l,(f x).length=n):(l.flatMap f).length=l.length*n:=flatMap_len' l f n h
theorem cd_mul {N B:El G->Prop}(S:SG N) {ts:List (El G)}(p:ts.Nodup) (q:∀t∈ts,∀n,N n->B (t*n)) (h1:∀t∈ts,∀u∈ts,eqv N t u->t=u) (r:∀x,B x->∃t∈ts,eqv N t x):cd B=ts.length*cd N:=by
 rw[cd_list (H:=B) (l:=ts.flatMap (λt=>(elsIn N).map (λn=>t*n))) ?_ ?_]
 ·exact flat_len _ _ _ (λx _=>List.length_map ..)
 ·refine List.nodup_iff_pairwise_ne.2 (List.pairwise_flatMap.2 ⟨λt _ => ?_,?_⟩)
  ·rw [List.pairwise_map]
   refine(List.nodup_iff_pairwise_ne.1 (elsIn_nodup N)).imp (λ{a b} i e=>i ?_);have:=congrArg (λz=>t⁻¹ * z) e;simpa only[El.ilc] using this
  ·refine (List.nodup_iff_pairwise_ne.1 p).imp_of_mem (λ{a b} ha w i x hx y hy e=>i (h1 a ha b w ?_))
   obtain⟨n,j,rfl⟩:=List.mem_map.1 hx;obtain⟨m,k,rfl⟩:=List.mem_map.1 hy;unfold eqv
   have A:a⁻¹ * b=n*m⁻¹ :=by
    have C:b=a*n*m⁻¹ :=by rw[e,El.ass,El.ir,El.or]
    rw[C,El.ass,El.ilc]
   rw[A];exact S.mul _ _ (elsIn_mem.1 j) (S.inv _ (elsIn_mem.1 k))
 ·intro x
  rw[List.mem_flatMap];constructor
  ·rintro ⟨t,ht,hx⟩
   obtain⟨n,j,rfl⟩:=List.mem_map.1 hx;exact q t ht n (elsIn_mem.1 j)
  ·intro hx
   obtain⟨t,ht,h⟩:=r x hx;exact⟨t,ht,List.mem_map.2 ⟨t⁻¹ * x,elsIn_mem.2 h,El.irc t x⟩⟩
open Classical in
noncomputable def rp (N:El G->Prop) (x:El G):El G:=((els G).find? (λt=>decide (eqv N t x))).getD 1
theorem rp_eqv {N:El G->Prop}(S:SG N) (x:El G):eqv N (rp N x) x:=by
 classical
 unfold rp;cases h:(els G).find? (λt=>decide (eqv N t x)) with
 | none=>
  have:=List.find?_eq_none.1 h x (els_mem G x);exact absurd (decide_eq_true (eqv_refl S x)) this
 | some t=>
  have a:=List.find?_some h;exact of_decide_eq_true a
theorem rp_one {N:El G->Prop}(S:SG N) {x y:El G}(h:eqv N x y):rp N x=rp N y:=by
 classical
 unfold rp
 have:(λt=>decide (eqv N t x))=λt=>decide (eqv N t y):=funext λt=>by
  rw[decide_eq_decide];exact⟨λk=>eqv_trans S k h,λk=>eqv_trans S k (eqv_symm S h)⟩
 rw[this]
noncomputable def trv (N B:El G->Prop):List (El G):=elsIn (λx=>B x/\rp N x=x)
theorem trv_mem {N B:El G->Prop}{x:El G} : x∈trv N B↔B x/\rp N x=x:=elsIn_mem
theorem rp_in {N B:El G->Prop}(S:SG N) (R:SG B) (h:∀x,N x->B x) {x:El G}(hx:B x):rp N x∈trv N B:=by
 have h1:=rp_eqv S x;refine trv_mem.2 ⟨?_,rp_one S h1⟩;have a:=R.mul _ _ hx (h _ (eqv_symm S h1));rwa [El.irc] at a
theorem trv_one {N B:El G->Prop}(S:SG N) {t u:El G}(a:t∈trv N B) (b:u∈trv N B) (h:eqv N t u):t=u:=by
 rw[<-(trv_mem.1 a).2,<-(trv_mem.1 b).2];exact rp_one S h
theorem cd_trv {N B:El G->Prop}(S:SG N) (R:SG B) (h:∀x,N x->B x):cd B=(trv N B).length*cd N:=
 cd_mul S (elsIn_nodup _) (λ_ a n b=>R.mul _ _ (trv_mem.1 a).1 (h n b)) (λ_ a _ i e=>trv_one S a i e) (λx hx=>⟨rp N x,rp_in S R h hx,rp_eqv S x⟩)
open Classical in
noncomputable def prd (P:Pr) (Q:Nat->Prop):Nat->Nat->Nat
 | 0,_=>1
 | f+1,d=>(if Q d then (gt P.orders d).toNat else 1)*prd P Q f (d+1)
theorem prd_congr {Q R:Nat->Prop} : ∀f d,(∀k,d<=k->k<d+f->(Q k↔R k))->prd P Q f d=prd P R f d
 | 0,_,_=>rfl
 | f+1,d,h=>by
  have h1:=h d (by omega) (by omega);unfold prd;rw[prd_congr f (d+1) (λk a b=>h k (by omega) (by omega))];by_cases e:Q d
  ·rw[if_pos e,if_pos (h1.1 e)]
  ·rw[if_neg e,if_neg (λi=>e (h1.2 i))]
theorem prd_mul {Q R:Nat->Prop} : ∀f d,(∀k,d<=k->k<d+f->Q k->¬R k)->prd P Q f d*prd P R f d=prd P (λk=>Q k\/R k) f d
 | 0,_,_=>rfl
 | f + 1,d,h=>by
  have h1:=h d (by omega) (by omega);have j:=prd_mul f (d+1) (λk a b=>h k (by omega) (by omega));unfold prd;rw[<-j];by_cases e:Q d
  ·rw [if_pos e,if_neg (h1 e),if_pos (.inl e)]
   simp only[Nat.one_mul,Nat.mul_assoc]
  ·by_cases i:R d
   ·rw [if_neg e,if_pos i,if_pos (.inr i)]
    simp only[Nat.one_mul,Nat.mul_left_comm]
   ·rw [if_neg e,if_neg i,if_neg (λl=>l.elim e i)]
    simp only[Nat.one_mul]
theorem prd_pos (G:Grp P) (Q:Nat->Prop):∀f d,d+f=P.orders.length->0<prd P Q f d
 | 0,_,_=>Nat.one_pos
 | f+1,d,h=>by
  have:=prd_pos G Q f (d+1) (by omega);obtain⟨q,_,h2,h3⟩:=ordN G (show d<P.orders.length by omega);unfold prd;split
  ·exact Nat.mul_pos (by omega) this
  ·rw[Nat.one_mul];exact this
theorem cop7 {q r:Nat}(a:q=2\/q=3\/q=5\/q=7) (b:r=2\/r=3\/r=5\/r=7) (h:q≠r):Nat.Coprime q r:=by
 rcases a with rfl|rfl|rfl|rfl<;>rcases b with rfl|rfl|rfl|rfl<;>first|(exact absurd rfl h)|decide
theorem prd_cop1 (G:Grp P) {Q:Nat->Prop}{q:Nat}(a:q=2\/q=3\/q=5\/q=7):∀f d,d+f=P.orders.length->(∀k,k<P.orders.length->Q k->(gt P.orders k).toNat≠q)->Nat.Coprime q (prd P Q f d)
 | 0,_,_,_=>Nat.coprime_one_right q
 | f + 1,d,hd,h=>by
  have b:=prd_cop1 G a f (d+1) (by omega) h;obtain⟨r,_,i,h3⟩:=ordN G (show d<P.orders.length by omega);unfold prd;split
  ·rename_i j
   refine Nat.Coprime.mul_right (cop7 a (by rw[i];exact h3) (λe=>h d (by omega) j e.symm)) b
  ·rw[Nat.one_mul];exact b
theorem prd_cop (G:Grp P) {Q R:Nat->Prop} : ∀f d,d+f=P.orders.length->(∀j k,j<P.orders.length->k<P.orders.length->Q j->R k->gt P.orders j≠gt P.orders k)->Nat.Coprime (prd P Q f d) (prd P R P.orders.length 0)
 | 0,_,_,_=>Nat.coprime_one_left _
 | f + 1,d,hd,h=>by
  have a:=prd_cop G f (d+1) (by omega) h;obtain⟨r,h1,b,h3⟩:=ordN G (show d<P.orders.length by omega);rw[prd];split
  ·rename_i i
   refine Nat.Coprime.mul_left (prd_cop1 G (by rw[b];exact h3) _ 0 (by omega) (λk hk l e=>h d k (by omega) hk i l ?_)) a;obtain⟨s,g1,g2,_⟩:=ordN G hk;omega
  ·rw[Nat.one_mul];exact a
theorem cd_pv {H:El G->Prop}(S:SG H):∀f d,d+f=P.orders.length->cd (λx=>H x/\dT d x)=prd P (pv H) f d
 | 0, d,hd=>by
  have:d=P.orders.length:=by omega
  subst this
  have:=cd_list (H:=λx=>H x/\dT P.orders.length x) (l:=[(1:El G)]) (by simp) (λx=>by
   rw[List.mem_singleton];exact⟨λe=>by rw[e];exact⟨S.one,(dT_sg (Nat.le_refl _)).one⟩,λh=>dT_top h.2⟩)
  exact this
 | f + 1,d,hd=>by
  have m:d<P.orders.length:=by omega
  have M:=cd_pv S f (d+1) (by omega);have S':SG (λx=>H x/\dT (d+1) x):=S.and (dT_sg (by omega));have D:SG (dT (G:=G) d):=dT_sg (by omega);rw[prd,<-M];by_cases B:pv H d
  ·rw [if_pos B]
   obtain⟨_,y0,hy0,z,hn0⟩:=B;obtain⟨q,hq1,hq2,hq3⟩:=ordN G m;obtain⟨j,E⟩:=lead_hit m z hn0 (c:=1) (by omega);obtain⟨y,hy⟩:∃y,y=ep y0 j:=⟨_,rfl⟩;have A:H y:=by rw[hy];exact S.ep hy0 j
   have r:dT d y:=by rw[hy];exact ep_dT (by omega) z j
   have F:gt y.1 d=1:=by rw[hy];exact E
   have w:∀i,i<q->gt (ep y i).1 d=(i:Int):=λi C=>by
    rw[ep_at m r,F,hq1,Int.mul_one,Int.emod_eq_of_lt (by omega) (by omega)]
   have p:∀i j,i<q->j<q->eqv (λx=>H x/\dT (d+1) x) (ep y i) (ep y j)->i=j:=λi j C E h=>by
    have:=el_same m h.2;rw[w i C,w j E] at this;omega
   have N:((List.range q).map (λi=>ep y i)).length=(gt P.orders d).toNat:=by rw[List.length_map,List.length_range,hq2]
   rw[<-N];refine cd_mul S' ?_ ?_ ?_ ?_
   ·refine List.nodup_iff_pairwise_ne.2 ?_
    rw[List.pairwise_map];refine(List.nodup_iff_pairwise_ne.1 List.nodup_range).imp_of_mem (λ{a b} ha K I e=>I (p a b (List.mem_range.1 ha) (List.mem_range.1 K) ?_));rw[e];exact eqv_refl S' _
   ·intro t J n L
    obtain⟨i,_,rfl⟩:=List.mem_map.1 J;exact⟨S.mul _ _ (S.ep A i) L.1,D.mul _ _ (D.ep r i) (dT_down L.2)⟩
   ·intro t J u O h
    obtain⟨i,C,rfl⟩:=List.mem_map.1 J;obtain⟨k,hk,rfl⟩:=List.mem_map.1 O;rw[p i k (List.mem_range.1 C) (List.mem_range.1 hk) h]
   ·intro x hx
    have K:=x.2.2 d m;refine⟨ep y (gt x.1 d).toNat,List.mem_map.2 ⟨_,List.mem_range.2 (by omega),rfl⟩,S.mul _ _ (S.inv _ (S.ep A _)) hx.1,el_diff m (D.ep r _) hx.2 ?_⟩;rw[w _ (by omega)];omega
  ·rw [if_neg B,Nat.one_mul]
   exact cd_congr (λx=>⟨λh=>⟨h.1,dT_up h.2 (Classical.byContradiction λQ=>B ⟨m,x,h.1,h.2,Q⟩)⟩,λh=>⟨h.1,dT_down h.2⟩⟩)
theorem cd_eq {H:El G->Prop}(S:SG H):cd H=prd P (pv H) P.orders.length 0:=by
 rw[<-cd_pv S _ _ (Nat.zero_add _)];exact cd_congr (λx=>⟨λh=>⟨h,dT_zero x⟩,λh=>h.1⟩)
theorem trv_len {N B:El G->Prop}(S:SG N) (R:SG B) (h:∀x,N x->B x):(trv N B).length=prd P (λd=>pv B d/\¬pv N d) P.orders.length 0:=by
 have h1:=cd_trv S R h;rw[cd_eq R,cd_eq S] at h1;have b:=prd_mul (P:=P) (Q:=λd=>pv B d/\¬pv N d) (R:=pv N) P.orders.length 0 (λk _ _ hk=>hk.2)
 have i:prd P (λk=>(pv B k/\¬pv N k)\/pv N k) P.orders.length 0=prd P (pv B) P.orders.length 0:=prd_congr _ _ (λk _ _=>by
  constructor
  ·rintro (a|a)
   ·exact a.1
   ·exact pv_mono h a
  ·intro a
   by_cases e:pv N k
   ·exact .inr e
   ·exact .inl ⟨a,e⟩)
 rw[i,h1] at b;exact(Nat.eq_of_mul_eq_mul_right (prd_pos G _ _ _ (Nat.zero_add _)) b).symm
end
end Go.Proofs.YtoakmefajbbggaaGreat
namespace Go.Proofs.YtoakmefajbbggaaGreat
open Go.RowKit
open Classical
noncomputable def sm {α:Type}(f:α->Nat):List α->Nat
 | []=>0
 | a :: l=>f a+sm f l
theorem sm_congr {α:Type}{f g:α->Nat} : ∀ {l:List α},(∀x∈l,f x=g x)->sm f l=sm g l
 | [],_=>rfl
 | a :: l,h=>by
  simp only[sm];rw[h a (List.mem_cons_self ..),sm_congr (l:=l) (λx hx=>h x (List.mem_cons_of_mem _ hx))]
theorem sm_const {α:Type}{f:α->Nat}{n:Nat} : ∀ {l:List α},(∀x∈l,f x=n)->sm f l=l.length*n
 | [],_=>by simp[sm]
 | a :: l,h=>by
  simp only[sm,List.length_cons];rw[h a (List.mem_cons_self ..),sm_const (l:=l) (λx hx=>h x (List.mem_cons_of_mem _ hx)),Nat.add_mul];omega
theorem sm_zero {α:Type}(l:List α):sm (λ_=>0) l=0:=by rw[sm_const (λ_ _=>rfl)];omega
theorem sm_add {α:Type}(f g:α->Nat):∀l:List α,sm (λx=>f x+g x) l=sm f l+sm g l
 | []=>rfl
 | a :: l=>by simp only[sm,sm_add f g l];omega
theorem sm_swap {α b:Type}(f:α->b->Nat) (m:List b):∀l:List α,sm (λx=>sm (λy=>f x y) m) l=sm (λy=>sm (λx=>f x y) l) m
 | []=>by simp only[sm];rw[sm_zero]
 | a :: l=>by
  simp only[sm];rw[sm_swap f m l,<-sm_add]
theorem sm_filter {α:Type}(f:α->Nat) (p:α->Prop):∀l:List α,sm f (l.filter (λx=>decide (p x)))=sm (λx=>if p x then f x else 0) l
 | []=>rfl
 | a :: l=>by
  by_cases h:p a
  ·rw [List.filter_cons_of_pos (by simpa using h)]
   simp only[sm,if_pos h,sm_filter f p l]
  ·rw [List.filter_cons_of_neg (by simpa using h)]
   simp only[sm,if_neg h,sm_filter f p l];omega
theorem sm_len {α:Type}(l:List α):sm (λ_=>1) l=l.length:=by rw[sm_const (λ_ _=>rfl)];omega
theorem sm_one {i:Type}(q:i->Prop) (n:Nat):∀ {R:List i},R.Pairwise (λr s=>q r->¬q s)->(∃r∈R,q r)->sm (λr=>if q r then n else 0) R=n
 | [],_,⟨r,b,_⟩=>by cases b
 | a :: R,e,⟨r,b,hq⟩=>by
  rw[List.pairwise_cons] at e;simp only[sm];by_cases ha:q a
  ·rw[if_pos ha,sm_congr (g:=λ_=>0) (λx hx=>if_neg (e.1 x hx ha)),sm_zero];omega
  ·rw [if_neg ha,sm_one q n e.2 (by
    rcases List.mem_cons.1 b with rfl|b
    ·exact absurd hq ha
    ·exact⟨r,b,hq⟩)];omega
theorem sm_part {α a:Type}(f:α->Nat) (D:a->α->Prop) {R:List a}{T:List α}(h1:∀x∈T,R.Pairwise (λr s=>D r x->¬D s x)) (b:∀x∈T,∃r∈R,D r x):sm f T=sm (λr=>sm f (T.filter (λx=>decide (D r x)))) R:=by
 have e:sm (λr=>sm f (T.filter (λx=>decide (D r x)))) R=sm (λr=>sm (λx=>if D r x then f x else 0) T) R:=sm_congr (λr _=>sm_filter f (D r) T);rw[e,sm_swap];exact sm_congr (λx hx=>(sm_one (λr=>D r x) (f x) (h1 x hx) (b x hx)).symm)
variable {P:Pr}{G:Grp P}
def dD (H K:El G->Prop) (x g:El G):Prop:=∃h k,H h/\K k/\g=h*x*k
theorem dD_self {H K:El G->Prop}(S:SG H) (R:SG K) (x:El G):dD H K x x:=⟨1,1,S.one,R.one,by rw[El.ol,El.or]⟩
theorem dD_symm {H K:El G->Prop}(S:SG H) (R:SG K) {x y:El G}(h:dD H K x y):dD H K y x:=by
 obtain⟨a,b,ha,hb,e⟩:=h;refine⟨a⁻¹,b⁻¹,S.inv _ ha,R.inv _ hb,?_⟩;rw[e,El.ass,El.ass,El.ass,El.ilc,El.ir,El.or]
theorem dD_trans {H K:El G->Prop}(S:SG H) (R:SG K) {x y z:El G}(h:dD H K x y) (k:dD H K y z):dD H K x z:=by
 obtain⟨a,b,ha,hb,e⟩:=h;obtain⟨c,d,hc,hd,i⟩:=k;refine⟨c*a,b*d,S.mul _ _ hc ha,R.mul _ _ hb hd,?_⟩;rw[i,e];simp only[El.ass]
def stb (H K:El G->Prop) (x y:El G):Prop:=H y/\K (x⁻¹ * y*x)
theorem stb_sg {H K:El G->Prop}(S:SG H) (R:SG K) (x:El G):SG (stb H K x):=by
 refine⟨⟨S.one,?_⟩,?_,?_⟩
 ·rw[El.or,El.il];exact R.one
 ·rintro a b ⟨h1,h2⟩ ⟨k1,k2⟩
  refine⟨S.mul _ _ h1 k1,?_⟩
  have e:x⁻¹ * (a*b)*x=(x⁻¹ * a*x)*(x⁻¹ * b*x):=by
   simp only[El.ass];rw[El.irc]
  rw[e];exact R.mul _ _ h2 k2
 ·rintro a ⟨h1,h2⟩
  refine⟨S.inv _ h1,?_⟩
  have e:x⁻¹ * a⁻¹ * x=(x⁻¹ * a*x)⁻¹ :=by
   rw[El.mi,El.mi,El.ii];simp only[El.ass]
  rw[e];exact R.inv _ h2
theorem cd_dD {H K:El G->Prop}(S:SG H) (R:SG K) (x:El G):cd (dD H K x)*cd (stb H K x)=cd H*cd K:=by
 have j:=stb_sg S R x;have i:∀y,stb H K x y->H y:=λy h=>h.1;have h1:=cd_trv j S i
 have q:cd (dD H K x)=((trv (stb H K x) H).map (λt=>t*x)).length*cd K:=by
  refine cd_mul R ?_ ?_ ?_ ?_
  ·rw [List.nodup_iff_pairwise_ne,List.pairwise_map]
   refine(List.nodup_iff_pairwise_ne.1 (elsIn_nodup _)).imp (λ{_ _} l e=>l ?_);have:=congrArg (λz=>z*x⁻¹) e;simpa only[El.ass,El.ir,El.or] using this
  ·intro t m n r
   obtain⟨u,p,rfl⟩:=List.mem_map.1 m;exact⟨u,n,(trv_mem.1 p).1,r,rfl⟩
  ·intro t m u p w
   obtain⟨a,ha,rfl⟩:=List.mem_map.1 m;obtain⟨b,k,rfl⟩:=List.mem_map.1 p
   have e:a=b:=trv_one j ha k (by
    refine⟨S.mul _ _ (S.inv _ (trv_mem.1 ha).1) (trv_mem.1 k).1,?_⟩;have h:K ((a*x)⁻¹ * (b*x)):=w;rw[El.mi] at h;simpa only[El.ass] using h)
   rw[e]
  ·rintro g ⟨a,b,ha,k,rfl⟩
   refine⟨rp (stb H K x) a*x,List.mem_map.2 ⟨_,rp_in j S i ha,rfl⟩,?_⟩;have A:=(rp_eqv j a).2;show K ((rp (stb H K x) a*x)⁻¹ * (a*x*b))
   have e:(rp (stb H K x) a*x)⁻¹ * (a*x*b)=(x⁻¹ * ((rp (stb H K x) a)⁻¹ * a)*x)*b:=by
    rw[El.mi];simp only[El.ass]
   rw[e];exact R.mul _ _ A k
 rw[List.length_map] at q;rw[q,h1,Nat.mul_assoc,Nat.mul_assoc,Nat.mul_comm (cd K)]
structure DRep (H K:El G->Prop) (R:List (El G)):Prop where
 one:R.Pairwise (λx y=>¬dD H K x y)
 all:∀g,∃r∈R,dD H K r g
theorem DRep.dis {H K:El G->Prop}(S:SG H) (T:SG K) {R:List (El G)}(h:DRep H K R) (g:El G):R.Pairwise (λr s=>dD H K r g->¬dD H K s g):=
 h.one.imp (λ{_ _} a b e=>a (dD_trans S T b (dD_symm S T e)))
theorem cd_sum {H K:El G->Prop}(S:SG H) (T:SG K) {R:List (El G)}(h:DRep H K R):sm (λr=>cd (dD H K r)) R=(els G).length:=by
 rw[<-sm_len (els G),sm_part (λ_=>1) (dD H K) (λx _=>h.dis S T x) (λx _=>h.all x)];exact sm_congr (λr _=>by rw[sm_len];rfl)
end Go.Proofs.YtoakmefajbbggaaGreat
namespace Go.Proofs.YtoakmefajbbggaaGreat
open Go.Proofs Go.Shelf Go.RowKit Go.Lib Go.Sort
section
variable {α:Type} [Inhabited α] {enc:α->Value}
theorem holds_of_blockV {w:World}{g:Nat}{a:Array Value}{e:TypeId}{ss:List α}(i:w.heap[g]? = some (.cells a e (0,0))) (k:a.toList.take ss.length=ss.map enc):Go.Sort.Holds enc w g 0 ss.toArray:=by
 intro j l;have b:j<ss.length:=by simpa using l
 refine⟨?_,by simp[World.frozen?,i]⟩;have h1:(a.toList.take ss.length)[j]? = (ss.map enc)[j]? :=by rw[k]
 rw[List.getElem?_take_of_lt b] at h1;simp only[World.cell?,i,Nat.zero_add];simp only[Option.isSome_none,Bool.false_eq_true,if_false];rw[<-Array.getElem?_toList,h1];simp[b]
theorem heap_sortedV {w:World}{g n:Nat}{os:Array Obj}{a:Array Value}{e:TypeId}{b:Nat × Nat}(d:Array α) (i:w.heap[g]? = some (.cells a e b)) :
  (sortWorld enc w g 0 n d os).heap[g]? = some (.cells (putCells enc 0 d a) e b):=by
 have j:g<w.heap.size:=(Array.getElem?_eq_some_iff.1 i).1;unfold sortWorld;rw[heap_grow_old _ _ (by simpa using j)];simp[putRow,mapBlock,Sort.ahead,Array.getElem?_modify,i,onCells]
theorem grownBy_sortedV {w:World}{g n:Nat}{os:Array Obj}(d:Array α):w.grownBy (sortWorld enc w g 0 n d os) (some g):=by
 unfold sortWorld;refine⟨rfl,rfl,rfl,by simp,λk hk a => ?_⟩;rw[heap_grow_old _ _ (by simpa using hk)];have:g≠k:=λe=>a (by rw[e]);simp[putRow,mapBlock,Sort.ahead,Array.getElem?_modify,this]
theorem take_putCellsV (a:Array Value) (ts:List α) (h:ts.length<=a.size):(putCells enc 0 ts.toArray a).toList.take ts.length=ts.map enc:=by
 apply List.ext_getElem?;intro j;by_cases b:j<ts.length
 ·rw [List.getElem?_take_of_lt b,Array.getElem?_toList]
  simp[putCells,b,show j<a.size by omega]
 ·rw[List.getElem?_take_eq_none (by omega),List.getElem?_eq_none (by simp;omega)]
theorem ownsRow_sortedV {w:World}{base g cap n:Nat}{e:TypeId}{os:Array Obj}{a:Array Value}{ss ts:List α}(i:ts.length=ss.length) (b:base<=g) (j:w.heap[g]? = some (.cells a e (0,0)))
  (h1:ss.length<=cap) (k:cap<=maxLen) (l:a.size=cap*1) :
  (sortWorld enc w g 0 n ts.toArray os).ownsRow base e 1 (.slice (some ⟨g,0,none⟩) ss.length cap) ss.length (ts.map enc):=
 ⟨by simp[i],.inr ⟨g,cap,_,rfl,b,heap_sortedV _ j,h1,k,by simp[putCells,l],by rw[Nat.mul_one,<-i];exact take_putCellsV a ts (by omega)⟩⟩
end
def encAt (a:List Value) (k:Nat):Value:=if k<a.length then gt a k else .slice none 0 0
theorem encAt_one {a:List Value}(h:∀i,i<a.length->(gt a i).oneCell'=true):OneCell (encAt a):=by
 intro k;unfold encAt;split
 ·exact h k (by assumption)
 ·rfl
theorem gt_inj {α:Type} [Inhabited α] {l:List α}(h:l.Nodup) {i j:Nat}(a:i<l.length) (b:j<l.length) (e:gt l i=gt l j):i=j:=by
 simp only[gt,List.getD_eq_getElem?_getD,List.getElem?_eq_getElem a,List.getElem?_eq_getElem b,Option.getD_some] at e;rcases Nat.lt_trichotomy i j with h1|h1|h1
 ·exact absurd e (List.pairwise_iff_getElem.1 h i j a b h1)
 ·exact h1
 ·exact absurd e.symm (List.pairwise_iff_getElem.1 h j i b a h1)
theorem Grp.repTo_mem {P:Pr}(G:Grp P) {H:List Int->Prop}(S:Sub P H) {X Y:List Int}(a:Vec P.orders X) (h:RepTo P (cseq P H) X (cseq P H).length Y):Y=zeros P.orders.length↔H X:=by
 obtain⟨h1,h2,h3⟩:=G.seq_facts S;have k:=G.invV a;have e:=h.cos H S h2;constructor
 ·intro b
  rw[b,G.grp.er _ k] at e;have:=S.inv _ e;rwa [G.inv_inv a] at this
 ·intro hx
  have hy:=S.mul _ _ hx e;rw[<-G.ass a k h.vec,G.mul_inv a,G.grp.el _ h.vec] at hy;by_cases b:Y=zeros P.orders.length
  ·exact b
  ·obtain ⟨d,hd,hT,hne⟩:=depth_ex h.vec b
   obtain⟨j,hj,i⟩:=h3 Y hy d hd hT hne;exact absurd (by rw[<-i];exact h.zer j hj) hne
theorem isZeroB_zeros {o l:List Int}(h:Vec o l):isZeroB l=true↔l=zeros o.length:=by
 rw[isZeroB_true];constructor
 ·intro a
  refine ext_gt (by rw[h.1];simp[zeros]) (λi b => ?_);rw[a i b];exact(gt_replicate _ _).symm
 ·intro a i b
  rw[a];exact gt_replicate _ _
theorem isMember_ok (P:Pr) (G:Grp P) (w:World) (p m q:Value) (H:List Int->Prop) (X:List Int) (y z A:Nat->Prop) (S:Sub P H) (B:PresP y w p P) (C:Rows2 z w m (cseq P H)) (hx:Ints A w q X) (D:Vec P.orders X) :
  Calls Tryz.prog 160 #[p,m,q] w (Ret w λ_ v=>∃r:Bool,v=.bool r/\(r=true↔H X)):=by
 have F:=G.v.n6;have K:=G.cseq_len S;have e:=(G.seq_facts S).1;have b:=representative_ok P G w p m q (cseq P H) X y z A B C e (by omega) hx D;obtain⟨pb,po,rfl⟩:=B.shape;obtain⟨L,capu,rfl,_,_⟩:=Sl.shape C;obtain⟨M,capx,rfl,_,_⟩:=hx.shape;have N:=Lib.hid e;clear e;go_enter Tryz.func160,Tryz.ntmps160;go_wp2_with fail
 refine Calls.mono b ?_;rintro O E ⟨v1,rfl,hg1,Y,hO,l⟩;clear b;have i:=hO.ints (by rw[l.vec.1];omega);obtain⟨Q,capy,rfl,_,_⟩:=i.shape;have a:=(isZeroB_zeros l.vec).trans (G.repTo_mem S D l);cases k:isZeroB Y with
 | true=>
  rw[k] at a;have u:=Lib.hid a;have j:=isZero_ok _ _ E Any i;rw[k] at j;clear a k l;go_wp2_with fail
  refine Calls.mono j ?_;rintro I J ⟨rfl,rfl⟩;clear j;go_wp2;go_ret;exact⟨_,rfl,hg1,true,rfl,by simpa using u.out⟩
 | false=>
  rw[k] at a;have u:=Lib.hid a;have j:=isZero_ok _ _ E Any i;rw[k] at j;clear a k l;go_wp2_with fail
  refine Calls.mono j ?_;rintro I J ⟨rfl,rfl⟩;clear j;go_wp2;go_ret;exact⟨_,rfl,hg1,false,rfl,by simpa using u.out⟩
theorem Grp.rRep_pw {P:Pr}(G:Grp P) {X:List Int}(a:Vec P.orders X) (k:Nat):rRep (rAt P P.orders.length 0) (zeros P.orders.length) X k=pw P X k:=
 G.lvl.rRep_eq (T_zero.2 a) k
theorem l10Pow_ok (P:Pr) (G:Grp P) (w:World) (pv x:Value) (X:List Int) (k:Int) (F D:Nat->Prop) (H:PresV F w pv P) (hx:Ints D w x X) (B:Vec P.orders X) (hk : -1000000000<=k/\k<=1000000000) :
  Calls Tryz.prog 257 #[pv,x,.int .i64 k] w (Ret w λw' v=>Own w.heap.size w' v (pwZ P X k)):=by
 have hP:=G.v;have I:=hP.n6;obtain⟨vo,vp,vc,rfl,h3⟩:=H;have l:=PresP.box h3 28;have b:Ext w (w.alloc (.cells #[vo,vp,vc] 28)):=World.grownBy_alloc _ _ _;have m:=hx.ext b;have p:(w.alloc (.cells #[vo,vp,vc] 28)).heap.size=w.heap.size+1:=by simp
 have E:=Lib.hid p;clear p hx;have q:X.length=P.orders.length:=B.1;have A:=Lib.hid (And.intro B q);clear B q;by_cases a:k<0
 ·have r:pwZ P X k=pw P (rInv P X) (-k).toNat:=by unfold pwZ;rw[if_pos a]
  have e:=G.invV A.out.1;have J:(rInv P X).length<=6:=by rw[e.1];omega
  have u:=Lib.hid (And.intro r e);clear r e;have K:IntKind.i64.wrap (-k) = -k:=IntWalk.i64_in _ (by omega);go_enter Tryz.func257,Tryz.ntmps257;go_wp2;generalize C:w.alloc (.cells #[vo,vp,vc] 28)=w0 at *;clear C;obtain⟨y,vp6,vc6,_,_,hc0,i,j,h36⟩:=l.at;have L:∀w',Ext w0 w'->w'.cell? ⟨w.heap.size,0,none⟩=some y:=λw' h=>h.cell hc0 (by simp);have M:∀w',Ext w0 w'->w'.cell? ⟨w.heap.size,1,none⟩=some vp6:=λw' h=>h.cell (by simpa using i) (by simp);have N:∀w',Ext w0 w'->w'.cell? ⟨w.heap.size,2,none⟩=some vc6:=λw' h=>h.cell (by simpa using j) (by simp);clear hc0 i j
  go_region_held3 (λw'=>Ext w0 w') (first|exact grown_drew _ _|assumption)
   (first
    | (go_at_call 67;refine Calls.mono (Calls.rel (w0:=w0) (by assumption) (l10Inv_ok P hP _ _ _ _ Any Any ⟨_,_,_,rfl,Pres3.ext h36 (by assumption)⟩ (Ints.sub (Ints.ext m (by assumption)) (λ_ _ _=>trivial)) A.out.1)) ?_;rintro S T ⟨U,rfl,hgA,hsA,hOA⟩;have z:=hOA.ints (by omega))
    | (go_at_call 278;refine Calls.mono (Calls.rel (w0:=w0) (by assumption) (l08Repeat_ok P hP _ _ _ 0 P.orders.length (by omega) _ (-k) Any Any ⟨_,_,_,rfl,Pres3.ext h36 (by assumption)⟩ z u.out.2 (by omega) (by omega))) ?_;rintro O Q ⟨R,rfl,hgB,hsB,hOB⟩))
  clear L M N;rw[G.rRep_pw u.out.2,<-u.out.1] at hOB;go_wp2;go_ret;exact⟨_,rfl,grown_trans b hgB,hOB.weak (by have:=E.out;omega)⟩
 ·have r:pwZ P X k=pw P X k.toNat:=by unfold pwZ;rw[if_neg a]
  have u:=Lib.hid r;clear r;obtain⟨y,vp6,vc6,_,_,hc0,i,j,h36⟩:=l.at;go_enter Tryz.func257,Tryz.ntmps257;go_wp2_with fail
  refine Calls.mono (l08Repeat_ok P hP _ _ _ 0 P.orders.length (by omega) X k Any D ⟨_,_,_,rfl,h36⟩ m A.out.1 (by omega) (by omega)) ?_;rintro O Q ⟨R,rfl,hgB,hOB⟩;rw[G.rRep_pw A.out.1,<-u.out] at hOB;go_wp2;go_ret;exact⟨_,rfl,grown_trans b hgB,hOB.weak (by have:=E.out;omega)⟩
/-! ### a row of bools of the call's own -/
def Near (w:World) (g:Nat) (w':World):Prop:=∃a,Ext w a/\(w'=a\/∃j x,w'=a.setCell ⟨g,j,none⟩ x)
theorem Near.of {w w':World}{g:Nat}(h:Ext w w'):Near w g w':=⟨w',h,.inl rfl⟩
theorem Near.store {w w':World}{g j:Nat}{x:Value}(h:Ext w w'):Near w g (w'.setCell ⟨g,j,none⟩ x):=⟨w',h,.inr ⟨j,x,rfl⟩⟩
theorem Near.cell {w w':World}{g:Nat}(h:Near w g w') {a:Addr}{v:Value}(e:w.cell? a=some v) (b:a.block≠g):w'.cell? a=some v:=by
 obtain⟨i,h1,rfl|⟨j,x,rfl⟩⟩:=h
 ·exact h1.cell e (by simp)
 ·rw [World.cell?_setCell_far _ _ _ _ (by simpa using Ne.symm b)]
  exact h1.cell e (by simp)
theorem l02Lead_ok (v:Value) (X:List Int) (w:World) (S:Nat->Prop) (h:Ints S w v X) :
  Calls Tryz.prog 285 #[v] w λe w'=>e=.returned (.int .i64 (dep X))/\w=w':=by
 obtain⟨a,cap,rfl,_,_⟩:=h.shape;go_enter Tryz.func285,Tryz.ntmps285;go_wp2;go_loop [3] (λi=>∃k:Nat,i=.int .i64 k/\k<=X.length/\∀j,j<k->gt X j=0) (λi=>X.length-(intOf i).toNat)
 case atStart=>exact⟨0,rfl,by omega,λj p=>by omega⟩
 case round=>
  obtain⟨k,rfl,hk,hz⟩:=hrel;have q:=Lib.hid hz;clear hz;by_cases l:k<X.length
  ·obtain ⟨b,off,rfl,_,_,hc⟩:=Ints.at h k l
   by_cases hx:gt X k=0
   ·have u:(gt X k != 0)=false:=by simp[hx]
    have y:=Lib.hid hx;clear hx;go_wp2;go_round
    case rel=>exact⟨k+1,by go_num,by omega,λj p=>by
     rcases Nat.lt_succ_iff_lt_or_eq.1 p with h1|h1
     ·exact q.out j h1
     ·rw[h1];exact y.out⟩
    case measure=>simp[intOf];omega
   ·have u:(gt X k != 0)=true:=by simp[hx]
    have m:dep X=k:=dep_eq l q.out hx;have r:=Lib.hid m;clear m hx;go_wp2;go_ret;exact⟨by rw[r.out];rfl,rfl⟩
  ·have z:k=X.length:=by omega
   have m:dep X=X.length:=dep_all (λj p=>q.out j (by omega));have r:=Lib.hid m;clear m;go_wp2;go_ret;exact⟨by rw[r.out];rfl,rfl⟩
theorem l12Depth_ok (v:Value) (X:List Int) (w:World) (S:Nat->Prop) (h:Ints S w v X) :
  Calls Tryz.prog 251 #[v] w (Ret w λ_ r=>r=.int .i64 (dep X)):=by
 have b:=l02Lead_ok v X w S h;obtain⟨a,cap,rfl,_,_⟩:=h.shape;go_enter Tryz.func251,Tryz.ntmps251;go_wp2_with fail
 refine Calls.mono b ?_;rintro e i ⟨rfl,rfl⟩;clear b;go_wp2;go_ret;exact⟨_,rfl,Ext.refl _,rfl⟩
theorem TabAt.rows {B gb n:Nat}{bad:Nat->Prop}{w:World}{b:List (List Int)}(h:TabAt B bad w gb n b) (r:n<=1000000):Rows2 (λk=>k=gb\/(k≠gb/\¬bad k)) w (.slice (some ⟨gb,0,none⟩) n n) b:=by
 have m:=h.len;have e:=h.lt;refine⟨_,_,by rw[m],⟨by omega,by omega,λh=>by cases h⟩,λi u => ?_⟩;obtain⟨_,l⟩:=h.at i (by omega);rcases l with⟨p,l⟩|⟨_,a,cap,l,hI⟩
 ·refine ⟨gb,0,_,rfl,.inl rfl,e.2,by rw[Nat.zero_add];exact l,?_⟩
  rw[p];exact⟨none,0,rfl,⟨by simp,by simp,λ_=>rfl⟩,λj q=>by simp at q⟩
 ·exact⟨gb,0,_,rfl,.inl rfl,e.2,by rw[Nat.zero_add];exact l,Ints.sub hI (λk hk _ => .inr hk)⟩
theorem l12Table_ok (P:Pr) (hP:Valid P) (w:World) (pv Z:Value) (U:List (List Int)) (Sp Su:Nat->Prop) (M:PresV Sp w pv P) (hu:Rows2 Su w Z U) (hU:SeqOk P U) (hl:U.length<=6) :
  Calls Tryz.prog 261 #[pv,Z] w (Ret w λw' v=>Rows2 Any w' v (tabTo U P.orders.length U.length)):=by
 have aj:=hP.n6;obtain⟨vo,vp,vc,rfl,h3⟩:=M;have F:=PresP.box h3 28;have N:Ext w (w.alloc (.cells #[vo,vp,vc] 28)):=World.grownBy_alloc _ _ _;obtain⟨ao,capo,hco,hoi⟩:=F.ordAt;obtain⟨au,capu,rfl,_,_⟩:=Sl.shape hu;have HU:=Lib.hid hU;clear hU;go_enter Tryz.func261,Tryz.ntmps261;go_wp2_with (first|(at_make;refine wp_make_tab rfl _ _ rfl w.heap.size P.orders.length (w.heap.size+1) (by simp) _ rfl rfl rfl (by omega) (by omega) ?_;intro w1 G O ac)|fail)
 have H:=grown_trans N O;have C:=G (λ_=>False);clear G hco hoi F;go_loopw [6] (λQ wr=>∃i:Nat,Q=.int .i64 i/\i<=U.length/\Ext w wr/\TabAt w.heap.size (λ_=>False) wr (w.heap.size+1) P.orders.length (tabTo U P.orders.length i)) (λQ _=>U.length-(intOf Q).toNat)
 case atStart=>exact⟨0,rfl,by omega,H,C⟩
 case round=>
  clear C H;obtain⟨i,rfl,hi,E,C⟩:=hrel;by_cases l:i<U.length
  ·have ad:(i:Int)<U.length:=by omega
   obtain⟨b,off,a2,a,rfl,_,hbl0,hc0,R⟩:=Rows2.at hu i l;have hc:=E.cell hc0 (by simp);clear hc0;obtain⟨p,q,r⟩:=HU.out.1 _ (gtMem l);have A:tabTo U P.orders.length (i+1)=(tabTo U P.orders.length i).set (dep (gt U i)) (gt U i):=rfl;obtain⟨z,hz⟩:∃z,z=gt U i:=⟨_,rfl⟩;rw[<-hz] at hc R p q r A;clear hz;obtain⟨d,S⟩:∃d,d=dep z:=⟨_,rfl⟩;rw[<-S] at q A r;have HD:=Lib.hid S;clear S;have am:b<w.heap.size:=hbl0;have T:=Ints.ext R E;have B:z≠[]:=λe=>by have:=p.1;rw[e] at this;simp at this;omega
   have V:Ints (λk=>k≠w.heap.size+1/\¬False) wr (.slice a2 z.length a) z:=by
    have h1:Ints (λk=>k<w.heap.size) w (.slice a2 z.length a) z:=Ints.sub R (λ_ _ h=>h);exact h1.mono (λk hk l=>⟨⟨by omega,id⟩,Nat.lt_of_lt_of_le l E.size,E.block k l (by simp)⟩)
   obtain⟨an,I⟩:=C.at d q;have HS:=Lib.hid (And.intro A (And.intro B (And.intro p r)));clear A B p r;have ap:(d:Int)<P.orders.length:=by omega
   obtain⟨u0,hu0⟩:∃u0,wr.cell? ⟨w.heap.size+1,d,none⟩=some u0:=by rcases I with⟨_,h⟩|⟨_,_,_,h,_⟩<;>exact⟨_,h⟩
   clear I hbl0;have e1:∀w',Near wr (w.heap.size+1) w'->w'.cell? ⟨b,off+i,none⟩=some (.slice a2 z.length a):=λw' h=>h.cell hc (by simp;omega);go_wp2
   go_region_held3 (λw'=>Near wr (w.heap.size+1) w') (first|exact Near.of (grown_drew _ _)|exact Near.of (by assumption)|exact Near.store (by assumption)|assumption)
    (first
     | (go_at_call 251;refine Calls.mono (Calls.rel (w0:=wr) (by first|exact grown_drew _ _|assumption) (l12Depth_ok _ z _ Any (Ints.sub (Ints.ext T (by first|exact grown_drew _ _|assumption)) (λ_ _ _=>trivial)))) ?_;rintro eE wE ⟨vE,rfl,m,hsE,J⟩;rw[<-HD.out] at J;subst J;have D:=m.cell hu0 (by simp);have K:=((C.ext m).at d q).1))
   clear e1;obtain⟨W,L⟩:=(C.ext m).put d (u := .slice a2 z.length a) (y:=z) (Ints.ext V m) HS.out.2.1;have X:Ext w (wE.setCell ⟨w.heap.size+1,d,none⟩ (.slice a2 z.length a)):=grown_own (grown_trans E m) L (λj hj l=>by cases hj;omega);clear D K L;go_wp2;go_roundw
   case rel=>exact⟨i+1,by go_num,by omega,X,by rw[HS.out.1];exact W⟩
   case measure=>simp[intOf];omega
  ·have Y:i=U.length:=by omega
   subst Y;go_wp2;go_ret;exact⟨_,rfl,E,Rows2.sub (C.rows (by omega)) (λ_ _ _=>trivial)⟩
theorem l12Reduce_ok (P:Pr) (G:Grp P) (w:World) (pv tv M:Value) (b:List (List Int)) (X:List Int) (H:List Int->Prop) (Sp Sb Sx:Nat->Prop) (N:PresV Sp w pv P) (ht:Rows2 Sb w tv b) (hx:Ints Sx w M X) (O:Vec P.orders X)
  (l:b.length=P.orders.length) (hI:Ind P H (gt b)) :
  Calls Tryz.prog 288 #[pv,tv,M] w (Ret w λw' v=>∃Y,Own w.heap.size w' v Y/\RedTo P H b X P.orders.length Y):=by
 have hP:=G.v;have ao:=hP.n6;obtain⟨vo,vp,vc,rfl,h3⟩:=N;have y:=PresP.box h3 28;have m:Ext w (w.alloc (.cells #[vo,vp,vc] 28)):=World.grownBy_alloc _ _ _;have Q:=hx.ext m;have R:=Rows2.ext ht m;have ap:X.length<=6:=by rw[O.1];omega
 have z:(w.alloc (.cells #[vo,vp,vc] 28)).heap.size=w.heap.size+1:=by simp
 obtain⟨at_,capt,A,_,_⟩:=Sl.shape ht;rw[l] at A;subst A;have r:=Lib.hid (And.intro hI (And.intro O l));clear hI O l;obtain⟨S,vp6,vc6,_,_,T,B,C,D⟩:=y.at;simp only[Nat.zero_add] at B C;clear y;go_enter Tryz.func288,Tryz.ntmps288;go_wp2_with fail
 have HS:=Lib.hid z;clear z;generalize U:w.alloc (.cells #[vo,vp,vc] 28)=w0 at *;clear U;refine Calls.mono (l01Own_ok w0 M X Sx Q (by omega)) ?_;rintro e1 w1 ⟨ov,rfl,hg1,hO1⟩;go_wp2;go_loopw [7,8] (λov V wr=>∃(d:Nat) (Y:List Int),V=.int .i64 d/\d<=P.orders.length/\Ext w0 wr/\Own w.heap.size wr ov Y/\Hid (RedTo P H b X d Y)) (λ_ V _=>P.orders.length-(intOf V).toNat)
 case atStart=>exact⟨0,X,rfl,by omega,hg1,hO1.weak (by have:=HS.out;omega),Lib.hid (G.redTo_zero r.out.1.sub r.out.2.1)⟩
 case round=>
  clear hO1;obtain⟨d,Y,rfl,hd,e,hO,E⟩:=hrel;have a:=E.out.vec;have W:Y.length=P.orders.length:=a.1;have p:=hO.ints (by omega);obtain⟨ay,capy,F,_,_⟩:=p.shape;rw[W] at F;subst F;by_cases i:d<P.orders.length
  ·have ak:(d:Int)<P.orders.length:=by omega
   obtain⟨bb,off,a2,I,rfl,_,_,hc,hr⟩:=Rows2.at (Rows2.ext R e) d (by rw[r.out.2.2];exact i);obtain⟨Z,oy,rfl,_,_,hcy⟩:=Ints.at p d (by omega);by_cases k:gt b d=[]
   ·have aa:¬(0:Int)<(gt b d).length:=by rw[k];simp
    have j:=Lib.hid (E.out.skip (.inl k));clear k a;go_wp2;go_roundw
    case rel=>exact⟨d+1,Y,by go_num,by omega,e,hO,j⟩
    case measure=>simp[intOf];omega
   ·have aa:(0:Int)<(gt b d).length:=by
     have:0<(gt b d).length:=List.length_pos_iff.2 k;omega
    by_cases hy:gt Y d=0
    ·have ab:(gt Y d != 0)=false:=by simp[hy]
     have j:=Lib.hid (E.out.skip (.inr hy));clear k a hy;go_wp2;go_roundw
     case rel=>exact⟨d+1,Y,by go_num,by omega,e,hO,j⟩
     case measure=>simp[intOf];omega
    ·have ab:(gt Y d != 0)=true:=by simp[hy]
     have J:=a.2 d i;have ho:=hP.ord7 d i;have au:IntKind.i64.wrap (-(gt Y d)) = -(gt Y d):=IntWalk.i64_in _ (by omega);obtain⟨m1,m2,m3⟩:=r.out.1.mem d i k;have j:=Lib.hid (G.redTo_step r.out.1 r.out.2.1 i k E.out);have q:=G.pwZ_vec m2.1 (-(gt Y d));have K:(pwZ P (gt b d) (-(gt Y d))).length<=6:=by rw[q.1];omega
     have u:=Lib.hid (And.intro m2.1 (And.intro q (And.intro K (And.intro a (And.intro J ho)))));clear m1 m2 m3 q K a J ho k hy;have e1:∀w',Ext wr w'->w'.cell? ⟨w.heap.size,0,none⟩=some S:=λw' h=>(grown_trans e h).cell T (by simp);have e2:∀w',Ext wr w'->w'.cell? ⟨w.heap.size,1,none⟩=some vp6:=λw' h=>(grown_trans e h).cell B (by simp);have e3:∀w',Ext wr w'->w'.cell? ⟨w.heap.size,2,none⟩=some vc6:=λw' h=>(grown_trans e h).cell C (by simp);have e4:∀w',Ext wr w'->w'.cell? ⟨bb,off+d,none⟩=some (.slice a2 (gt b d).length I):=λw' h=>h.cell hc (by simp);have e5:∀w',Ext wr w'->w'.cell? ⟨Z,oy+d,none⟩=some (.int .i64 (gt Y d)):=λw' h=>h.cell hcy (by simp);go_wp2;clear hc hcy
     go_region_held3 (λw'=>Ext wr w') (first|exact grown_drew _ _|assumption)
      (first
       | (go_at_call 257;refine Calls.mono (Calls.rel (w0:=wr) (by assumption) (l10Pow_ok P G _ _ _ (gt b d) _ Any Any ⟨_,_,_,rfl,Pres3.ext (Pres3.ext D e) (by assumption)⟩ (Ints.sub (Ints.ext hr (by assumption)) (λ_ _ _=>trivial)) u.out.1 (by have:=u.out.2.2.2.2.1;have:=u.out.2.2.2.2.2;omega))) ?_;rintro eA wA ⟨vA,rfl,hgA,hsA,hOA⟩;have L:=hOA.ints (by have:=u.out.2.2.1;omega))
       | (go_at_call 169;refine Calls.mono (Calls.rel (w0:=wr) (by assumption) (l08Mul_ok P hP _ _ _ _ Y _ Any Any Any ⟨_,_,_,rfl,Pres3.ext (Pres3.ext D e) (by assumption)⟩ (Ints.sub (Ints.ext p (by assumption)) (λ_ _ _=>trivial)) L u.out.2.2.2.1 u.out.2.1)) ?_;rintro eB wB ⟨vB,rfl,hgB,hsB,hOB⟩))
     clear e1 e2 e3 e4 e5;go_wp2;go_roundw
     case rel=>exact⟨d+1,_,by go_num,by omega,grown_trans e hgB,hOB.weak (by have:=e.size;have:=HS.out;omega),j⟩
     case measure=>simp[intOf];omega
  ·have ad:d=P.orders.length:=by omega
   subst ad;go_wp2;go_ret;exact⟨_,rfl,grown_trans m e,Y,hO,E.out⟩
theorem l01Zero_ok (v:Value) (l:List Int) (w:World) (S:Nat->Prop) (h:Ints S w v l) :
  Calls Tryz.prog 254 #[v] w λe w'=>e=.returned (.bool (isZeroB l))/\w=w':=by
 obtain⟨a,cap,rfl,_,_⟩:=h.shape;go_enter Tryz.func254,Tryz.ntmps254;go_wp2;go_loop [3] (λi=>∃k:Nat,i=.int .i64 k/\k<=l.length/\∀j,j<k->gt l j=0) (λi=>l.length-(intOf i).toNat)
 case atStart=>exact⟨0,rfl,by omega,λj q=>by omega⟩
 case round=>
  obtain⟨k,rfl,hk,hz⟩:=hrel;have u:=Lib.hid hz;clear hz;by_cases m:k<l.length
  ·obtain ⟨b,off,rfl,_,_,hc⟩:=Ints.at h k m
   by_cases hx:gt l k=0
   ·have y:(gt l k != 0)=false:=by simp[hx]
    have z:=Lib.hid hx;clear hx;go_wp2;go_round
    case rel=>exact⟨k+1,by go_num,by omega,λj q=>by
     rcases Nat.lt_succ_iff_lt_or_eq.1 q with h1|h1
     ·exact u.out j h1
     ·rw[h1];exact z.out⟩
    case measure=>simp[intOf];omega
   ·have y:(gt l k != 0)=true:=by simp[hx]
    have p:isZeroB l=false:=by
     cases A:isZeroB l with
     | false=>rfl
     | true=>exact absurd (isZeroB_true.1 A k m) hx
    have r:=Lib.hid p;clear p hx;go_wp2;go_ret;exact⟨by rw[r.out];rfl,rfl⟩
  ·have p:isZeroB l=true:=isZeroB_true.2 (λj q=>u.out j (by omega))
   have r:=Lib.hid p;clear p;go_wp2;go_ret;exact⟨by rw[r.out];rfl,rfl⟩
theorem l12Sift_ok (P:Pr) (G:Grp P) (w:World) (pv A B:Value) (H:List Int->Prop) (X:List Int) (F I J:Nat->Prop) (S:Sub P H) (p:PresV F w pv P) (q:Rows2 I w A (cseq P H)) (hx:Ints J w B X) (C:Vec P.orders X) :
  Calls Tryz.prog 255 #[pv,A,B] w (Ret w λw' v=>∃Y,Own w.heap.size w' v Y/\Rep P H (gt (tabTo (cseq P H) P.orders.length (cseq P H).length)) X Y):=by
 have hP:=G.v;have K:=hP.n6;have D:=G.cseq_len S;have i:=(G.seq_facts S).1;have E:=G.ind_tab S;obtain⟨vo,vp,vc,rfl,h3⟩:=p;have j:=PresP.box h3 28;have a:Ext w (w.alloc (.cells #[vo,vp,vc] 28)):=World.grownBy_alloc _ _ _;have r:=Rows2.ext q a;have u:=hx.ext a;have k:(w.alloc (.cells #[vo,vp,vc] 28)).heap.size=w.heap.size+1:=by simp
 obtain⟨R,capu,hvu,_,_⟩:=Sl.shape q;obtain⟨T,capx,hvx,_,_⟩:=hx.shape;subst hvu hvx;obtain⟨y,vp6,vc6,_,_,hc0,b,e,h36⟩:=j.at;simp only[Nat.zero_add] at b e;have m:=Lib.hid (And.intro i (And.intro E (And.intro C D)));clear i E C D j q hx;go_enter Tryz.func255,Tryz.ntmps255;go_wp2;have L:=Lib.hid k;clear k;generalize z:w.alloc (.cells #[vo,vp,vc] 28)=w0 at *;clear z;have M:∀w',Ext w0 w'->w'.cell? ⟨w.heap.size,0,none⟩=some y:=λw' h=>h.cell hc0 (by simp);have N:∀w',Ext w0 w'->w'.cell? ⟨w.heap.size,1,none⟩=some vp6:=λw' h=>h.cell b (by simp);have O:∀w',Ext w0 w'->w'.cell? ⟨w.heap.size,2,none⟩=some vc6:=λw' h=>h.cell e (by simp);clear hc0 b e
 go_region_held3 (λw'=>Ext w0 w') (first|exact grown_drew _ _|assumption)
  (first
   | (go_at_call 261;refine Calls.mono (Calls.rel (w0:=w0) (by assumption) (l12Table_ok P hP _ _ _ (cseq P H) Any Any ⟨_,_,_,rfl,Pres3.ext h36 (by assumption)⟩ (Rows2.sub (Rows2.ext r (by assumption)) (λ_ _ _=>trivial)) m.out.1 (by have:=m.out.2.2.2;omega))) ?_;rintro U V ⟨W,rfl,hgA,hsA,l⟩;obtain⟨Z,capA,hvA,_,_⟩:=Sl.shape l;subst hvA)
   | (go_at_call 288;refine Calls.mono (Calls.rel (w0:=w0) (by assumption) (l12Reduce_ok P G _ _ _ _ _ X H Any Any Any ⟨_,_,_,rfl,Pres3.ext h36 (by assumption)⟩ l (Ints.sub (Ints.ext u (by assumption)) (λ_ _ _=>trivial)) m.out.2.2.1 (tabTo_len _ _ _) m.out.2.1)) ?_;rintro eB wB ⟨vB,rfl,hgB,hsB,Y,hOB,hRB⟩))
 clear M N O;have Q:=Lib.hid hRB;clear hRB;go_wp2;go_ret;exact⟨_,rfl,grown_trans a hgB,Y,hOB.weak (by have:=L.out;omega),Q.out.rep⟩
theorem l12Has_ok (P:Pr) (G:Grp P) (w:World) (pv D E:Value) (H:List Int->Prop) (X:List Int) (L F I:Nat->Prop) (S:Sub P H) (u:PresV L w pv P) (y:Rows2 F w D (cseq P H)) (hx:Ints I w E X) (z:Vec P.orders X) :
  Calls Tryz.prog 212 #[pv,D,E] w (Ret w λ_ v=>∃r:Bool,v=.bool r/\(r=true↔H X)):=by
 have M:=G.v.n6;have J:=G.ind_tab S;obtain⟨vo,vp,vc,rfl,h3⟩:=u;have j:=PresP.box h3 28;have b:Ext w (w.alloc (.cells #[vo,vp,vc] 28)):=World.grownBy_alloc _ _ _;have A:=Rows2.ext y b;have B:=hx.ext b;obtain⟨T,capu,hvu,_,_⟩:=Sl.shape y;obtain⟨U,capx,hvx,_,_⟩:=hx.shape;subst hvu hvx;obtain⟨N,vp6,vc6,_,_,hc0,k,l,h36⟩:=j.at;simp only[Nat.zero_add] at k l;have e:=l12Sift_ok P G (w.alloc (.cells #[vo,vp,vc] 28)) _ _ _ H X Any F I S ⟨_,_,_,rfl,h36⟩ A B z;have K:=Lib.hid (And.intro J z);clear J z j y hx;go_enter Tryz.func212,Tryz.ntmps212;go_wp2_with fail
 clear hc0 k l;refine Calls.mono e ?_;rintro V O ⟨v1,rfl,hg1,Y,hO,m⟩;clear e;have p:=hO.ints (by rw[m.1.1];omega);obtain⟨W,capy,rfl,_,_⟩:=p.shape;have a:=(isZeroB_zeros m.1).trans (G.rep_mem K.out.1 K.out.2 m);have i:=l01Zero_ok _ _ O Any p;cases q:isZeroB Y with
 | true=>
  rw[q] at a i;have C:=Lib.hid a;clear a q m;go_wp2_with fail
  refine Calls.mono i ?_;rintro Q R ⟨rfl,rfl⟩;clear i;go_wp2;go_ret;exact⟨_,rfl,grown_trans b hg1,true,rfl,by simpa using C.out⟩
 | false=>
  rw[q] at a i;have C:=Lib.hid a;clear a q m;go_wp2_with fail
  refine Calls.mono i ?_;rintro Q R ⟨rfl,rfl⟩;clear i;go_wp2;go_ret;exact⟨_,rfl,grown_trans b hg1,false,rfl,by simpa using C.out⟩
theorem l12Order_ok (P:Pr) (hP:Valid P) (w:World) (pv J:Value) (U:List (List Int)) (R S:Nat->Prop) (y:PresV R w pv P) (A:Rows2 S w J U) (K:SeqOk P U) (hl:U.length<=100) :
  Calls Tryz.prog 211 #[pv,J] w (Ret w λ_ v=>v=.int .i64 (prodU P U U.length)):=by
 have T:=hP.n6;obtain⟨vo,vp,vc,rfl,h3⟩:=y;have j:=PresP.box h3 28;have k:Ext w (w.alloc (.cells #[vo,vp,vc] 28)):=World.grownBy_alloc _ _ _;have B:=Rows2.ext A k;obtain⟨ao,capo,C,D⟩:=j.ordAt;obtain⟨au,capu,rfl,_,_⟩:=Sl.shape A;have L:=Lib.hid K;clear K j A;go_enter Tryz.func211,Tryz.ntmps211;go_wp2;generalize E:w.alloc (.cells #[vo,vp,vc] 28)=w0 at *;clear E;go_loopw [5,6] (λV F wr=>∃i:Nat,V=.int .i64 (prodU P U i)/\F=.int .i64 i/\i<=U.length/\Ext w0 wr) (λ_ F _=>U.length-(intOf F).toNat)
 case atStart=>exact⟨0,rfl,rfl,by omega,Ext.refl _⟩
 case round=>
  obtain⟨i,rfl,rfl,hi,l⟩:=hrel;by_cases e:i<U.length
  ·have M:(i:Int)<U.length:=by omega
   obtain⟨b,off,a2,m,rfl,_,_,G,N⟩:=Rows2.at (Rows2.ext B l) i e;have a:prodU P U (i+1)=prodU P U i*gt P.orders (dep (gt U i)):=rfl;have q:=prodU_729 hP L.out (i+1) e;rw[a] at q;obtain⟨z,r⟩:∃z,z=gt U i:=⟨_,rfl⟩;rw[<-r] at G N a q;obtain⟨d,u⟩:∃d,d=dep z:=⟨_,rfl⟩;rw[<-u] at a q;have H:d<P.orders.length:=by rw[u,r];exact(L.out.1 _ (gtMem e)).2.1
   have W:=Lib.hid (And.intro u r);clear u r;have O:(d:Int)<P.orders.length:=by omega
   obtain⟨Q,oo,rfl,_,_,hcd⟩:=Ints.at (D.ext l) d H;have hw:IntKind.i64.wrap (prodU P U i*gt P.orders d)=prodU P U i*gt P.orders d:=IntWalk.i64_in _ (by omega);have X:=Lib.hid a;clear a q;have Y:∀w',Ext wr w'->w'.cell? ⟨w.heap.size,0,none⟩=some (.slice (some ⟨Q,oo,none⟩) P.orders.length capo):=λw' h=>(grown_trans l h).cell C (by simp);have Z:∀w',Ext wr w'->w'.cell? ⟨b,off+i,none⟩=some (.slice a2 z.length m):=λw' h=>h.cell G (by simp);have e3:∀w',Ext wr w'->w'.cell? ⟨Q,oo+d,none⟩=some (.int .i64 (gt P.orders d)):=λw' h=>h.cell hcd (by simp);clear G hcd;go_wp2
   go_region_held3 (λw'=>Ext wr w') (first|exact grown_drew _ _|assumption)
    (first
     | (go_at_call 251;refine Calls.mono (Calls.rel (w0:=wr) (by first|exact grown_drew _ _|assumption) (l12Depth_ok _ z _ Any (Ints.sub (Ints.ext N (by first|exact grown_drew _ _|assumption)) (λ_ _ _=>trivial)))) ?_;rintro eE wE ⟨vE,rfl,hgE,hsE,p⟩;rw[<-W.out.1] at p;subst p))
   clear Y Z e3;go_wp2;go_roundw
   case rel=>exact⟨i+1,by rw[X.out],by go_num,by omega,grown_trans l hgE⟩
   case measure=>simp[intOf];omega
  ·have I:i=U.length:=by omega
   subst I;go_wp2;go_ret;exact⟨_,rfl,grown_trans k l,rfl⟩
theorem seqOf_succ (n:Nat) (r:Nat->List Int):seqOf (n+1) r=seqOf n r++(if r n=[] then [] else [r n]):=by
 unfold seqOf;rw[List.range_succ,List.filterMap_append];congr 1
 by_cases h:r n=[]<;>simp[h]
theorem seqOf_len (n:Nat) (r:Nat->List Int):(seqOf n r).length<=n:=by rw[sq_all];exact sq_len _ _ _
theorem ShQ.rows {bad:Nat->Prop}{B:Nat}{w:World}{v:Value}{xs:List (List Int)}(h:ShQ bad B w v xs):Rows2 Any w v xs:=by
 obtain⟨j,b,k,l⟩:=h;rcases k with⟨rfl,rfl⟩|⟨g,off,cap,cur,rfl,hb,e,hnc,hcm,hsz,hc⟩
 ·have:xs=[]:=List.eq_nil_of_length_eq_zero (by simpa using b.symm)
  subst this;exact⟨none,0,rfl,⟨by simp,by simp,λ_=>rfl⟩,λi a=>by simp at a⟩
 ·refine ⟨_,cap,by rw[b],⟨by omega,by unfold maxLen at hcm;omega,λh=>by cases h⟩,λi a=>⟨g,off,gt j i,rfl,trivial,(Array.getElem?_eq_some_iff.1 e).1,?_,Ints.sub (l i a) (λ_ _ _=>trivial)⟩⟩
  simp only[World.cell?,e,Option.isSome_none,Bool.false_eq_true,if_false];exact hc i (by omega)
theorem ShQ.lit (bad:Nat->Prop) (B:Nat) (w:World) (hB:B<=w.heap.size):ShQ bad B (w.alloc (.cells #[] 24)) (.slice (some ⟨w.heap.size,0,none⟩) 0 0) []:=
 ⟨[],rfl,QOwn.of (World.ownsRow_lit w #[] 0 hB (by decide) rfl),λi a=>by simp at a⟩
theorem CanInv.congr {P:Pr}{H:List Int->Prop}{b r k:Nat->List Int}{m:Nat}(h:CanInv P H b r m) (j:∀e,m<=e->e<P.orders.length->k e=r e):CanInv P H b k m:=
 ⟨λe h1 a=>by rw[j e h1 a];exact h.nil e h1 a,λe h1 a i=>by rw[j e h1 a] at i ⊢;exact h.mem e h1 a i,
  λe e' h1 a i l p=>by rw[j e h1 (by omega)] at l ⊢;rw[j e' (by omega) i] at p;exact h.red e e' h1 a i l p⟩
theorem ShQ.weak {bad:Nat->Prop}{B B':Nat}{w:World}{v:Value}{xs:List (List Int)}(h:ShQ bad B w v xs) (a:B'<=B):ShQ bad B' w v xs:=by
 obtain⟨b,hl,hq,hr⟩:=h;exact⟨b,hl,hq.weak a,hr⟩
theorem l12FullF_ok (P:Pr) (G:Grp P) (w:World) (pv tv:Value) (b:List (List Int)) (H:List Int->Prop) (Sp Sb:Nat->Prop) (aP:PresV Sp w pv P) (ht:Rows2 Sb w tv b) (S:b.length=P.orders.length) (hI:Ind P H (gt b)) (K:Nat->Prop) (aj:∀k,K k->k<w.heap.size/\¬Sb k) :
  Calls Tryz.prog 260 #[pv,tv] w (Ret w λw' v=>ShQ K w.heap.size w' v (cseq P H)):=by
 have hP:=G.v;have bj:=hP.n6;obtain⟨vo,vp,vc,rfl,h3⟩:=aP;have ak:=PresP.box h3 28;have L:Ext w (w.alloc (.cells #[vo,vp,vc] 28)):=World.grownBy_alloc _ _ _;have al:(w.alloc (.cells #[vo,vp,vc] 28)).heap.size=w.heap.size+1:=by simp
 obtain⟨at_,capt,am,_,_⟩:=Sl.shape ht;rw[S] at am;subst am;have HI:=Lib.hid (And.intro hI S);clear hI S;obtain⟨aQ,vp6,vc6,_,_,aR,an,ao,ap⟩:=ak.at;simp only[Nat.zero_add] at an ao;clear ak;have aq:IntKind.i64.wrap ((P.orders.length:Int)-1)=(P.orders.length:Int)-1:=IntWalk.i64_in _ (by omega);go_enter Tryz.func260,Tryz.ntmps260;go_wp2_with (first|(at_make;refine wp_make_tab rfl _ _ rfl w.heap.size P.orders.length (w.heap.size+1) (by simp) _ rfl rfl rfl (by omega) (by omega) ?_;intro w1 ar aS be)|fail)
 clear aq;have HS:=Lib.hid al;clear al;generalize aT:w.alloc (.cells #[vo,vp,vc] 28)=w0 at *;clear aT;have E:=ar K;clear ar;go_loopw [6] (λdv wr=>∃(m:Nat) (dl:List (List Int)),dv=.int .i64 ((m:Int)-1)/\m<=P.orders.length/\Ext w0 wr/\TabAt w.heap.size K wr (w.heap.size+1) P.orders.length dl/\Hid (CanInv P H (gt b) (gt dl) m/\∀e,e<m->gt dl e=[])) (λdv _=>(intOf dv+1).toNat)
 case atStart=>exact⟨P.orders.length,_,rfl,Nat.le_refl _,aS,E,Lib.hid ⟨⟨λe h1 h2=>by omega,λe h1 h2=>by omega,λe e' h1 h2 h3=>by omega⟩,λe he=>by simp[gt,he]⟩⟩
 case round =>
  clear E;obtain⟨m,dl,rfl,hm,T,E,M⟩:=hrel;by_cases au:m=0
  ·subst au
   have av:((0:Nat):Int)-1 = -1:=rfl;rw[av];have F:=G.can_end HI.out.1 M.out.1;rw[<-sq_all] at F;have HE:=Lib.hid F;clear F;have bm:=E.len;have aU:=E.rows (by omega);obtain⟨N,rfl⟩:∃N:World,N=wr:=⟨_,rfl⟩;go_wp2;go_loopw [9,10] (λov iv wr=>∃(i:Nat) (v4:Value),v4=ov/\iv=.int .i64 i/\i<=P.orders.length/\Ext N wr/\ShQ K N.heap.size wr v4 (seqOf i (gt dl))) (λ_ iv _=>P.orders.length-(intOf iv).toNat)
   case atStart=>exact⟨0,_,rfl,rfl,by omega,World.grownBy_alloc _ _ _,ShQ.lit _ _ _ (Nat.le_refl _)⟩
   case round=>
    obtain⟨i,v4,rfl,rfl,hi,r,U⟩:=hrel;by_cases l:i<P.orders.length
    ·have ax:(i:Int)<P.orders.length:=by omega
     have p:=seqOf_succ i (gt dl);obtain⟨_,C⟩:=E.at i l;rcases C with⟨h0,hcell⟩|⟨q,ab,I,hcell,V⟩
     ·rw [if_pos h0,List.append_nil] at p
      have W:=Lib.hid p;clear p h0;have A:=r.cell hcell (by simp);go_wp2;go_roundw
      case rel=>exact⟨i+1,v4,rfl,by go_num,by omega,r,by rw[W.out];exact U⟩
      case measure=>simp[intOf];omega
     ·rw [if_neg q] at p
      have aW:(0:Int)<(gt dl i).length:=by
       have:0<(gt dl i).length:=List.length_pos_iff.2 q;omega
      have bo:=seqOf_len i (gt dl);have W:=Lib.hid p;clear p q;have A:=r.cell hcell (by simp);have aX:Ints (λk=>¬K k/\v4.ownBlock≠some k) wr (.slice (some ab) (gt dl i).length I) (gt dl i):=Ints.mono V (λk aY hk=>⟨⟨aY.2,λe=>by have:=(U.lt k e).1;omega⟩,Nat.lt_of_lt_of_le hk r.size,r.block k hk (by simp)⟩);go_wp2_with (first|(at_builtin;refine wp_shq_app rfl _ _ rfl K N.heap.size v4 _ (seqOf i (gt dl)) (gt dl i) rfl wr U rfl aX rfl (by omega) r.size ?_;intro v5 w5 aZ O bq;have aB:=grown_own r O (λj hj l=>by have:=(U.lt j hj).1;omega))|fail)
      go_roundw
      case rel=>exact⟨i+1,v5,rfl,by go_num,by omega,aB,by rw[W.out];exact aZ⟩
      case measure=>simp[intOf];omega
    ·have a1:i=P.orders.length:=by omega
     subst a1;rw[HE.out] at U;obtain⟨az,capz,hvz,_⟩:=U.shape;subst hvz;go_wp2;go_ret;exact⟨_,rfl,grown_trans L (grown_trans T r),U.weak (grown_trans L T).size⟩
  ·obtain ⟨d,rfl⟩:∃d,m=d+1:=⟨m-1,by omega⟩
   rw[show(((d+1:Nat)):Int)-1=d by omega];have X:d<P.orders.length:=by omega
   have bf:(d:Int)<P.orders.length:=by omega
   have br:(0:Int)<=d:=by omega
   have bs:IntKind.i64.wrap ((d:Int)-1)=(d:Int)-1:=IntWalk.i64_in _ (by omega);obtain⟨bb,off,a2,aC,hat,_,_,hc,hr⟩:=Rows2.at ht d (by rw[HI.out.2];exact X);subst hat;have Z:=grown_trans L T;have A:=Z.cell hc (by simp);clear hc au;by_cases hb:gt b d=[]
   ·have aD:((((gt b d).length:Nat):Int) == 0)=true:=by rw[hb];rfl
    have J:CanInv P H (gt b) (gt dl) d:=(can_skip (k:=P.orders.length-(d+1)) M.out.1 hb).1.congr (λe h1 h2=>by
     by_cases he:e=d
     ·subst he;rw[if_pos rfl];exact M.out.2 e (by omega)
     ·rw[if_neg he])
    have ac:Hid (CanInv P H (gt b) (gt dl) d/\∀e,e<d->gt dl e=[]):=Lib.hid ⟨J,λe he=>M.out.2 e (by omega)⟩;clear J hb;go_wp2;go_roundw
    case rel=>exact⟨d,dl,rfl,by omega,T,E,ac⟩
    case measure=>simp[intOf]
   ·have aD:((((gt b d).length:Nat):Int) == 0)=false:=by
     have:0<(gt b d).length:=List.length_pos_iff.2 hb;simp;omega
    have aE:Vec P.orders (gt b d):=(HI.out.1.mem d X hb).2.1.1;have Q:Ints (λk=>k≠w.heap.size+1/\¬K k) wr (.slice a2 (gt b d).length aC) (gt b d):=Ints.mono hr (λk a3 hk=>⟨⟨by omega,λh=>(aj k h).2 a3⟩,Nat.lt_of_lt_of_le hk Z.size,Z.block k hk (by simp)⟩);have HB:=Lib.hid (And.intro hb aE);clear hb aE;obtain⟨N,rfl⟩:∃N:World,N=wr:=⟨_,rfl⟩;go_wp2;clear aD A;go_loopw [7,8] (λxv ev wr=>∃(e:Nat) (Y:List Int),ev=.int .i64 e/\d+1<=e/\e<=P.orders.length/\Ext N wr/\Ints (λk=>k≠w.heap.size+1/\¬K k) wr xv Y/\Hid (FullTo P (gt dl) (d+1) (gt b d) e Y)) (λ_ ev _=>P.orders.length-(intOf ev).toNat)
    case atStart=>exact⟨d+1,_,by go_num,Nat.le_refl _,by omega,Ext.refl _,Q,Lib.hid (G.fullTo_zero HB.out.2)⟩
    case round=>
     clear Q;obtain⟨e,Y,rfl,hde,he,a,hY,hF⟩:=hrel;have B:=hF.out.vec;have ad:Y.length=P.orders.length:=B.1;obtain⟨ay,R,aF,_,_⟩:=hY.shape;rw[ad] at aF;subst aF;by_cases l:e<P.orders.length
     ·have ax:(e:Int)<P.orders.length:=by omega
      have bu:(0:Int)<=e:=by omega
      obtain⟨a5,oy,rfl,_,_,hcy⟩:=Ints.at hY e (by omega);obtain⟨_,C⟩:=E.at e l;rcases C with⟨h0,hcell⟩|⟨q,ab,I,hcell,V⟩
      ·have D:=Lib.hid (hF.out.skip (.inl h0));clear h0 B
       have A:=a.cell hcell (by simp);go_wp2;go_roundw
       case rel=>exact⟨e+1,Y,by go_num,by omega,by omega,a,hY,D⟩
       case measure=>simp[intOf];omega
      ·have aW:(0:Int)<(gt dl e).length:=by
        have:0<(gt dl e).length:=List.length_pos_iff.2 q;omega
       have A:=a.cell hcell (by simp);by_cases hy:gt Y e=0
       ·have a6:(gt Y e != 0)=false:=by simp[hy]
        have D:=Lib.hid (hF.out.skip (.inr hy));clear B hy q;go_wp2;go_roundw
        case rel=>exact⟨e+1,Y,by go_num,by omega,by omega,a,hY,D⟩
        case measure=>simp[intOf];omega
       ·have a6:(gt Y e != 0)=true:=by simp[hy]
        have aG:=B.2 e l;have ho:=hP.ord7 e l;have aq:IntKind.i64.wrap (-(gt Y e)) = -(gt Y e):=IntWalk.i64_in _ (by omega);obtain⟨_,m2,m3⟩:=M.out.1.mem e (by omega) l q;have D:=Lib.hid (G.fullTo_step HB.out.2 (by omega) l q ⟨m2,m3⟩ hF.out);have ae:=G.pwZ_vec m2.1 (-(gt Y e));have aH:(pwZ P (gt dl e) (-(gt Y e))).length<=6:=by rw[ae.1];omega
        have HD:=Lib.hid (And.intro m2.1 (And.intro ae (And.intro aH (And.intro B (And.intro aG ho)))));clear m2 m3 ae aH B aG ho q hy;have z:=grown_trans T a;have e1:∀w',Ext wr w'->w'.cell? ⟨w.heap.size,0,none⟩=some aQ:=λw' h=>(grown_trans z h).cell aR (by simp);have e2:∀w',Ext wr w'->w'.cell? ⟨w.heap.size,1,none⟩=some vp6:=λw' h=>(grown_trans z h).cell an (by simp);have e3:∀w',Ext wr w'->w'.cell? ⟨w.heap.size,2,none⟩=some vc6:=λw' h=>(grown_trans z h).cell ao (by simp);have e4:∀w',Ext wr w'->w'.cell? ⟨w.heap.size+1,e,none⟩=some (.slice (some ab) (gt dl e).length I):=λw' h=>h.cell A (by simp);have e5:∀w',Ext wr w'->w'.cell? ⟨a5,oy+e,none⟩=some (.int .i64 (gt Y e)):=λw' h=>h.cell hcy (by simp);go_wp2;clear A hcy hcell
        go_region_held3 (λw'=>Ext wr w') (first|exact grown_drew _ _|assumption)
         (first
          | (go_at_call 257;refine Calls.mono (Calls.rel (w0:=wr) (by assumption) (l10Pow_ok P G _ _ _ (gt dl e) _ Any Any ⟨_,_,_,rfl,Pres3.ext (Pres3.ext ap z) (by assumption)⟩ (Ints.sub (Ints.ext (Ints.ext V a) (by assumption)) (λ_ _ _=>trivial)) HD.out.1 (by have:=HD.out.2.2.2.2.1;have:=HD.out.2.2.2.2.2;omega))) ?_;rintro eA wA ⟨vA,rfl,hgA,hsA,hOA⟩;have aI:=hOA.ints (by have:=HD.out.2.2.1;omega))
          | (go_at_call 169;refine Calls.mono (Calls.rel (w0:=wr) (by assumption) (l08Mul_ok P hP _ _ _ _ Y _ Any Any Any ⟨_,_,_,rfl,Pres3.ext (Pres3.ext ap z) (by assumption)⟩ (Ints.sub (Ints.ext hY (by assumption)) (λ_ _ _=>trivial)) aI HD.out.2.2.2.1 HD.out.2.1)) ?_;rintro eB wB ⟨vB,rfl,hgB,hsB,aJ⟩))
        clear e1 e2 e3 e4 e5;have a7:Ints (λk=>k≠w.heap.size+1/\¬K k) wB vB (rMul P Y (pwZ P (gt dl e) (-(gt Y e)))):=ints_of_own aJ (by rw[D.out.vec.1];omega) (λk hk=>by have h1:=(aJ.lt k hk).1;have:=E.lt;have:=a.size;exact⟨by omega,λh=>by have:=(aj k h).1;have:=L.size;have:=T.size;omega⟩);go_wp2;go_roundw
        case rel=>exact⟨e+1,_,by go_num,by omega,by omega,grown_trans a hgB,a7,D⟩
        case measure=>simp[intOf];omega
     ·have a8:e=P.orders.length:=by omega
      subst a8;have aK:Y≠[]:=λh=>by rw[h] at ad;simp at ad;omega
      have af:=E.ext a;obtain⟨a9,O⟩:=af.put d (u := .slice ay P.orders.length R) (y:=Y) (Ints.sub hY (λk hk _=>hk)) aK;obtain⟨bD,C⟩:=af.at d X;have bE:wr.cell? ⟨w.heap.size+1,d,none⟩=some (.slice none 0 0):=C.elim (λh=>h.2) (λh=>absurd (M.out.2 d (by omega)) h.1);have p:=(G.can_step (k:=P.orders.length-(d+1)) HI.out.1 M.out.1 (by omega) HB.out.1 (hF.out.repTo M.out.1 (by omega))).1
      have J:CanInv P H (gt b) (gt (dl.set d Y)) d:=p.congr (λi h1 h2=>by
       by_cases hi:i=d
       ·subst hi;rw[if_pos rfl,gt_set_eq _ _ _ (by rw[E.len];omega)]
       ·rw[if_neg hi,gt_set_ne _ _ _ _ (λh=>hi h.symm)])
      have ac:Hid (CanInv P H (gt b) (gt (dl.set d Y)) d/\∀i,i<d->gt (dl.set d Y) i=[]):=Lib.hid ⟨J,λi hi=>by rw[gt_set_ne _ _ _ _ (by omega)];exact M.out.2 i (by omega)⟩;have aL:Ext w0 (wr.setCell ⟨w.heap.size+1,d,none⟩ (.slice ay P.orders.length R)):=grown_own (grown_trans T a) O (λj hj l=>by cases hj;have:=HS.out;omega);clear C p J B af O;go_wp2;go_roundw
      case rel=>exact⟨d,dl.set d Y,rfl,by omega,aL,a9,ac⟩
      case measure=>simp[intOf]
theorem l12Strip_ok (P:Pr) (G:Grp P) (w:World) (pv tv N:Value) (b:List (List Int)) (X:List Int) (Sp Sb Sx:Nat->Prop) (O:PresV Sp w pv P) (ht:Rows2 Sb w tv b) (hx:Ints Sx w N X) (Q:Vec P.orders X)
  (m:b.length=P.orders.length) (l:∀d,d<P.orders.length->gt b d≠[]->T P d (gt b d)/\gt (gt b d) d=1) :
  Calls Tryz.prog 256 #[pv,tv,N] w (Ret w λw' v=>∃(d:Nat) (r:Value) (Y:List Int),v=.tuple #[.int .i64 d,r]/\Own w.heap.size w' r Y/\StripTo P b X d Y/\d<=P.orders.length/\(d<P.orders.length->gt Y d≠0/\gt b d=[])):=by
 have hP:=G.v;have ap:=hP.n6;obtain⟨vo,vp,vc,rfl,h3⟩:=O;have z:=PresP.box h3 28;have j:Ext w (w.alloc (.cells #[vo,vp,vc] 28)):=World.grownBy_alloc _ _ _;have R:=hx.ext j;have S:=Rows2.ext ht j;have aq:X.length<=6:=by rw[Q.1];omega
 have A:(w.alloc (.cells #[vo,vp,vc] 28)).heap.size=w.heap.size+1:=by simp
 obtain⟨at_,capt,B,_,_⟩:=Sl.shape ht;rw[m] at B;subst B;have U:=Lib.hid (And.intro l (And.intro Q m));clear l Q m;obtain⟨V,vp6,vc6,_,_,W,C,D,E⟩:=z.at;simp only[Nat.zero_add] at C D;clear z;go_enter Tryz.func256,Tryz.ntmps256;go_wp2_with fail
 have HS:=Lib.hid A;clear A;generalize Z:w.alloc (.cells #[vo,vp,vc] 28)=w0 at *;clear Z;refine Calls.mono (l01Own_ok w0 N X Sx R (by omega)) ?_;rintro e1 w1 ⟨ov,rfl,hg1,hO1⟩;go_wp2;go_loopw [8,9] (λov iv wr=>∃(d:Nat) (Y:List Int),iv=.int .i64 d/\d<=P.orders.length/\Ext w0 wr/\Own w.heap.size wr ov Y/\Hid (StripTo P b X d Y)) (λ_ iv _=>P.orders.length-(intOf iv).toNat)
 case atStart=>exact⟨0,X,rfl,by omega,hg1,hO1.weak (by have:=HS.out;omega),Lib.hid (stripTo_zero U.out.2.1)⟩
 case round=>
  clear hO1;obtain⟨d,Y,rfl,hd,e,hO,F⟩:=hrel;have a:=F.out.vec.1;have ab:Y.length=P.orders.length:=a.1;have p:=hO.ints (by omega);obtain⟨ay,capy,H,_,_⟩:=p.shape;rw[ab] at H;subst H;by_cases i:d<P.orders.length
  ·have al:(d:Int)<P.orders.length:=by omega
   obtain⟨bb,off,a2,I,rfl,_,_,hc,hr⟩:=Rows2.at (Rows2.ext S e) d (by rw[U.out.2.2];exact i);obtain⟨ac,oy,rfl,_,_,hcy⟩:=Ints.at p d (by omega);by_cases hy:gt Y d=0
   ·have ad:(gt Y d == 0)=true:=by simp[hy]
    have q:=Lib.hid (F.out.skip hy);clear a hy;go_wp2;go_roundw
    case rel=>exact⟨d+1,Y,by go_num,by omega,e,hO,q⟩
    case measure=>simp[intOf];omega
   ·have ad:(gt Y d == 0)=false:=by simp[hy]
    by_cases u:gt b d=[]
    ·have ae:((((gt b d).length:Nat):Int) == 0)=true:=by rw[u];rfl
     have k:=Lib.hid (And.intro u hy);clear u a hy;go_wp2;go_ret2
     exact⟨_,rfl,grown_trans j e,d,_,Y,rfl,hO,F.out,by omega,λ_=>⟨k.out.2,k.out.1⟩⟩
    ·have ae:((((gt b d).length:Nat):Int) == 0)=false:=by
      have:0<(gt b d).length:=List.length_pos_iff.2 u;simp;omega
     have J:=a.2 d i;have ho:=hP.ord7 d i;have av:IntKind.i64.wrap (-(gt Y d)) = -(gt Y d):=IntWalk.i64_in _ (by omega);obtain⟨M,m3⟩:=U.out.1 d i u;have q:=Lib.hid (G.stripTo_step i u ⟨M,m3⟩ hy F.out);have y:=G.pwZ_vec M.1 (-(gt Y d));have K:(pwZ P (gt b d) (-(gt Y d))).length<=6:=by rw[y.1];omega
     have k:=Lib.hid (And.intro M.1 (And.intro y (And.intro K (And.intro a (And.intro J ho)))));clear M m3 y K a J ho u hy;have e1:∀w',Ext wr w'->w'.cell? ⟨w.heap.size,0,none⟩=some V:=λw' h=>(grown_trans e h).cell W (by simp);have e2:∀w',Ext wr w'->w'.cell? ⟨w.heap.size,1,none⟩=some vp6:=λw' h=>(grown_trans e h).cell C (by simp);have e3:∀w',Ext wr w'->w'.cell? ⟨w.heap.size,2,none⟩=some vc6:=λw' h=>(grown_trans e h).cell D (by simp);have e4:∀w',Ext wr w'->w'.cell? ⟨bb,off+d,none⟩=some (.slice a2 (gt b d).length I):=λw' h=>h.cell hc (by simp);have e5:∀w',Ext wr w'->w'.cell? ⟨ac,oy+d,none⟩=some (.int .i64 (gt Y d)):=λw' h=>h.cell hcy (by simp);go_wp2;clear hc hcy
     go_region_held3 (λw'=>Ext wr w') (first|exact grown_drew _ _|assumption)
      (first
       | (go_at_call 257;refine Calls.mono (Calls.rel (w0:=wr) (by assumption) (l10Pow_ok P G _ _ _ (gt b d) _ Any Any ⟨_,_,_,rfl,Pres3.ext (Pres3.ext E e) (by assumption)⟩ (Ints.sub (Ints.ext hr (by assumption)) (λ_ _ _=>trivial)) k.out.1 (by have:=k.out.2.2.2.2.1;have:=k.out.2.2.2.2.2;omega))) ?_;rintro eA wA ⟨vA,rfl,hgA,hsA,hOA⟩;have L:=hOA.ints (by have:=k.out.2.2.1;omega))
       | (go_at_call 169;refine Calls.mono (Calls.rel (w0:=wr) (by assumption) (l08Mul_ok P hP _ _ _ _ Y _ Any Any Any ⟨_,_,_,rfl,Pres3.ext (Pres3.ext E e) (by assumption)⟩ (Ints.sub (Ints.ext p (by assumption)) (λ_ _ _=>trivial)) L k.out.2.2.2.1 k.out.2.1)) ?_;rintro eB wB ⟨vB,rfl,hgB,hsB,hOB⟩))
     clear e1 e2 e3 e4 e5;go_wp2;go_roundw
     case rel=>exact⟨d+1,_,by go_num,by omega,grown_trans e hgB,hOB.weak (by have:=e.size;have:=HS.out;omega),q⟩
     case measure=>simp[intOf];omega
  ·have af:d=P.orders.length:=by omega
   subst af;go_wp2;go_ret2
   exact⟨_,rfl,grown_trans j e,_,_,Y,rfl,hO,F.out,by omega,λh=>absurd h (by omega)⟩
theorem run_head_rows (w:World) (a:Option Addr) (n cap:Nat) (k:Int) (b:0<=k) (h1:k<=cap) :
  (Instr.slice 25 (.slice a n cap) none (some (.int .i64 k)) none).run Tryz.prog w=.ok (.slice a k.toNat cap) w:=by
 rw[run_slice_h w 25 a n cap (by kernel_rfl) .i64 k b h1];have:(sizeOf (Tryz.prog.elem 25)).run Tryz.prog w=.ok 1 w:=by kernel_rfl
 rw[this];cases a with
 | none=>simp[Result.andThen,sliced]
 | some a=>simp[Result.andThen,sliced,Addr.add]
theorem QOwn.init {B E n cap:Nat}{w:World}{a:Option Addr}{x:Value}{b:List Value}(h:QOwn B E w (.slice a n cap) (b++[x])):QOwn B E w (.slice a b.length cap) b:=by
 rcases h with⟨_,h⟩|⟨g,off,cap',cur,e,hb,hg,h1,h2,h3,j⟩
 ·simp at h
 ·simp only[Value.slice.injEq] at e
  obtain⟨rfl,rfl,rfl⟩:=e;simp only[List.length_append,List.length_singleton] at h1 j;exact .inr ⟨g,off,cap,cur,rfl,hb,hg,by omega,h2,h3,λi k=>by rw[j i (by omega),gt_append_left _ _ _ k]⟩
theorem ShQ.init {bad:Nat->Prop}{B n cap:Nat}{w:World}{a:Option Addr}{x:List Int}{xs:List (List Int)}(h:ShQ bad B w (.slice a n cap) (xs++[x])):ShQ bad B w (.slice a xs.length cap) xs:=by
 obtain⟨l,m,hq,hr⟩:=h
 obtain ⟨j,u,rfl⟩:∃j u,l=j++[u]:=by
  refine⟨l.dropLast,l.getLast (λe=>by rw[e] at m;simp at m),(List.dropLast_concat_getLast _).symm⟩
 have b:j.length=xs.length:=by simpa using m
 refine⟨j,b,by rw[<-b];exact hq.init,λi q => ?_⟩;have p:=hr i (by simp;omega);rw[gt_append_left _ _ _ (by omega),gt_append_left _ _ _ q] at p;exact Ints.sub p (λk hk _=>⟨hk.1,λe=>hk.2 (by cases a<;>exact e)⟩)
theorem l01Own2_ok (w:World) (v:Value) (L:List (List Int)) (S:Nat->Prop) (E:Rows2 S w v L) (F:∀x∈L,x.length<=1000000) (G:L.length<=1000000) :
  Calls Tryz.prog 183 #[v] w (Ret w λw' r=>RowsO w.heap.size w' r L):=by
 obtain⟨a,cap,rfl,_,_⟩:=Sl.shape E;have J:=Lib.hid F;clear F;go_enter Tryz.func183,Tryz.ntmps183;go_wp2;go_loopw [3,4] (λK y wr=>∃(i:Nat) (v4:Value),v4=K/\y=.int .i64 i/\i<=L.length/\Ext w wr/\RowsO w.heap.size wr v4 (L.take i)) (λ_ y _=>L.length-(intOf y).toNat)
 case atStart=>exact⟨0,_,rfl,rfl,by omega,World.grownBy_alloc _ _ _,[],λ_ _=>False,rfl,World.ownsRow_lit w #[] 0 (Nat.le_refl _) (by decide) rfl,by simp,by simp,by simp⟩
 case round=>
  obtain⟨i,v4,rfl,rfl,hi,u,hO⟩:=hrel;by_cases k:i<L.length
  ·have H:(i:Int)<L.length:=by omega
   obtain⟨b,off,a2,cap2,rfl,_,_,hc,M⟩:=Rows2.at (Rows2.ext E u) i k;have e:=take_succ_gt L i k;have m:=J.out _ (gtMem k);have z:(L.take i).length<=1000000:=by rw[List.length_take];omega
   have l:=Lib.hid (And.intro e m);clear e m;go_wp2_with fail
   refine Calls.mono (l01Own_ok wr _ (gt L i) _ M (by have:=l.out.2;omega)) ?_;rintro R I ⟨N,rfl,A,hOC⟩;have p:OwnIn (From wr.heap.size) I N (gt L i):=OwnIn.of hOC (by have:=l.out.2;omega) (λj h1 _=>h1);obtain⟨T,capy,hvy,_,_⟩:=p.ints.shape;subst hvy;clear hc;go_wp2_with (first|(at_builtin;refine wp_app_row rfl _ _ rfl w.heap.size wr I v4 _ (L.take i) (gt L i) rfl hO A p rfl rfl z u.size ?_;intro O U B C Q;have q:=hO.extw u (Nat.le_refl _) C)|fail)
   go_roundw
   case rel=>exact⟨i+1,O,rfl,by go_num,by omega,q,by rw[l.out.1];exact B⟩
   case measure=>simp[intOf];omega
  ·have D:i=L.length:=by omega
   subst D;rw[List.take_length] at hO;obtain⟨V,capz,hvz,_,_⟩:=SlD.shape (hO.toD (by omega));subst hvz;go_wp2;go_ret;exact⟨_,rfl,u,hO⟩
theorem l10Comm_ok (P:Pr) (G:Grp P) (w:World) (pv a b:Value) (A B:List Int) (N H I:Nat->Prop) (O:PresV N w pv P) (ha:Ints H w a A) (M:Ints I w b B) (F:Vec P.orders A) (hB:Vec P.orders B) :
  Calls Tryz.prog 259 #[pv,a,b] w (Ret w λw' v=>Own w.heap.size w' v (comR P A B)):=by
 have hP:=G.v;obtain⟨vo,vp,vc,rfl,h3⟩:=O;have Q:=hP.n6;have i:=G.mulV hB F;have m:=G.invV i;have p:=G.mulV F hB;have l:=Lib.hid (And.intro i (And.intro m p));clear i m p;have j:Ext w (w.alloc (.cells #[vo,vp,vc] 28)):=World.grownBy_alloc _ _ _;have J:=PresP.box h3 28;have q:=ha.ext j;have r:=M.ext j;have u:(w.alloc (.cells #[vo,vp,vc] 28)).heap.size=w.heap.size+1:=by simp
 have R:=Lib.hid u;clear u ha M;go_enter Tryz.func259,Tryz.ntmps259;go_wp2;generalize K:w.alloc (.cells #[vo,vp,vc] 28)=w0 at *;clear K;obtain⟨L,vp6,vc6,_,_,hc0,y,z,h36⟩:=J.at;have S:∀w',Ext w0 w'->w'.cell? ⟨w.heap.size,0,none⟩=some L:=λw' h=>h.cell hc0 (by simp);have T:∀w',Ext w0 w'->w'.cell? ⟨w.heap.size,1,none⟩=some vp6:=λw' h=>h.cell (by simpa using y) (by simp);have U:∀w',Ext w0 w'->w'.cell? ⟨w.heap.size,2,none⟩=some vc6:=λw' h=>h.cell (by simpa using z) (by simp);clear hc0 y z
 go_region_held3 (λw'=>Ext w0 w') (first|exact grown_drew _ _|assumption)
  (first
   | (revert e;intro e;go_at_call 169;refine Calls.mono (Calls.rel (w0:=w0) (by assumption) (l08Mul_ok P hP _ _ _ _ _ _ Any Any Any ⟨_,_,_,rfl,Pres3.ext h36 (by assumption)⟩ C e l.out.2.1 l.out.2.2)) ?_;rintro V W ⟨X,rfl,hgC,hsC,hOC⟩)
   | (revert k;intro k;go_at_call 169;refine Calls.mono (Calls.rel2 (w0:=w0) (by assumption) (l08Mul_ok P hP _ _ _ _ A B Any H I ⟨_,_,_,rfl,Pres3.ext h36 (by assumption)⟩ (Ints.ext q (by assumption)) (Ints.ext r (by assumption)) F hB)) ?_;rintro Y Z ⟨vF,rfl,hgF,D,hsF,hOF⟩;have C:=(k.ext0 D).ints (by rw[l.out.2.1.1];omega);have e:=hOF.ints (by rw[l.out.2.2.1];omega))
   | (go_at_call 67;refine Calls.mono (Calls.rel (w0:=w0) (by assumption) (l10Inv_ok P hP _ _ _ _ Any Any ⟨_,_,_,rfl,Pres3.ext h36 (by assumption)⟩ E l.out.1)) ?_;rintro eB wB ⟨vB,rfl,hgB,hsB,k⟩)
   | (go_at_call 169;refine Calls.mono (Calls.rel (w0:=w0) (by assumption) (l08Mul_ok P hP _ _ _ _ B A Any I H ⟨_,_,_,rfl,Pres3.ext h36 (by assumption)⟩ (Ints.ext r (by assumption)) (Ints.ext q (by assumption)) hB F)) ?_;rintro eA wA ⟨vA,rfl,hgA,hsA,hOA⟩;have E:=hOA.ints (by rw[l.out.1.1];omega)))
 clear S T U;go_wp2;go_ret;exact⟨_,rfl,grown_trans j hgC,hOC.weak (by have:=R.out;omega)⟩
theorem l01Mod_ok (a m:Int) (w:World) (h1:0<=a) (b:a<m) :
  Calls Tryz.prog 289 #[.int .i64 a,.int .i64 m] w λe w'=>e=.returned (.int .i64 a)/\w=w':=by
 have k:a.tmod m=a:=Int.tmod_eq_of_lt h1 b;have i:m≠0:=by omega
 have j:(m == 0)=false:=by simp;omega
 go_enter Tryz.func289,Tryz.ntmps289;go_wp2;go_ret;exact⟨rfl,rfl⟩
theorem inv_ex {a m:Int}(b:m=2\/m=3\/m=5\/m=7) (h1:1<=a) (e:a<m):∃y:Int,1<=y/\y<m/\(a*y)%m=1:=by
 rcases b with rfl|rfl|rfl|rfl
 ·have:a=1:=by omega
  subst this;exact⟨1,by decide,by decide,by decide⟩
 ·rcases (show a=1\/a=2 by omega) with rfl|rfl
  ·exact⟨1,by decide,by decide,by decide⟩
  ·exact⟨2,by decide,by decide,by decide⟩
 ·rcases (show a=1\/a=2\/a=3\/a=4 by omega) with rfl|rfl|rfl|rfl
  ·exact⟨1,by decide,by decide,by decide⟩
  ·exact⟨3,by decide,by decide,by decide⟩
  ·exact⟨2,by decide,by decide,by decide⟩
  ·exact⟨4,by decide,by decide,by decide⟩
 ·rcases (show a=1\/a=2\/a=3\/a=4\/a=5\/a=6 by omega) with rfl|rfl|rfl|rfl|rfl|rfl
  ·exact⟨1,by decide,by decide,by decide⟩
  ·exact⟨4,by decide,by decide,by decide⟩
  ·exact⟨5,by decide,by decide,by decide⟩
  ·exact⟨2,by decide,by decide,by decide⟩
  ·exact⟨3,by decide,by decide,by decide⟩
  ·exact⟨6,by decide,by decide,by decide⟩
theorem l01Inv_ok (a m:Int) (w:World) (z:m=2\/m=3\/m=5\/m=7) (h1:1<=a) (i:a<m) :
  Calls Tryz.prog 258 #[.int .i64 a,.int .i64 m] w (Ret w λ_ v=>∃k:Int,v=.int .i64 k/\0<=k/\k<m/\(k*a)%m=1):=by
 have hex:=inv_ex z h1 i;have B:=Lib.hid hex;clear hex;have j:2<=m/\m<=7:=by omega
 obtain⟨C,j⟩:=j;clear z;have b:=l01Mod_ok a m w (by omega) i;go_enter Tryz.func258,Tryz.ntmps258;go_wp2;go_loopw [5] (λq wr=>∃x:Int,q=.int .i64 x/\1<=x/\x<=m/\w=wr/\Hid (∀y,1<=y->y<x->(a*y)%m≠1)) (λq _=>(m-intOf q).toNat)
 case atStart=>exact⟨1,rfl,by omega,by omega,rfl,Lib.hid (λy h1 i=>by omega)⟩
 case round=>
  obtain⟨x,rfl,hx1,hxm,rfl,A⟩:=hrel;by_cases r:x<m
  ·have l:0<=a*x:=Int.mul_nonneg (by omega) (by omega)
   have D:a*x<=7*7:=Int.mul_le_mul (by omega) (by omega) (by omega) (by omega);have I:IntKind.i64.wrap (a*x)=a*x:=IntWalk.i64_in _ (by omega);have J:(a*x).tmod m=(a*x)%m:=Int.tmod_eq_emod_of_nonneg l;have E:(m == 0)=false:=by simp;omega
   by_cases e:(a*x)%m=1
   ·have F:((a*x)%m == 1)=true:=by simp[e]
    have p:(x*a)%m=1:=by rw[Int.mul_comm];exact e
    have u:=Lib.hid p;clear e p;go_wp2_with fail
    refine Calls.mono b ?_;rintro G H ⟨rfl,rfl⟩;clear b;go_wp2;go_ret;exact⟨_,rfl,Ext.refl _,x,rfl,by omega,r,u.out⟩
   ·have F:((a*x)%m == 1)=false:=by simp[e]
    have u:=Lib.hid e;clear e;go_wp2_with fail
    refine Calls.mono b ?_;rintro G H ⟨rfl,rfl⟩;clear b;go_wp2;go_roundw
    case rel=>exact⟨x+1,by go_num,by omega,by omega,trivial,Lib.hid (λy h1 i=>by
     by_cases hy:y=x
     ·rw[hy];exact u.out
     ·exact A.out y h1 (by omega))⟩
    case measure=>simp[intOf];omega
  ·obtain ⟨y,h1,i,h3⟩:=B.out
   exact absurd h3 (A.out y h1 (by omega))
theorem step_app_int {k:Array Oper}{o:Oper}{a:Act}{K:Act->World->Prop}{Q:Exit->Act->World->Prop}{r:Prop}{w:World}(m:o.guard=none) (s x:Operand)
  (u:o.op=Op.call { callee:=Callee.builtin Builtin.append,args := #[s,x],argTypes := #[24,24] }) (B:Nat) (v:Value) (l:List Int) (y:Int) (z:a.eval s=v) (b:World) (i:Own B b v l)
  (A:w=b.alloc (.cells #[.int .i64 y] 2)) (hx:a.eval x=.slice (some ⟨b.heap.size,0,none⟩) 1 1) (q:l.length<=1000000) (p:B<=b.heap.size)
  (h:∀j w',Own B w' j (l++[y])->b.grownBy w' v.ownBlock->K (a.put o.dst j) w') :
  if Region.wanted o (yielded k a.tmps)=true then Oper.wp Tryz.prog o a w K Q else r:=by
 subst A;have e:Ext b (b.alloc (.cells #[.int .i64 y] 2)):=World.grownBy_alloc _ _ _;refine step_app 24 2 (.int .i64 0) 8 und_ints Tryz.infoInt rfl (by decide) m s x u B v (l.map (Value.int .i64)) z (i.ext0 e).v b.heap.size (.int .i64 y) hx (by rw[World.cell?_alloc_at _ _ _ _ rfl];rfl) rfl (by simpa using (by omega:l.length<=2000000)) (by have:=e.size;omega) ?_;intro j w' h1 C _;exact h j w' (Own.of (by rw[List.map_append];exact h1)) (grown_trans (grown_of_ext _ e) C)
end Go.Proofs.YtoakmefajbbggaaGreat
