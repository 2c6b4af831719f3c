/- Merged from templates. -/
import Derived.Test.YtoakmefajbbggaaGreatM3
import Derived.ArgAppend
namespace Go.Proofs.YtoakmefajbbggaaGreat
section
variable {P:Pr}{f i:Nat}
theorem Qi:gF P f i (zeros P.orders.length)=zeros P.orders.length:=by
 unfold gF;rw[uG];exact q8 _ _ _ _ _ (λj _ _=>jw _ _)
theorem Be (hP:Valid P) (b:i+(f+1)=P.orders.length) {x y:List Int}(hx:T P (i+1) x) (hy:T P (i+1) y):fE P (f+1) i x y=fE P f (i+1) x y:=by
 have e:=hP.gh i (by omega);have h:=qQ hP b (0,x) (0,y) ⟨by show 0<_;omega,hx⟩ ⟨by show 0<_;omega,hy⟩;have a:∀x,T P (i+1) x->iz i (0,x)=x:=λx hx=>rH hx;rw[a x hx,a y hy] at h;rw[h];unfold kG;simp only[Nat.add_zero,if_neg (by omega:¬(gt P.orders i).toNat<=0)];exact a _ (Dv hP f (i+1) x y (by omega) hx.1 hy.1)
theorem IE (hP:Valid P) (b:i+(f+1)=P.orders.length) (e:jq P f (i+1)) (k:Nat) (hk:k<(gt P.orders i).toNat) :
  iter k (λy=>fE P (f+1) i y (fQ P.orders.length i)) (zeros P.orders.length)=iz i (k,zeros P.orders.length):=by
 have a:T P (i+1) (zeros P.orders.length):=T.zeros hP _;induction k with
 | zero=>exact(rH a).symm
 | succ k j=>
  show fE P (f+1) i (iter k _ _) (fQ P.orders.length i)=_
  have u1:fQ P.orders.length i=iz i (1,zeros P.orders.length):=by unfold iz fQ zeros;rfl
  rw[j (by omega),u1,qQ hP b _ _ ⟨by show k<_;omega,a⟩ ⟨by show 1<_;omega,a⟩];unfold kG;simp only[if_neg (by omega:¬(gt P.orders i).toNat<=k+1)];show iz i (k+1,fE P f (i+1) (gF P f i (zeros P.orders.length)) (zeros P.orders.length))=_
  rw[Qi,e.fS.el _ a]
theorem Qj (hP:Valid P) (j:i+(f+1)=P.orders.length) (l:jq P f (i+1)) {x:List Int}(hx:T P i x) :
  fE P (f+1) i (iz i ((gt x i).toNat,zeros P.orders.length)) (x.set i 0)=x:=by
 have a:i<P.orders.length:=by omega
 have m:=hx.1.2 i a;have b:=hx.drop hP a;have p:T P (i+1) (zeros P.orders.length):=T.zeros hP _;have e:=qQ hP j ((gt x i).toNat,zeros P.orders.length) (0,x.set i 0) ⟨by show(gt x i).toNat<_;omega,p⟩ ⟨by show 0<_;omega,b⟩;have q:iz i (0,x.set i 0)=x.set i 0:=rH b;rw[q] at e;rw[e];unfold kG;simp only[Nat.add_zero,if_neg (by omega:¬(gt P.orders i).toNat<=(gt x i).toNat)];show iz i ((gt x i).toNat,fE P f (i+1) (zeros P.orders.length) (x.set i 0))=x
 rw[l.fS.el _ b];unfold iz;simp only[List.set_set];refine mg (by simp) (λk hk => ?_);rw[List.length_set] at hk;rw[y9 _ _ _ _ hk];split
 ·rename_i h;subst h;omega
 ·rfl
theorem Qk (G:ez P) (f:Nat):∀(i:Nat) (x:List Int),i+f=P.orders.length->T P i x->T P i (lB P f i x)/\fE P f i x (lB P f i x)=zeros P.orders.length:=by
 have hP:=G.v;induction f with
 | zero=>intro i x _ _;exact⟨T.zeros hP i,rfl⟩
 | succ f I=>
  intro i x m hx;have e:i<P.orders.length:=by omega
  have L:=G.tail m;have q:=G.tail (f:=f) (i:=i+1) (by omega);have ho:=hP.gh i e;have N:=hx.1.2 i e;have C:=hx.drop hP e;obtain⟨h1,D⟩:=I (i+1) _ (by omega) C;have k:T P i (lB P f (i+1) (x.set i 0)):=h1.down (by omega);simp only[lB];by_cases A:gt x i=0
  ·rw [if_pos A]
   have ex:x.set i 0=x:=rH (hx.up A);rw[ex] at k D ⊢;rw[ex] at h1;exact⟨k,by rw[Be hP m (hx.up A) h1];exact D⟩
  ·rw [if_neg A]
   have B:=l8 (i:=i) hP e;obtain⟨J,h4⟩:=I (i+1) _ (by omega) B;have E:T P i (iz i ((gt P.orders i-gt x i).toNat,zeros P.orders.length)):=Dx hP e ⟨by show(gt P.orders i-gt x i).toNat<_;omega,T.zeros hP _⟩;have r:T P i (iz i ((gt x i).toNat,zeros P.orders.length)):=Dx hP e ⟨by show(gt x i).toNat<_;omega,T.zeros hP _⟩
   have O:(zeros P.orders.length).set i (gt P.orders i-gt x i)=iz i ((gt P.orders i-gt x i).toNat,zeros P.orders.length):=by
    unfold iz;simp only;rw[show(((gt P.orders i-gt x i).toNat:Nat):Int)=gt P.orders i-gt x i by omega]
   rw[O];have M:=L.fS.toMonOn;have u:T P i (lB P f (i+1) (gt P.eH i)):=J.down (by omega);have F:T P i (x.set i 0):=C.down (by omega);have Q:T P i (gt P.eH i):=B.down (by omega);refine⟨M.cl _ _ (M.cl _ _ k E) u,?_⟩;have R:=T.unit hP (Nat.le_refl i) e;have S:fE P (f+1) i (x.set i 0) (lB P f (i+1) (x.set i 0))=zeros P.orders.length:=by rw[Be hP m C h1];exact D
   have U:fE P (f+1) i (gt P.eH i) (lB P f (i+1) (gt P.eH i))=zeros P.orders.length:=by rw[Be hP m B J];exact h4
   have V:fE P (f+1) i (iz i ((gt x i).toNat,zeros P.orders.length)) (iz i ((gt P.orders i-gt x i).toNat,zeros P.orders.length))=gt P.eH i:=by
    rw[<-IE hP m q _ (by omega),<-IE hP m q _ (by omega),<-M.pow_add R,show(gt x i).toNat+(gt P.orders i-gt x i).toNat=(gt P.orders i).toNat by omega,L.rel.pw i (Nat.le_refl _) e];rw[show P.orders.length-(i+1)=f by omega];have:=q.nf _ B
    have W:=(tr (λ(y z:List Int)=>T P (i+1) z/\y=z) (λy j=>fE P (f+1) i y (fQ P.orders.length j)) (λy j=>fE P f (i+1) y (fQ P.orders.length j)) (gt P.eH i) (i+1) (zeros P.orders.length) (zeros P.orders.length) f ⟨q.fS.one,rfl⟩ (by
     rintro y z l ⟨K,rfl⟩ a b _;have w:T P (i+1) (fQ P.orders.length l):=T.unit hP (by omega) (by omega);exact⟨q.fS.cl _ _ K w,Be hP m K w⟩)).2
    exact W.trans this
   have H:=Qj hP m q hx
   have p:fE P (f+1) i x (fE P (f+1) i (fE P (f+1) i (lB P f (i+1) (x.set i 0)) (iz i ((gt P.orders i-gt x i).toNat,zeros P.orders.length))) (lB P f (i+1) (gt P.eH i)))=zeros P.orders.length:=by
    have X:=M.cl _ _ k E;rw[<-M.ass _ _ _ hx X u,<-M.ass _ _ _ hx k E]
    have Y:fE P (f+1) i x (lB P f (i+1) (x.set i 0))=iz i ((gt x i).toNat,zeros P.orders.length):=by
     have Z:fE P (f+1) i x (lB P f (i+1) (x.set i 0))=fE P (f+1) i (fE P (f+1) i (iz i ((gt x i).toNat,zeros P.orders.length)) (x.set i 0)) (lB P f (i+1) (x.set i 0)):=by rw[H]
     rw[Z,M.ass _ _ _ r F k,S,M.er _ r]
    rw[Y,V,U]
   exact p
end
section
variable {P:Pr}(G:ez P)
include G
theorem ez.j7 {x:List Int}(hx:dL P.orders x):fC P x (gj P x)=zeros P.orders.length:=(Qk G P.orders.length 0 x (by omega) (pP.2 hx)).2
theorem ez.inv_mul {x:List Int}(hx:dL P.orders x):fC P (gj P x) x=zeros P.orders.length:=G.fS.Hy hx (A2 G.v x hx) (G.j7 hx)
theorem ez.gz {x y:List Int}(hx:dL P.orders x) (hy:dL P.orders y):dL P.orders (fC P x y):=G.fS.cl _ _ hx hy
theorem ez.invV {x:List Int}(hx:dL P.orders x):dL P.orders (gj P x):=A2 G.v x hx
theorem ez.ass {x y z:List Int}(hx:dL P.orders x) (hy:dL P.orders y) (a:dL P.orders z):fC P (fC P x y) z=fC P x (fC P y z):=G.fS.ass x y z hx hy a
theorem ez.jP:dL P.orders (zeros P.orders.length):=lV G.v
theorem ez.oA {x y:List Int}(hx:dL P.orders x) (hy:dL P.orders y):dL P.orders (fW P x y):=G.gz (G.invV hy) (G.gz hx hy)
theorem ez.zb {x:List Int}(hx:dL P.orders x):pL P x=gj P x:=
 G.fS.cancel hx (vX G.v x hx) (G.invV hx) (by rw[G.Qh hx,G.j7 hx])
theorem ez.Ar {x y:List Int}(hx:dL P.orders x) (hy:dL P.orders y):oM P x y=fW P x y:=by
 unfold oM fW;rw[G.zb hy,G.oI hx hy,G.oI (G.invV hy) (G.gz hx hy)]
theorem ez.uY {x:List Int}(hx:dL P.orders x):fW P x (zeros P.orders.length)=x:=by
 unfold fW
 have h1:gj P (zeros P.orders.length)=zeros P.orders.length:=by
  have:=G.j7 G.jP;rw[G.fS.el _ (G.invV G.jP)] at this;exact this
 rw[h1,G.fS.er _ hx,G.fS.el _ hx]
theorem ez.sk {x y:List Int}(hx:dL P.orders x) (hy:dL P.orders y) (h:fC P x y=zeros P.orders.length):y=gj P x:=
 G.fS.cancel hx hy (G.invV hx) (by rw[h,G.j7 hx])
theorem ez.tH {x y:List Int}(hx:dL P.orders x) (hy:dL P.orders y):gj P (fC P x y)=fC P (gj P y) (gj P x):=by
 symm
 refine G.sk (G.gz hx hy) (G.gz (G.invV hy) (G.invV hx)) ?_;rw[G.ass hx hy (G.gz (G.invV hy) (G.invV hx)),<-G.ass hy (G.invV hy) (G.invV hx),G.j7 hy,G.fS.el _ (G.invV hx),G.j7 hx]
theorem ez.inv_inv {x:List Int}(hx:dL P.orders x):gj P (gj P x)=x:=(G.sk (G.invV hx) hx (G.inv_mul hx)).symm
theorem ez.uZ {x y z:List Int}(hx:dL P.orders x) (hy:dL P.orders y) (a:dL P.orders z):fW P (fW P x y) z=fW P x (fC P y z):=by
 unfold fW;have c1:=G.gz hx hy;rw[G.tH hy a,G.ass (G.invV a) (G.invV hy) (G.gz hx (G.gz hy a)),G.ass (G.invV hy) c1 a,G.ass hx hy a]
theorem ez.FH {x y:List Int}(hx:dL P.orders x) (hy:dL P.orders y):fW P (fW P x y) (gj P y)=x:=by
 rw[G.uZ hx hy (G.invV hy),G.j7 hy,G.uY hx]
end
theorem Ql {P:Pr}(hP:Valid P) (f:Nat):∀(i e:Nat) (x z:List Int),i+f=P.orders.length->i<=e->e<=P.orders.length->dL P.orders x->T P e z ->
  (∀k,i<=k->k<e->gt (fE P f i x z) k=gt x k)/\(e<P.orders.length->gt (fE P f i x z) e=(gt x e+gt z e)%gt P.orders e):=by
 induction f with
 | zero=>intro i e x z A G q _ _;exact⟨λk a b=>by omega,λh=>by omega⟩
 | succ f H=>
  intro i e x z A G q hx p;have j:i<P.orders.length:=by omega
  have N:=hP.gh i j;have I:=hx.2 i j;have J:=p.1.2 i j;have O:=Dv hP (f+1) i x z A hx p.1;by_cases B:i=e
  ·subst B
   refine⟨λk a b=>by omega,λ_ => ?_⟩;simp only[fE]
   have C:∀l:List Int,dL P.orders l->dL P.orders (iter (gt z i).toNat (λl=>jR (fE P f (i+1)) (gt P.conj i) i l (zeros P.orders.length) f) l):=λl C=>
    jN (dL P.orders) _ (λy hy=>tq hP f i A (jy hP f) _ _ (lV hP) f (Nat.le_refl _)) _ _ C
   have v1:=C _ (hx.set i 0 ⟨by omega,λ_=>by omega⟩);have K:dL P.orders (z.set i 0):=p.1.set i 0 ⟨by omega,λ_=>by omega⟩;have w:=jy hP f (i+1) _ _ (by omega) v1 K;split
   ·rename_i L
    have v4:=jy hP f (i+1) _ _ (by omega) (hP.pv i j).1 w;rw[iN _ _ _ (by rw[v4.1];exact j)];have M:gt x i+gt z i=(gt x i+gt z i-gt P.orders i)+gt P.orders i:=by omega
    rw[M,Int.add_emod_right,Int.emod_eq_of_lt (by omega) (by omega)];omega
   ·rename_i L
    rw[iN _ _ _ (by rw[w.1];exact j),Int.emod_eq_of_lt (by omega) (by omega)]
  ·have D:gt z i=0:=p.2 i (by omega)
   have E:z.set i 0=z:=rH (P:=P) (p.down (by omega));have r:dL P.orders (x.set i 0):=hx.set i 0 ⟨by omega,λ_=>by omega⟩;have m:=H (i+1) e (x.set i 0) z (by omega) (by omega) q r p;have w:=jy hP f (i+1) (x.set i 0) z (by omega) r p.1
   have u:fE P (f+1) i x z=(fE P f (i+1) (x.set i 0) z).set i (gt x i):=by
    simp only[fE,D,E];rw[if_neg (by omega),Int.add_zero];rfl
   rw[u];refine⟨λk a b => ?_,λh => ?_⟩
   ·by_cases F:i=k
    ·subst F;rw[iN _ _ _ (by rw[w.1];exact j)]
    ·rw[iy _ _ _ _ F,m.1 k (by omega) b,iy _ _ _ _ F]
   ·rw[iy _ _ _ _ (by omega),m.2 h,iy _ _ _ _ (by omega)]
def pw (P:Pr) (x:List Int) (k:Nat):List Int:=iter k (λy=>fC P y x) (zeros P.orders.length)
section
variable {P:Pr}(G:ez P)
include G
theorem ez.right {x z:List Int}{e:Nat}(a:e<=P.orders.length) (hx:dL P.orders x) (b:T P e z) :
  (∀k,k<e->gt (fC P x z) k=gt x k)/\(e<P.orders.length->gt (fC P x z) e=(gt x e+gt z e)%gt P.orders e):=by
 have h:=Ql G.v P.orders.length 0 e x z (by omega) (by omega) a hx b;exact⟨λk hk=>h.1 k (by omega) hk,h.2⟩
theorem ez.qE {x y:List Int}{d:Nat}(a:d<=P.orders.length) (hx:T P d x) (hy:T P d y):T P d (fC P x y):=
 ⟨G.gz hx.1 hy.1,λk hk=>by rw[(G.right a hx.1 hy).1 k hk];exact hx.2 k hk⟩
theorem ez.kf {x:List Int}(hx:dL P.orders x) (k:Nat):dL P.orders (pw P x k):=G.fS.toMonOn.pW hx G.jP k
theorem ez.Dy {x:List Int}(hx:dL P.orders x) (a b:Nat):pw P x (a+b)=fC P (pw P x a) (pw P x b):=G.fS.toMonOn.pow_add hx a b
omit G in
theorem FN (P:Pr) (x:List Int):pw P x 0=zeros P.orders.length:=rfl
omit G in
theorem FO (P:Pr) (x:List Int) (k:Nat):pw P x (k+1)=fC P (pw P x k) x:=rfl
theorem ez.Dz {x:List Int}(hx:dL P.orders x):pw P x 1=x:=G.fS.el x hx
theorem ez.IG {x:List Int}(hx:dL P.orders x) (k:Nat):pw P x (k+1)=fC P x (pw P x k):=by
 rw[Nat.add_comm,G.Dy hx,G.Dz hx]
theorem ez.II {x:List Int}(hx:dL P.orders x) (a b:Nat):pw P x (a*b)=pw P (pw P x a) b:=by
 induction b with
 | zero=>rfl
 | succ b e=>rw[Nat.mul_succ,G.Dy hx,e];rfl
theorem ez.l8 {x:List Int}{d:Nat}(a:d<=P.orders.length) (hx:T P d x) (k:Nat):T P d (pw P x k):=by
 induction k with
 | zero=>exact T.zeros G.v d
 | succ k b=>exact G.qE a b hx
theorem ez.p7 {x:List Int}{d:Nat}(a:d<P.orders.length) (hx:T P d x) (k:Nat):gt (pw P x k) d=((k:Int)*gt x d)%gt P.orders d:=by
 induction k with
 | zero=>rw[FN];show gt (List.replicate _ (0:Int)) d=_;rw[jw];simp
 | succ k b=>
  rw[FO,(G.right (Nat.le_of_lt a) (G.kf hx.1 k) hx).2 a,b,Int.emod_add_emod];congr 1
  rw[Int.natCast_add,Int.add_mul];simp
theorem ez.DA {x:List Int}{d:Nat}(a:d<P.orders.length) (hx:T P d x):T P (d+1) (pw P x (gt P.orders d).toNat):=by
 have b:=G.v.gh d a;refine(G.l8 (Nat.le_of_lt a) hx _).up ?_;rw[G.p7 a hx,show(((gt P.orders d).toNat:Nat):Int)=gt P.orders d by omega,Int.mul_emod_right]
theorem ez.fin (f:Nat):∀(d:Nat) (x:List Int),d+f=P.orders.length->T P d x->∃M,1<=M/\pw P x M=zeros P.orders.length:=by
 induction f with
 | zero=>
  intro d x a hx;have:d=P.orders.length:=by omega
  subst this;refine⟨1,Nat.le_refl _,?_⟩;rw[G.Dz hx.1];exact hx.top G.v
 | succ f b=>
  intro d x a hx;have e:=G.v.gh d (by omega);obtain⟨M,h1,h2⟩:=b (d+1) _ (by omega) (G.DA (by omega) hx);refine⟨(gt P.orders d).toNat*M,Nat.mul_pos (by omega) h1,?_⟩;rw[G.II hx.1,h2]
theorem ez.Cs {x:List Int}(hx:dL P.orders x):∃k,gj P x=pw P x k:=by
 obtain⟨M,h1,h2⟩:=G.fin P.orders.length 0 x (by omega) (pP.2 hx);refine⟨M-1,?_⟩;refine(G.sk hx (G.kf hx _) ?_).symm;rw[<-G.IG hx,show M-1+1=M by omega,h2]
theorem ez.xS {x:List Int}{d:Nat}(a:d<=P.orders.length) (hx:T P d x):T P d (gj P x):=by
 obtain⟨k,hk⟩:=G.Cs hx.1;rw[hk];exact G.l8 a hx k
theorem ez.diff {u v:List Int}{d:Nat}(a:d<P.orders.length) (b:T P d u) (e:T P d v) (h:gt u d=gt v d):T P (d+1) (fC P (gj P u) v):=by
 have l:=G.xS (Nat.le_of_lt a) b;have i:=G.qE (Nat.le_of_lt a) l e;refine i.up ?_;have m:fC P u (fC P (gj P u) v)=v:=by rw[<-G.ass b.1 l.1 e.1,G.j7 b.1,G.fS.el _ e.1]
 have j:=(G.right (Nat.le_of_lt a) b.1 i).2 a;rw[m] at j;have b1:=b.1.2 d a;have b2:=i.1.2 d a;by_cases k:gt u d+gt (fC P (gj P u) v) d<gt P.orders d
 ·rw[Int.emod_eq_of_lt (by omega) k] at j;omega
 ·have p:gt u d+gt (fC P (gj P u) v) d=(gt u d+gt (fC P (gj P u) v) d-gt P.orders d)+gt P.orders d:=by omega
  rw[p,Int.add_emod_right,Int.emod_eq_of_lt (by omega) (by omega)] at j;omega
end
structure Sub (P:Pr) (H:List Int->Prop):Prop where
 vec:∀x,H x->dL P.orders x
 one:H (zeros P.orders.length)
 mul:∀x y,H x->H y->H (fC P x y)
 inv:∀x,H x->H (gj P x)
section
variable {P:Pr}(G:ez P)
include G
theorem ez.ze:Sub P (dL P.orders):=⟨λ_ h=>h,G.jP,λ_ _ h k=>G.gz h k,λ_ h=>G.invV h⟩
theorem ez.DB {H:List Int->Prop}(b:∀x,H x->dL P.orders x) (h1:H (zeros P.orders.length)) (e:∀x y,H x->H y->H (fC P x y)):Sub P H:=by
 refine⟨b,h1,e,λx hx => ?_⟩;obtain⟨k,hk⟩:=G.Cs (b x hx);rw[hk];induction k generalizing x with
 | zero=>exact h1
 | succ k _=>
  have:∀j,H (pw P x j):=by
   intro j;induction j with
   | zero=>exact h1
   | succ j a=>exact e _ _ a hx
  exact this _
omit G in
theorem Sub.pw {H:List Int->Prop}(S:Sub P H) {x:List Int}(hx:H x) (k:Nat):H (Go.Proofs.YtoakmefajbbggaaGreat.pw P x k):=by
 induction k with
 | zero=>exact S.one
 | succ k a=>exact S.mul _ _ a hx
theorem ez.DC {x y:List Int}{d:Nat}(e:d<P.orders.length) (hx:T P d x) (hy:T P (d+1) y) :
  T P (d+1) (fC P (gj P (fC P y x)) (fC P x y))/\T P (d+1) (fC P (gj P (fC P x y)) (fC P y x)):=by
 have a:=Nat.le_of_lt e;have b:=hy.down (Nat.le_succ d);have h1:=G.qE a hx b;have i:=G.qE a b hx;have j:gt (fC P x y) d=gt x d:=(G.right (Nat.succ_le_of_lt e) hx.1 hy).1 d (by omega)
 have k:gt (fC P y x) d=gt x d:=by
  rw[(G.right a b.1 hx).2 e,hy.2 d (by omega),Int.zero_add];have:=hx.1.2 d e;exact Int.emod_eq_of_lt this.1 this.2
 exact⟨G.diff e i h1 (by rw[j,k]),G.diff e h1 i (by rw[j,k])⟩
theorem ez.zf {x y:List Int}(hx:dL P.orders x) (hy:dL P.orders y):fW P x y=fC P x (fC P (gj P (fC P y x)) (fC P x y)):=by
 unfold fW;have c1:=G.gz hx hy;rw[G.tH hy hx,G.ass (G.invV hx) (G.invV hy) c1,<-G.ass hx (G.invV hx) (G.gz (G.invV hy) c1),G.j7 hx,G.fS.el _ (G.gz (G.invV hy) c1)]
theorem ez.IJ {x y:List Int}(hx:dL P.orders x) (hy:dL P.orders y):gj P (fC P (gj P (fC P x y)) (fC P y x))=fC P (gj P (fC P y x)) (fC P x y):=by
 have c1:=G.gz hx hy;have c2:=G.gz hy hx;rw[G.tH (G.invV c1) c2,G.inv_inv c1]
structure IK (P:Pr) (b:Nat->List Int) (R:List Int->Prop):Prop where
 tab:∀d,d<P.orders.length->b d≠[]->T P d (b d)/\gt (b d) d=1
 vec:∀q,R q->dL P.orders q
 step:∀q,R q->q=zeros P.orders.length\/∃d,d<P.orders.length/\T P d q/\gt q d≠0/\b d≠[]/\∃q',R q'/\T P (d+1) q'/\∀K,Sub P K->K (b d)->K q'->K q
 pow:∀d,d<P.orders.length->b d≠[]->R (pw P (b d) (gt P.orders d).toNat)
 xe:∀d e,d<e->e<P.orders.length->b d≠[]->b e≠[]->∃c,R c/\T P (d+1) c/\∀K,Sub P K->K (b e)->K c->K (fW P (b e) (b d))
structure Qm (P:Pr) (b:Nat->List Int) (R:List Int->Prop) (d:Nat) (K:List Int->Prop):Prop where
 sub:Sub P K
 deep:∀x,K x->T P d x
 mem:∀e,d<=e->e<P.orders.length->b e≠[]->K (b e)
 res:∀q,R q->T P d q->K q
 piv:∀x,K x->∀e,d<=e->e<P.orders.length->T P e x->gt x e≠0->b e≠[]
 min:∀K',Sub P K'->(∀e,d<=e->e<P.orders.length->b e≠[]->K' (b e))->∀x,K x->K' x
theorem ez.Bf {x y z:List Int}(hx:dL P.orders x) (hy:dL P.orders y) (a:dL P.orders z):fW P (fC P x y) z=fC P (fW P x z) (fW P y z):=by
 unfold fW;have b:=G.invV a;have c1:=G.gz hx a;have c2:=G.gz hy a;rw[G.ass b c1 (G.gz b c2),G.ass hx a (G.gz b c2),<-G.ass a b c2,G.j7 a,G.fS.el _ c2,G.ass hx hy a]
theorem ez.Qn {b:Nat->List Int}{R:List Int->Prop}(C:IK P b R) (f:Nat):∀d,d+f=P.orders.length->∃K,Qm P b R d K:=by
 induction f with
 | zero=>
  intro d hd;have:d=P.orders.length:=by omega
  subst this
  have M:Sub P (λx=>x=zeros P.orders.length):=by
   refine G.DB (λx h=>by rw[h];exact G.jP) rfl (λx y hx hy => ?_);rw[hx,hy];exact G.fS.el _ G.jP
  exact⟨_,M,λx h=>by rw[h];exact T.zeros G.v _,λe a r=>by omega,λq _ E=>E.top G.v,λx _ e a r=>by omega,λK' S _ x hx=>by rw[hx];exact S.one⟩
 | succ f ih=>
  intro d hd;obtain⟨K',t⟩:=ih (d+1) (by omega);have p:d<P.orders.length:=by omega
  have N:=Nat.le_of_lt p;by_cases F:b d=[]
  ·refine ⟨K',t.sub,λx hx=>(t.deep x hx).down (Nat.le_succ d),λe a r m => ?_,λq E D => ?_,λx hx e a r D H => ?_,λV S h x hx=>t.min V S (λe a r m=>h e (by omega) r m) x hx⟩
   ·by_cases w:e=d
    ·subst w;exact absurd F m
    ·exact t.mem e (by omega) r m
   ·rcases C.step q E with h|⟨A,h1,I,h3,h4,_⟩
    ·rw[h];exact t.sub.one
    ·have W:d<=A:=by
      have:¬A<d:=λh=>h3 (D.2 A h);omega
     have aj:A≠d:=λe=>h4 (by rw[e];exact F);exact t.res q E (I.down (by omega))
   ·by_cases w:e=d
    ·subst w
     exact absurd ((t.deep x hx).2 e (by omega)) H
    ·exact t.piv x hx e (by omega) r D H
  ·obtain ⟨B,hb1⟩:=C.tab d p F
   have ho:=G.v.gh d p;have i:=B.1;-- conjugation by the new entry keeps K'
   have hN:Sub P (λy=>K' y/\K' (fW P y (b d))):=by
    refine G.DB (λx h=>t.sub.vec x h.1) ⟨t.sub.one,?_⟩ (λx y hx hy=>⟨t.sub.mul _ _ hx.1 hy.1,?_⟩)
    ·have:fW P (zeros P.orders.length) (b d)=zeros P.orders.length:=by
      unfold fW;rw[G.fS.el _ i,G.inv_mul i]
     rw[this];exact t.sub.one
    ·rw[G.Bf (t.sub.vec x hx.1) (t.sub.vec y hy.1) i];exact t.sub.mul _ _ hx.2 hy.2
   have X:∀y,K' y->K' (fW P y (b d)):=λy hy=>(t.min _ hN (λe a r m=>by
    have hm:=t.mem e a r m;obtain⟨c,Y,Z,hc3⟩:=C.xe d e (by omega) r F m;exact⟨hm,hc3 K' t.sub hm (t.res c Y Z)⟩) y hy).2
   have O:∀(k:Nat) y,K' y->K' (fC P (gj P (pw P (b d) k)) (fC P y (pw P (b d) k))):=by
    intro k;induction k with
    | zero=>
     intro y hy;have H:fW P y (zeros P.orders.length)=y:=G.uY (t.sub.vec y hy);show K' (fW P y (zeros P.orders.length))
     rw[H];exact hy
    | succ k aa=>
     intro y hy;have h1:=X _ (aa y hy);have I:fW P (fW P y (pw P (b d) k)) (b d)=fW P y (pw P (b d) (k+1)):=G.uZ (t.sub.vec y hy) (G.kf i k) i;show K' (fW P y (pw P (b d) (k+1)))
     rw[<-I];exact h1
   have hw:K' (pw P (b d) (gt P.orders d).toNat):=t.res _ (C.pow d p F) (G.DA p B)
   have hK:Sub P (λx=>∃k y,K' y/\x=fC P (pw P (b d) k) y):=by
    refine G.DB ?_ ⟨0,_,t.sub.one,(G.fS.el _ G.jP).symm⟩ ?_
    ·rintro x ⟨k,y,hy,rfl⟩;exact G.gz (G.kf i k) (t.sub.vec y hy)
    ·rintro x x' ⟨k,y,hy,rfl⟩ ⟨l,z,hz,rfl⟩
     have J:=t.sub.vec y hy;have L:=t.sub.vec z hz;have pk:=G.kf i k;have pl:=G.kf i l;refine⟨k+l,_,t.sub.mul _ _ (O l y hy) hz,?_⟩;rw[G.Dy i,G.ass pk J (G.gz pl L),<-G.ass J pl L,G.ass (G.invV pl) (G.gz J pl) L,G.ass pk pl (G.gz (G.invV pl) (G.gz (G.gz J pl) L)),<-G.ass pl (G.invV pl) (G.gz (G.gz J pl) L),G.j7 pl,G.fS.el _ (G.gz (G.gz J pl) L)]
   have u:∀y,K' y->∃k z,K' z/\y=fC P (pw P (b d) k) z:=λy hy=>⟨0,y,hy,(G.fS.el y (t.sub.vec y hy)).symm⟩;have Q:∃k z,K' z/\b d=fC P (pw P (b d) k) z:=⟨1,_,t.sub.one,by rw[G.Dz i,G.fS.er _ i]⟩;refine⟨_,hK,?_,λe a r m => ?_,λq E D => ?_,?_,?_⟩
   ·rintro x ⟨k,y,hy,rfl⟩
    exact G.qE N (G.l8 N B k) ((t.deep y hy).down (Nat.le_succ d))
   ·by_cases w:e=d
    ·subst w;exact Q
    ·exact u _ (t.mem e (by omega) r m)
   ·rcases C.step q E with h|⟨A,h1,I,h3,h4,q',h5,h6,h7⟩
    ·rw[h];exact hK.one
    ·have W:d<=A:=by
      have:¬A<d:=λh=>h3 (D.2 A h);omega
     by_cases w:A=d
     ·subst w
      exact h7 _ hK Q (u q' (t.res q' h5 h6))
     ·exact u q (t.res q E (I.down (by omega)))
   ·rintro x ⟨k,y,hy,rfl⟩ e a r D H
    by_cases w:e=d
    ·rw[w];exact F
    ·have ac:=t.deep y hy
     have U:gt (fC P (pw P (b d) k) y) d=0:=D.2 d (by omega);rw[(G.right (Nat.succ_le_of_lt p) (G.kf i k) ac).1 d (by omega),G.p7 p B,hb1,Int.mul_one] at U;-- the order divides k
     obtain ⟨j,hj⟩:∃j:Nat,k=(gt P.orders d).toNat*j:=by
      refine⟨k/(gt P.orders d).toNat,?_⟩
      have h1:((k%(gt P.orders d).toNat:Nat):Int)=0:=by
       rw[Int.natCast_emod,show(((gt P.orders d).toNat:Nat):Int)=gt P.orders d by omega];exact U
      have I:=Nat.div_add_mod k (gt P.orders d).toNat;omega
     have ad:K' (pw P (b d) k):=by rw[hj,G.II i];exact t.sub.pw hw j
     exact t.piv _ (t.sub.mul _ _ ad hy) e (by omega) r D H
   ·rintro V S h x ⟨k,y,hy,rfl⟩
    exact S.mul _ _ (S.pw (h d (Nat.le_refl d) p F) k) (t.min V S (λe a r m=>h e (by omega) r m) y hy)
structure Ind (P:Pr) (H:List Int->Prop) (b:Nat->List Int):Prop where
 sub:Sub P H
 mem:∀d,d<P.orders.length->b d≠[]->H (b d)/\T P d (b d)/\gt (b d) d=1
 piv:∀x,H x->∀d,d<P.orders.length->T P d x->gt x d≠0->b d≠[]
end
theorem uP {P:Pr}{x:List Int}(hx:dL P.orders x) (h:x≠zeros P.orders.length):∃d,d<P.orders.length/\T P d x/\gt x d≠0:=by
 have key:∀f d,d+f=P.orders.length->T P d x->∃d,d<P.orders.length/\T P d x/\gt x d≠0:=by
  intro f;induction f with
  | zero=>
   intro d e a;exfalso;apply h
   have:d=P.orders.length:=by omega
   subst this
   exact mg (by rw[hx.1];simp[zeros]) (λk hk=>by
    rw[hx.1] at hk;rw[a.2 k hk];exact(jw _ _).symm)
  | succ f i=>
   intro d e a;by_cases b:gt x d=0
   ·exact i (d+1) (by omega) (a.up b)
   ·exact⟨d,by omega,a,b⟩
 exact key P.orders.length 0 (by omega) (pP.2 hx)
structure Red (P:Pr) (H:List Int->Prop) (r:Nat->List Int):Prop extends Ind P H r where
 red:∀d e,d<e->e<P.orders.length->r d≠[]->r e≠[]->gt (r d) e=0
def lD (n:Nat) (r:Nat->List Int):List (List Int):=(List.range n).filterMap (λd=>if r d=[] then none else some (r d))
section
variable {P:Pr}(G:ez P)
include G
def zg (P:Pr) (H:List Int->Prop) (r:Nat->List Int) (x y:List Int):Prop:=dL P.orders y/\H (fC P (gj P x) y)/\∀e,e<P.orders.length->r e≠[]->gt y e=0
theorem ez.Qo {H:List Int->Prop}{b:Nat->List Int}(I:Ind P H b) {x y:List Int}(hx:dL P.orders x) (hy:dL P.orders y) (h:H (fC P (gj P x) y))
  (j:∀e,e<P.orders.length->b e≠[]->gt x e=0) (k:∀e,e<P.orders.length->b e≠[]->gt y e=0):x=y:=by
 have l:=G.invV hx;have m:fC P x (fC P (gj P x) y)=y:=by rw[<-G.ass hx l hy,G.j7 hx,G.fS.el _ hy]
 by_cases q:fC P (gj P x) y=zeros P.orders.length
 ·rw[q,G.fS.er _ hx] at m;exact m
 ·exfalso
  have i:=I.sub.vec _ h;obtain⟨e,a,r,h0⟩:=uP i q;have u:=I.piv _ h e a r h0;have p:=(G.right (Nat.le_of_lt a) hx r).2 a;rw[m,j e a u,k e a u,Int.zero_add] at p;have w:=i.2 e a;rw[Int.emod_eq_of_lt w.1 w.2] at p;exact h0 p.symm
theorem ez.Qp {H:List Int->Prop}{b:Nat->List Int}(I:Ind P H b) {x y i:List Int}(hx:dL P.orders x) (h:zg P H b x y) (a:zg P H b x i):y=i:=by
 refine G.Qo I h.1 a.1 ?_ h.2.2 a.2.2;have j:=G.invV hx;have k:=G.invV h.1
 have e:fC P (gj P y) i=fC P (gj P (fC P (gj P x) y)) (fC P (gj P x) i):=by
  rw[G.tH j h.1,G.inv_inv hx,G.ass k hx (G.gz j a.1),<-G.ass hx j a.1,G.j7 hx,G.fS.el _ a.1]
 rw[e];exact I.sub.mul _ _ (I.sub.inv _ h.2.1) a.2.1
theorem ez.IL {H:List Int->Prop}{r i:Nat->List Int}(A:Red P H r) (B:Red P H i):∀d,d<P.orders.length->r d=i d:=by
 intro d j
 have a:∀ {s C:Nat->List Int},Ind P H s->Ind P H C->∀e,e<P.orders.length->s e≠[]->C e≠[]:=λI J e b h=>by
  obtain⟨h1,k,K⟩:=I.mem e b h;exact J.piv _ h1 e b k (by rw[K];decide)
 by_cases h:r d=[]
 ·by_cases l:i d=[]
  ·rw[h,l]
  ·exact absurd h (a B.toInd A.toInd d j l)
 ·have l:=a A.toInd B.toInd d j h
  obtain⟨a1,a2,L⟩:=A.mem d j h;obtain⟨b1,b2,b3⟩:=B.mem d j l;-- the quotient lies deeper; compare by representatives
  have q:=G.diff j a2 b2 (by rw[L,b3]);have u:=A.sub.mul _ _ (A.sub.inv _ a1) b1;have w:=G.invV a2.1;have y:fC P (r d) (fC P (gj P (r d)) (i d))=i d:=by rw[<-G.ass a2.1 w b2.1,G.j7 a2.1,G.fS.el _ b2.1]
  by_cases m:fC P (gj P (r d)) (i d)=zeros P.orders.length
  ·rw[m,G.fS.er _ a2.1] at y;exact y
  ·exfalso
   obtain⟨e,b,D,h0⟩:=uP q.1 m
   have p:d<e:=by
    have:¬e<d+1:=λh=>h0 (q.2 e h);omega
   have E:=A.piv _ u e b D h0;have z:=a A.toInd B.toInd e b E;have k:=(G.right (Nat.le_of_lt b) a2.1 D).2 b;rw[y,A.red d e p b h E,B.red d e p b l z,Int.zero_add] at k;have F:=q.1.2 e b;rw[Int.emod_eq_of_lt F.1 F.2] at k;exact h0 k.symm
omit G in
theorem Qq {n:Nat}{r a:Nat->List Int}(h:∀d,d<n->r d=a d):lD n r=lD n a:=by
 unfold lD;induction n with
 | zero=>rfl
 | succ n b=>
  have e:=h n (by omega);rw[List.range_succ,List.filterMap_append,List.filterMap_append,b (λd i=>h d (by omega))];simp only[List.filterMap_cons,List.filterMap_nil,e]
theorem ez.Qr {H:List Int->Prop}{r a:Nat->List Int}(A:Red P H r) (B:Red P H a):lD P.orders.length r=lD P.orders.length a:=
 Qq (G.IL A B)
end
def gi (P:Pr) (Q:List Int->Prop) (x:List Int):Prop:=∀H,Sub P H->(∀y,Q y->H y)->H x
structure kg (P:Pr) (Q:List Int->Prop) (b:Nat->List Int) (q:List (List Int)) (R:List Int->Prop):Prop where
 tab:∀d,d<P.orders.length->b d≠[]->R (b d)/\T P d (b d)/\gt (b d) d=1
 vec:∀x,R x->dL P.orders x
 sS:∀x∈q,R x
 src:∀x,Q x->R x
 step:∀x,R x->x=zeros P.orders.length\/x∈q\/∃d,d<P.orders.length/\T P d x/\gt x d≠0/\b d≠[]/\∃x',R x'/\T P (d+1) x'/\∀K,Sub P K->K (b d)->K x'->K x
 pow:∀d,d<P.orders.length->b d≠[]->R (pw P (b d) (gt P.orders d).toNat)
 xe:∀d e,d<e->e<P.orders.length->b d≠[]->b e≠[]->∃c,R c/\T P (d+1) c/\∀K,Sub P K->K (b e)->K c->K (fW P (b e) (b d))
 gen:∀x,R x->gi P Q x
section
variable {P:Pr}(G:ez P)
include G
theorem ez.qu {Q:List Int->Prop}(a:∀y,Q y->dL P.orders y):Sub P (gi P Q):=
 ⟨λ_ h=>h _ G.ze a,λ_ S _=>S.one,λ_ _ h k _ S hH=>S.mul _ _ (h _ S hH) (k _ S hH),λ_ h _ S hH=>S.inv _ (h _ S hH)⟩
omit G in
theorem qa {Q:List Int->Prop}{y:List Int}(hy:Q y):gi P Q y:=λ_ _ hH=>hH y hy
omit G in
theorem Au {Q:List Int->Prop}{H:List Int->Prop}(S:Sub P H) (h:∀y,Q y->H y) {x:List Int}(hx:gi P Q x):H x:=hx _ S h
theorem ez.IM {H:List Int->Prop}{b:Nat->List Int}(I:Ind P H b) {list:List (List Int)}(B:∀x∈list,dL P.orders x) :
  kg P (λx=>H x\/x∈list) b list (λx=>H x\/x∈list):=by
 have S:=I.sub;refine⟨λd a k => ?_,?_,λx hx => .inr hx,λx hx=>hx,?_,λd a k => .inl (S.pw (I.mem d a k).1 _),λd e C D q r => ?_,λx hx=>qa hx⟩
 ·obtain ⟨h1,l,u⟩:=I.mem d a k
  exact⟨.inl h1,l,u⟩
 ·rintro x (h|h)
  ·exact S.vec x h
  ·exact B x h
 ·rintro x (h|h)
  ·by_cases y:x=zeros P.orders.length
   ·exact .inl y
   ·obtain ⟨d,a,j,hx0⟩:=uP (S.vec x h) y
    have k:=I.piv x h d a j hx0;obtain⟨p,i,m3⟩:=I.mem d a k;have F:=G.v.gh d a;have E:=j.1.2 d a;refine .inr (.inr ⟨d,a,j,hx0,k,fC P (pw P (b d) (gt P.orders d-gt x d).toNat) x,.inl (S.mul _ _ (S.pw p _) h),?_,λK m h1 l => ?_⟩)
    ·refine (G.qE (Nat.le_of_lt a) (G.l8 (Nat.le_of_lt a) i _) j).up ?_
     rw[(G.right (Nat.le_of_lt a) (G.kf i.1 _) j).2 a,G.p7 a i,m3,Int.mul_one,Int.emod_add_emod,show(((gt P.orders d-gt x d).toNat:Nat):Int)+gt x d=gt P.orders d by omega,Int.emod_self]
    ·have u:=m.mul _ _ (m.inv _ (m.pw h1 (gt P.orders d-gt x d).toNat)) l
     rwa [<-G.ass (G.invV (G.kf i.1 _)) (G.kf i.1 _) j.1,G.inv_mul (G.kf i.1 _),G.fS.el _ j.1] at u
  ·exact .inr (.inl h)
 ·obtain ⟨p,i,m3⟩:=I.mem d (by omega) q
  obtain⟨z,A,k3⟩:=I.mem e D r;have w:=A.down (show d+1<=e by omega);refine⟨_,.inl (S.mul _ _ (S.inv _ (S.mul _ _ p z)) (S.mul _ _ z p)),(G.DC (by omega) i w).2,λK m h1 l => ?_⟩;rw[G.zf A.1 i.1];exact m.mul _ _ h1 l
omit G in
theorem IP {Q:List Int->Prop}{b:Nat->List Int}{q:List (List Int)}{R:List Int->Prop}{y j:List Int}(A:kg P Q b (y :: q) R) {d:Nat}(r:d<P.orders.length) (z:T P d y) (B:gt y d≠0) (u:b d≠[])
  (l:T P (d+1) j) (C:∀K,Sub P K->K (b d)->K j->K y) (m:∀K,Sub P K->K (b d)->K y->K j):kg P Q b (j :: q) (λx=>R x\/x=j):=by
 refine⟨λe k a=>⟨.inl (A.tab e k a).1,(A.tab e k a).2⟩,?_,?_,λx hx => .inl (A.src x hx),?_,λe k a => .inl (A.pow e k a),λd e p k h1 i => ?_,?_⟩
 ·rintro x (h|h)
  ·exact A.vec x h
  ·rw[h];exact l.1
 ·intro x hx
  rcases List.mem_cons.1 hx with h|h
  ·exact .inr h
  ·exact .inl (A.sS x (List.mem_cons_of_mem _ h))
 ·rintro x (h|h)
  ·rcases A.step x h with h1|h1|⟨e,i,h3,h4,h5,x',h6,h7,h8⟩
   ·exact .inl h1
   ·rcases List.mem_cons.1 h1 with i|i
    ·rw[i];exact .inr (.inr ⟨d,r,z,B,u,j,.inr rfl,l,C⟩)
    ·exact .inr (.inl (List.mem_cons_of_mem _ i))
   ·exact .inr (.inr ⟨e,i,h3,h4,h5,x',.inl h6,h7,h8⟩)
  ·exact .inr (.inl (by rw[h];exact List.mem_cons_self))
 ·obtain ⟨c,c1,c2⟩:=A.xe d e p k h1 i
  exact⟨c,.inl c1,c2⟩
 ·rintro x (h|h)
  ·exact A.gen x h
  ·rw [h]
   intro K S w;exact m K S (A.gen _ (A.tab d r u).1 K S w) (A.gen _ (A.sS y List.mem_cons_self) K S w)
omit G in
theorem IQ {Q:List Int->Prop}{b:Nat->List Int}{q:List (List Int)}{R:List Int->Prop}{y:List Int}(A:kg P Q b (y :: q) R) (hy:y=zeros P.orders.length):kg P Q b q R:=by
 refine⟨A.tab,A.vec,λx hx=>A.sS x (List.mem_cons_of_mem _ hx),A.src,λx hx => ?_,A.pow,A.xe,A.gen⟩;rcases A.step x hx with h1|h1|h1
 ·exact .inl h1
 ·rcases List.mem_cons.1 h1 with a|a
  ·exact .inl (a.trans hy)
  ·exact .inr (.inl a)
 ·exact .inr (.inr h1)
theorem ez.IU {Q:List Int->Prop}{b H:Nat->List Int}{q q':List (List Int)}{R:List Int->Prop}{y z:List Int}(A:kg P Q b (y :: q) R) {d:Nat}(W:d<P.orders.length) (hT:T P d y) (hb:b d=[])
  (U:T P d z) (X:gt z d=1) (Y:∀K,Sub P K->K y->K z) (C:∀e,e<P.orders.length->H e=if e=d then z else b e)
  (ae:∀x∈q',x∈q\/x=y\/x=z\/x=pw P z (gt P.orders d).toNat\/∃e,e<P.orders.length/\b e≠[]/\(x=fC P (gj P (fC P z (b e))) (fC P (b e) z)\/x=fC P (gj P (fC P (b e) z)) (fC P z (b e))))
  (D:∀x,x∈q\/x=y\/x=pw P z (gt P.orders d).toNat->x∈q')
  (Z:∀e,e<P.orders.length->b e≠[]->fC P (gj P (fC P z (b e))) (fC P (b e) z)∈q'\/fC P (gj P (fC P (b e) z)) (fC P z (b e))∈q') :
  kg P Q H q' (λx=>R x\/x=z\/x∈q'):=by
 have ho:=G.v.gh d W;have a:=U.1
 have I:∀e,e<P.orders.length->b e≠[]->H e=b e:=λe m i=>by
  rw[C e m,if_neg (λh=>i (by rw[h];exact hb))]
 have j:∀e,e<P.orders.length->H e≠[]->(e=d/\H e=z)\/(e≠d/\b e≠[]/\H e=b e):=λe m i=>by
  by_cases h:e=d
  ·exact .inl ⟨h,by rw[C e m,if_pos h]⟩
  ·have k:H e=b e:=by rw[C e m,if_neg h]
   exact .inr ⟨h,by rw[<-k];exact i,k⟩
 have J:H d=z:=by rw[C d W,if_pos rfl]
 have aa:z≠[]:=by
  intro h;have:=a.1;rw[h] at this;simp at this;omega
 have ab:∀x∈q',dL P.orders x/\gi P Q x:=by
  have ac:=A.gen y (A.sS y List.mem_cons_self);have l:gi P Q z:=λK S p=>Y K S (ac K S p);intro x hx;rcases ae x hx with h|h|h|h|⟨e,m,i,h|h⟩
  ·have:=A.sS x (List.mem_cons_of_mem _ h);exact⟨A.vec x this,A.gen x this⟩
  ·rw[h];exact⟨hT.1,ac⟩
  ·rw[h];exact⟨a,l⟩
  ·rw[h];exact⟨G.kf a _,λK S p=>S.pw (l K S p) _⟩
  ·have r:=(A.tab e m i).2.1.1
   have u:=A.gen _ (A.tab e m i).1;rw[h];exact⟨G.gz (G.invV (G.gz a r)) (G.gz r a),λK S p=>S.mul _ _ (S.inv _ (S.mul _ _ (l K S p) (u K S p))) (S.mul _ _ (u K S p) (l K S p))⟩
  ·have r:=(A.tab e m i).2.1.1
   have u:=A.gen _ (A.tab e m i).1;rw[h];exact⟨G.gz (G.invV (G.gz r a)) (G.gz a r),λK S p=>S.mul _ _ (S.inv _ (S.mul _ _ (u K S p) (l K S p))) (S.mul _ _ (l K S p) (u K S p))⟩
 have af:T P (d+1) (pw P z (gt P.orders d).toNat):=G.DA W U;refine⟨λe m i => ?_,?_,λx hx => .inr (.inr hx),λx hx => .inl (A.src x hx),?_,λe m i => ?_,λV L ag w h1 k => ?_,?_⟩
 ·rcases j e m i with⟨h1,k⟩|⟨h1,k,h3⟩
  ·subst h1;rw[k];exact⟨.inr (.inl rfl),U,X⟩
  ·rw[h3];exact⟨.inl (A.tab e m k).1,(A.tab e m k).2⟩
 ·rintro x (h|h|h)
  ·exact A.vec x h
  ·rw[h];exact a
  ·exact(ab x h).1
 ·rintro x (h|h|h)
  ·rcases A.step x h with h1|h1|⟨e,k,h3,h4,h5,x',h6,h7,h8⟩
   ·exact .inl h1
   ·rcases List.mem_cons.1 h1 with k|k
    ·exact .inr (.inl (D x (.inr (.inl k))))
    ·exact .inr (.inl (D x (.inl k)))
   ·refine .inr (.inr ⟨e,k,h3,h4,by rw[I e k h5];exact h5,x',.inl h6,h7,?_⟩)
    rw[I e k h5];exact h8
  ·-- the new entry itself: its power with the order, times its inverse
   subst h;refine .inr (.inr ⟨d,W,U,by rw[X];decide,by rw[J];exact aa,pw P x (gt P.orders d).toNat,.inr (.inr (D _ (.inr (.inr rfl)))),af,λK _ hk _=>by rw[J] at hk;exact hk⟩)
  ·exact .inr (.inl h)
 ·rcases j e m i with⟨h1,k⟩|⟨h1,k,h3⟩
  ·subst h1;rw[k];exact .inr (.inr (D _ (.inr (.inr rfl))))
  ·rw[h3];exact .inl (A.pow e m k)
 ·rcases j V (by omega) h1 with⟨a1,a2⟩|⟨a1,a2,a3⟩
  ·rcases j L w k with⟨b1,b2⟩|⟨b1,b2,b3⟩
   ·omega
   ·subst a1
    rw[a2,b3];obtain⟨k1,E,k3⟩:=A.tab L w b2;have ai:=E.down (show V+1<=L by omega);have B:=G.DC W U ai;rcases Z L w b2 with M|M
    ·refine ⟨_,.inr (.inr M),B.2,λK F N O => ?_⟩
     rw[G.zf E.1 a];exact F.mul _ _ N O
    ·refine ⟨_,.inr (.inr M),B.1,λK F N O => ?_⟩
     rw[G.zf E.1 a,<-G.IJ E.1 a];exact F.mul _ _ N (F.inv _ O)
  ·rcases j L w k with⟨b1,b2⟩|⟨b1,b2,b3⟩
   ·subst b1
    rw[a3,b2];obtain⟨k1,E,k3⟩:=A.tab V (by omega) a2;have aj:=U.down (show V+1<=L by omega);have B:=G.DC (by omega) E aj;rcases Z V (by omega) a2 with M|M
    ·refine ⟨_,.inr (.inr M),B.1,λK F N O => ?_⟩
     rw[G.zf a E.1,<-G.IJ a E.1];exact F.mul _ _ N (F.inv _ O)
    ·refine ⟨_,.inr (.inr M),B.2,λK F N O => ?_⟩
     rw[G.zf a E.1];exact F.mul _ _ N O
   ·rw [a3,b3]
    obtain⟨c,c1,c2⟩:=A.xe V L ag w a2 b2;exact⟨c,.inl c1,c2⟩
 ·rintro x (h|h|h)
  ·exact A.gen x h
  ·rw[h];intro K S p;exact Y K S (A.gen _ (A.sS y List.mem_cons_self) K S p)
  ·exact(ab x h).2
theorem ez.IV {Q:List Int->Prop}{b:Nat->List Int}{R:List Int->Prop}(A:kg P Q b [] R):Ind P (gi P Q) b:=by
 have C:IK P b R:=by
  refine⟨λd a k=>(A.tab d a k).2,A.vec,λq l => ?_,A.pow,A.xe⟩;rcases A.step q l with h|h|h
  ·exact .inl h
  ·cases h
  ·exact .inr h
 obtain⟨K,t⟩:=G.Qn C P.orders.length 0 (by omega);have i:=G.qu (Q:=Q) (λy hy=>A.vec y (A.src y hy));have j:∀x,gi P Q x->K x:=λx hx=>Au t.sub (λy hy=>t.res y (A.src y hy) (pP.2 (A.vec y (A.src y hy)))) hx;exact⟨i,λd a e=>⟨A.gen _ (A.tab d a e).1,(A.tab d a e).2⟩,λx hx d a m p=>t.piv x (j x hx) d (by omega) a m p⟩
end
def dep (x:List Int):Nat:=x.findIdx (λe=>e != 0)
theorem xg (x:List Int):dep x<=x.length:=List.findIdx_le_length
theorem Bg {x:List Int}{k:Nat}(h:k<dep x):gt x k=0:=by
 have a:k<x.length:=Nat.lt_of_lt_of_le h (xg x);have:=List.not_of_lt_findIdx h;rw[gM x k a];simpa using this
theorem sU {x:List Int}(h:dep x<x.length):gt x (dep x)≠0:=by
 have a:=List.findIdx_getElem (xs:=x) (p:=λe=>e != 0) (w:=h);rw[gM x _ h];show ¬(x[List.findIdx (λe=>e != 0) x]=0)
 simpa using a
theorem Bh {x:List Int}{d:Nat}(e:d<x.length) (a:∀k,k<d->gt x k=0) (b:gt x d≠0):dep x=d:=by
 rcases Nat.lt_trichotomy (dep x) d with h|h|h
 ·exact absurd (a _ h) (sU (by omega))
 ·exact h
 ·exact absurd (Bg h) b
theorem qF {P:Pr}{x:List Int}(hx:dL P.orders x):T P (dep x) x:=⟨hx,λ_ hk=>Bg hk⟩
theorem IW {P:Pr}{x:List Int}(hP:Valid P) (hx:dL P.orders x):dep x=P.orders.length↔x=zeros P.orders.length:=by
 constructor
 ·intro h
  have:=qF hx;rw[h] at this;exact this.top hP
 ·intro h
  rcases Nat.lt_or_ge (dep x) x.length with h1|h1
  ·exfalso
   apply sU h1;have:∀k,gt (zeros P.orders.length) k=0:=λk=>jw _ _;rw[h];exact this _
  ·have:=xg x
   rw[<-hx.1];omega
theorem DD {P:Pr}{x:List Int}{d:Nat}(b:d<P.orders.length) (a:T P d x) (e:gt x d≠0):dep x=d:=Bh (by rw[a.1.1];exact b) a.2 e
section
variable {P:Pr}(G:ez P)
include G
theorem ez.clear {d:Nat}(a:d<P.orders.length) {x z:List Int}(hx:dL P.orders x) (e:T P d z) (b:gt z d=1) (k:Nat) (hk:((k:Int)+gt x d)%gt P.orders d=0) :
  gt (fC P x (pw P z k)) d=0/\∀j,j<d->gt (fC P x (pw P z k)) j=gt x j:=by
 have i:=G.l8 (Nat.le_of_lt a) e k;have h:=G.right (Nat.le_of_lt a) hx i;refine⟨?_,h.1⟩;rw[h.2 a,G.p7 a e,b,Int.mul_one,Int.add_emod_emod,Int.add_comm];exact hk
theorem ez.Qs {H:List Int->Prop}{b:Nat->List Int}(I:Ind P H b) (f:Nat):∀d x,d+f=P.orders.length->dL P.orders x->∃y h,H h/\T P d h/\y=fC P x h/\dL P.orders y/\∀e,d<=e->e<P.orders.length->b e≠[]->gt y e=0:=by
 induction f with
 | zero=>
  intro d x A hx;exact⟨x,_,I.sub.one,T.zeros G.v d,(G.fS.er x hx).symm,hx,λe a m=>by omega⟩
 | succ f w=>
  intro d x A hx;have i:d<P.orders.length:=by omega
  by_cases z:b d=[]
  ·obtain ⟨y,h,h1,l,p,h4,h5⟩:=w (d+1) x (by omega) hx
   refine⟨y,h,h1,l.down (Nat.le_succ d),p,h4,λe a m j => ?_⟩;by_cases q:e=d
   ·subst q;exact absurd z j
   ·exact h5 e (by omega) m j
  ·obtain ⟨B,r,m3⟩:=I.mem d i z
   have E:=G.v.gh d i;have C:=hx.2 d i;have k:=G.kf r.1 (gt P.orders d-gt x d).toNat;have u:=G.l8 (Nat.le_of_lt i) r (gt P.orders d-gt x d).toNat
   have D:=G.clear i hx r m3 (gt P.orders d-gt x d).toNat (by
    rw[show(((gt P.orders d-gt x d).toNat:Nat):Int)+gt x d=gt P.orders d by omega,Int.emod_self])
   obtain⟨y,h,h1,l,p,h4,h5⟩:=w (d+1) _ (by omega) (G.gz hx k);refine⟨y,fC P (pw P (b d) (gt P.orders d-gt x d).toNat) h,I.sub.mul _ _ (I.sub.pw B _) h1,G.qE (Nat.le_of_lt i) u (l.down (Nat.le_succ d)),?_,h4,λe a m j => ?_⟩
   ·rw[p,G.ass hx k l.1]
   ·by_cases q:e=d
    ·subst q
     rw[p,(G.right (Nat.succ_le_of_lt i) (G.gz hx k) l).1 e (by omega)];exact D.1
    ·exact h5 e (by omega) m j
theorem ez.Qt {H:List Int->Prop}{b:Nat->List Int}(I:Ind P H b):∃r,Red P H r:=by
 have key:∀d,∃y,(b d=[]->y=[])/\(d<P.orders.length->b d≠[]->y≠[]/\H y/\T P d y/\gt y d=1/\∀e,d<e->e<P.orders.length->b e≠[]->gt y e=0):=by
  intro d;by_cases j:b d=[]
  ·exact⟨[],λ_=>rfl,λ_ h=>absurd j h⟩
  ·by_cases i:d<P.orders.length
   ·obtain ⟨z,l,m3⟩:=I.mem d i j
    obtain⟨y,h,h1,k,m,h4,h5⟩:=G.Qs I (P.orders.length-(d+1)) (d+1) (b d) (by omega) l.1;have p:T P d y:=by rw[m];exact G.qE (Nat.le_of_lt i) l (k.down (Nat.le_succ d))
    refine⟨y,λh=>absurd h j,λ_ _=>⟨?_,?_,p,?_,λe a A q=>h5 e (by omega) A q⟩⟩
    ·intro e
     have:=h4.1;rw[e] at this;simp at this;omega
    ·rw[m];exact I.sub.mul _ _ z h1
    ·rw[m,(G.right (Nat.succ_le_of_lt i) l.1 k).1 d (by omega)];exact m3
   ·exact⟨[],λ_=>rfl,λh=>absurd h i⟩
 have hex:=λd=>key d;refine⟨λd=>Classical.choose (hex d),⟨⟨I.sub,λd i B => ?_,λx hx d i C D => ?_⟩,λd e u E h1 k => ?_⟩⟩
 ·have s:=Classical.choose_spec (hex d)
  have j:b d≠[]:=λh=>B (s.1 h);have:=s.2 i j;exact⟨this.2.1,this.2.2.1,this.2.2.2.1⟩
 ·have s:=Classical.choose_spec (hex d)
  exact(s.2 i (I.piv x hx d i C D)).1
 ·have s:=Classical.choose_spec (hex d)
  have F:=Classical.choose_spec (hex e);have j:b d≠[]:=λh=>h1 (s.1 h);have w:b e≠[]:=λh=>k (F.1 h);exact(s.2 (by omega) j).2.2.2.2 e u E w
omit G in
theorem Qu {o a:Int}(b:o=2\/o=3\/o=5\/o=7) (ha:0<a) (e:a<o):∃k:Nat,((k:Int)*a)%o=1:=by
 rcases b with rfl|rfl|rfl|rfl
 ·exact⟨1,by have:a=1:=(by omega);subst this;rfl⟩
 ·rcases (show a=1\/a=2 by omega) with rfl|rfl
  ·exact⟨1,rfl⟩
  ·exact⟨2,rfl⟩
 ·rcases (show a=1\/a=2\/a=3\/a=4 by omega) with rfl|rfl|rfl|rfl
  ·exact⟨1,rfl⟩
  ·exact⟨3,rfl⟩
  ·exact⟨2,rfl⟩
  ·exact⟨4,rfl⟩
 ·rcases (show a=1\/a=2\/a=3\/a=4\/a=5\/a=6 by omega) with rfl|rfl|rfl|rfl|rfl|rfl
  ·exact⟨1,rfl⟩
  ·exact⟨4,rfl⟩
  ·exact⟨5,rfl⟩
  ·exact⟨2,rfl⟩
  ·exact⟨3,rfl⟩
  ·exact⟨6,rfl⟩
open Classical in
theorem ez.Qv {H:List Int->Prop}(S:Sub P H):∃b,Ind P H b:=by
 refine⟨λd=>if h:∃y,d<P.orders.length/\H y/\T P d y/\gt y d=1 then Classical.choose h else [],S,λd _ i => ?_,λx hx d a j p => ?_⟩
 ·by_cases h:∃y,d<P.orders.length/\H y/\T P d y/\gt y d=1
  ·simp only[dif_pos h] at i ⊢
   exact(Classical.choose_spec h).2
  ·simp only[dif_neg h] at i;exact absurd rfl i
 ·have l:=j.1.2 d a
  obtain⟨k,hk⟩:=Qu (G.v.ord d a) (by omega) l.2;have h:∃y,d<P.orders.length/\H y/\T P d y/\gt y d=1:=⟨pw P x k,a,S.pw hx k,G.l8 (Nat.le_of_lt a) j k,by rw[G.p7 a j];exact hk⟩;simp only[dif_pos h];have m:=(Classical.choose_spec h).2.2.1.1.1;intro e;rw[e] at m;simp at m;omega
open Classical in
noncomputable def fD (P:Pr) (H:List Int->Prop):List (List Int):=if h:∃r,Red P H r then lD P.orders.length (Classical.choose h) else []
theorem ez.IX {H:List Int->Prop}{r:Nat->List Int}(A:Red P H r):fD P H=lD P.orders.length r:=by
 unfold fD;have h:∃r,Red P H r:=⟨r,A⟩;rw[dif_pos h];exact G.Qr (Classical.choose_spec h) A
theorem ez.DF {H:List Int->Prop}(S:Sub P H):∃r,Red P H r/\fD P H=lD P.orders.length r:=by
 obtain⟨b,I⟩:=G.Qv S;obtain⟨r,A⟩:=G.Qt I;exact⟨r,A,G.IX A⟩
end
/-! ### a sequence as a list -/
section
variable {P:Pr}(G:ez P)
include G
theorem ez.IY {d:Nat}(b:d<P.orders.length) {x t:List Int}(hx:T P d x) (j:T P d t) (e:gt t d=1) :
  T P (d+1) (fC P (pw P t (gt P.orders d-gt x d).toNat) x)/\∀K,Sub P K->K t->(K (fC P (pw P t (gt P.orders d-gt x d).toNat) x)↔K x):=by
 have m:=G.v.gh d b;have k:=hx.1.2 d b;have a:=G.l8 (Nat.le_of_lt b) j (gt P.orders d-gt x d).toNat;refine⟨?_,λK S h1=>⟨λi => ?_,λi=>S.mul _ _ (S.pw h1 _) i⟩⟩
 ·refine (G.qE (Nat.le_of_lt b) a hx).up ?_
  rw[(G.right (Nat.le_of_lt b) a.1 hx).2 b,G.p7 b j,e,Int.mul_one,Int.emod_add_emod,show(((gt P.orders d-gt x d).toNat:Nat):Int)+gt x d=gt P.orders d by omega,Int.emod_self]
 ·have l:=S.mul _ _ (S.inv _ (S.pw h1 (gt P.orders d-gt x d).toNat)) i
  rwa [<-G.ass (G.invV a.1) a.1 hx.1,G.inv_mul a.1,G.fS.el _ hx.1] at l
def iT (P:Pr) (x:List Int) (k:Int):List Int:=if k<0 then pw P (gj P x) (-k).toNat else pw P x k.toNat
theorem ez.sV {x:List Int}(hx:dL P.orders x) (k:Int):dL P.orders (iT P x k):=by
 unfold iT;split
 ·exact G.kf (G.invV hx) _
 ·exact G.kf hx _
omit G in
theorem Sub.iT {H:List Int->Prop}(S:Sub P H) {x:List Int}(hx:H x) (k:Int):H (Go.Proofs.YtoakmefajbbggaaGreat.iT P x k):=by
 unfold Go.Proofs.YtoakmefajbbggaaGreat.iT;split
 ·exact S.pw (S.inv _ hx) _
 ·exact S.pw hx _
theorem ez.Qw {x:List Int}{d:Nat}(a:d<=P.orders.length) (hx:T P d x) (k:Int):T P d (iT P x k):=by
 unfold iT;split
 ·exact G.l8 a (G.xS a hx) _
 ·exact G.l8 a hx _
theorem ez.Qx {x:List Int}{d:Nat}(a:d<P.orders.length) (hx:T P d x):(gt (gj P x) d+gt x d)%gt P.orders d=0:=by
 have b:=G.xS (Nat.le_of_lt a) hx;have h:=(G.right (Nat.le_of_lt a) b.1 hx).2 a;rw[G.inv_mul hx.1] at h;have e:gt (zeros P.orders.length) d=0:=jw _ _;rw[<-h,e]
theorem ez.DG {d:Nat}(a:d<P.orders.length) {x t:List Int}(hx:dL P.orders x) (i:T P d t) (j:gt t d=1) :
  gt (fC P x (iT P t (-(gt x d)))) d=0/\(∀k,k<d->gt (fC P x (iT P t (-(gt x d)))) k=gt x k)/\dL P.orders (fC P x (iT P t (-(gt x d)))):=by
 have y:=G.v.gh d a;have p:=hx.2 d a;have b:=G.Qw (Nat.le_of_lt a) i (-(gt x d));have h:=G.right (Nat.le_of_lt a) hx b;refine⟨?_,h.1,G.gz hx b.1⟩;rw[h.2 a];by_cases l:gt x d=0
 ·have:iT P t (-(gt x d))=zeros P.orders.length:=by
   unfold iT;rw[l];simp;rfl
  have q:gt (zeros P.orders.length) d=0:=jw _ _;rw[this,q,l];simp
 ·have e:iT P t (-(gt x d))=pw P (gj P t) (gt x d).toNat:=by
   unfold iT;rw[if_pos (by omega),Int.neg_neg]
  rw[e,G.p7 a (G.xS (Nat.le_of_lt a) i)];have m:=G.Qx a i;rw[j] at m;have r:=(G.invV i.1).2 d a;-- the inverse's entry is one less than the order
  have u:gt (gj P t) d=gt P.orders d-1:=by
   by_cases h1:gt (gj P t) d+1<gt P.orders d
   ·rw[Int.emod_eq_of_lt (by omega) h1] at m;omega
   ·omega
  rw[u,show(((gt x d).toNat:Nat):Int)=gt x d by omega,Int.add_emod_emod];have w:gt x d+gt x d*(gt P.orders d-1)=gt x d*gt P.orders d:=by rw[Int.mul_sub,Int.mul_one];omega
  rw[w,Int.mul_emod_left]
theorem ez.IZ {d:Nat}(a:d<P.orders.length) {x:List Int}(hx:T P d x) (k:Int) (b:0<=k) (hk:(k*gt x d)%gt P.orders d=1):T P d (pw P x k.toNat)/\gt (pw P x k.toNat) d=1:=by
 refine⟨G.l8 (Nat.le_of_lt a) hx _,?_⟩;rw[G.p7 a hx,show((k.toNat:Nat):Int)=k by omega];exact hk
end
end Go.Proofs.YtoakmefajbbggaaGreat
namespace Go.Proofs.YtoakmefajbbggaaGreat
open Go.RowKit
theorem Qy (a m:Int) (b:0<m):(a.tmod m+m).tmod m=a%m:=by
 have h1 : -m<a.tmod m/\a.tmod m<m:=⟨Int.neg_lt_of_neg_lt (by have:=Int.lt_tmod_of_pos a b;omega),Int.tmod_lt_of_pos a b⟩;rw[Int.tmod_eq_emod_of_nonneg (by omega),Int.add_emod_right];rw[Int.tmod_eq_emod];split
 ·rw[show((0:Nat):Int)=0 from rfl,Int.sub_zero,Int.emod_emod_of_dvd _ (Int.dvd_refl m)]
 ·rw[show a%m-m.natAbs=a%m-m by omega,Int.sub_emod,Int.emod_self,Int.sub_zero,Int.emod_emod_of_dvd _ (Int.dvd_refl m),Int.emod_emod_of_dvd _ (Int.dvd_refl m)]
theorem Qz (a m:Int) (w:World) (k:1<=m/\m<=1000000000) :
  Calls Tryz.prog 238 #[.int .i64 a,.int .i64 m] w λe w'=>e=.returned (.int .i64 (a%m))/\w=w':=by
 have h1 : -m<a.tmod m/\a.tmod m<m:=⟨by have:=Int.lt_tmod_of_pos a (show 0<m by omega);omega,Int.tmod_lt_of_pos a (by omega)⟩;have l:=Qy a m (by omega);have p:IntKind.i64.wrap (a.tmod m)=a.tmod m:=IntWalk.i64_in _ (by omega);have q:IntKind.i64.wrap (a.tmod m+m)=a.tmod m+m:=IntWalk.i64_in _ (by omega);have r:0<=a%m/\a%m<m:=⟨Int.emod_nonneg _ (by omega),Int.emod_lt_of_pos _ (by omega)⟩;have u:IntKind.i64.wrap (a%m)=a%m:=IntWalk.i64_in _ (by omega);have b:(m == 0)=false:=by simp;omega
 have i:¬m=0:=by omega
 have j:¬m = -1:=by omega
 go_enter Tryz.func238,Tryz.ntmps238;go_wp2;go_ret;exact⟨rfl,rfl⟩
theorem I1 {X:List Int}(h:∀k,k<X.length->gt X k=0):dep X=X.length:=by
 have:=xg X;rcases Nat.lt_or_ge (dep X) X.length with h1|h1
 ·exact absurd (h _ h1) (sU h1)
 ·omega
set_option maxHeartbeats 400000 in
theorem Bi (v:Value) (X:List Int) (w:World) (S:Nat->Prop) (h:Ints S w v X) :
  Calls Tryz.prog 194 #[v] w λe w'=>e=.returned (.int .i64 (dep X))/\w=w':=by
 obtain⟨a,cap,rfl,_,_⟩:=h.shape;go_enter Tryz.func194,Tryz.ntmps194;go_wp2;go_loop [7] (λi=>∃k:Nat,i=.int .i64 k/\k<=X.length/\∀j,j<k->gt X j=0) (λi=>X.length-(intOf i).toNat)
 case atStart=>exact⟨0,rfl,by omega,λj p=>by omega⟩
 case round=>
  obtain⟨k,rfl,hk,hz⟩:=hrel;have q:=Lib.hid hz;clear hz;by_cases l:k<X.length
  ·obtain ⟨b,off,rfl,_,_,hc⟩:=Ints.at h k l
   by_cases hx:gt X k=0
   ·have u:(gt X k != 0)=false:=by simp[hx]
    have y:=Lib.hid hx;clear hx;go_wp2;go_round
    case rel=>exact⟨k+1,by go_num,by omega,λj p=>by
     rcases Nat.lt_succ_iff_lt_or_eq.1 p with h1|h1
     ·exact q.out j h1
     ·rw[h1];exact y.out⟩
    case measure=>simp[intOf];omega
   ·have u:(gt X k != 0)=true:=by simp[hx]
    have m:dep X=k:=Bh l q.out hx;have r:=Lib.hid m;clear m hx;go_wp2;go_ret;exact⟨by rw[r.out];rfl,rfl⟩
  ·have z:k=X.length:=by omega
   have m:dep X=X.length:=I1 (λj p=>q.out j (by omega));have r:=Lib.hid m;clear m;go_wp2;go_ret;exact⟨by rw[r.out];rfl,rfl⟩
theorem ez.comm_eq {P:Pr}(G:ez P) {x y:List Int}(hx:dL P.orders x) (hy:dL P.orders y):tv P (pL P x) (oM P x y)=fC P (gj P (fC P y x)) (fC P x y):=by
 have b:=G.invV hx;have a:=G.invV hy;have c1:=G.gz hx hy;rw[G.zb hx,G.Ar hx hy,G.oI b (G.oA hx hy),G.tH hy hx];unfold fW;rw[G.ass b a c1]
set_option maxHeartbeats 400000 in
theorem QA (P:Pr) (G:ez P) (w:World) (p a b:Value) (A B:List Int) (l u C:Nat->Prop) (y:fB l w p P) (ha:Ints u w a A) (E:Ints C w b B) (j:dL P.orders A) (hB:dL P.orders B) :
  Calls Tryz.prog 197 #[p,a,b] w (fq w λw' v=>Own w.heap.size w' v (fC P (gj P (fC P B A)) (fC P A B))):=by
 have hP:=G.v;have F:=hP.n6;have H:(pL P A).length<=6:=by rw[(vX hP A j).1];omega
 have k:dL P.orders (oM P A B):=by rw[G.Ar j hB];exact G.oA j hB
 have I:(oM P A B).length<=6:=by rw[k.1];omega
 go_enter Tryz.func197,Tryz.ntmps197;go_wp2_with fail
 refine Calls.mono (Ik P hP w p a A l u y ha j) ?_;rintro N J ⟨r,rfl,e,K⟩;go_wp2_with fail
 refine Calls.mono (u5 P hP J p a b A B l u C (y.ext e) (ha.ext e) (E.ext e) j hB) ?_;rintro O L ⟨m,rfl,i,M⟩;go_wp2_with fail
 refine Calls.mono (vQ P hP L p r m _ _ l Any Any (y.ext (dy e i)) ((K.gw i).ints (by omega)) (M.ints (by omega)) (vX hP A j) k) ?_;rintro Q R ⟨q,rfl,z,D⟩;rw[G.comm_eq j hB] at D;go_wp2;go_ret;exact⟨_,rfl,dy (dy e i) z,D.weak (by have:=e.size;have:=i.size;omega)⟩
def kH (m a:Int):Nat->Int × Int × Int × Int
 | 0=>(m,a,0,1)
 | i+1=>let s:=kH m a i;if s.2.1=0 then s else (s.2.1,s.1-s.1/s.2.1*s.2.1,s.2.2.2,s.2.2.1-s.1/s.2.1*s.2.2.2)
def I2 (m a:Int):Bool:=
 (List.range 6).all (λi=>let s:=kH m a i;decide (0<=s.1/\s.1<=7/\0<=s.2.1/\s.2.1<=7 /\ -7<=s.2.2.1/\s.2.2.1<=7 /\ -7<=s.2.2.2/\s.2.2.2<=7/\(s.2.1=0\/i<5))) &&
  decide ((kH m a 5).2.1=0/\(kH m a 5).1=1/\((kH m a 5).2.2.1%m*a)%m=1)
theorem QB {m a:Int}(b:m=2\/m=3\/m=5\/m=7) (h1:1<=a) (e:a<m):I2 m a=true:=by
 rcases b with rfl|rfl|rfl|rfl
 ·have:a=1:=by omega
  subst this;decide
 ·rcases(show a=1\/a=2 by omega) with rfl|rfl<;>decide
 ·rcases(show a=1\/a=2\/a=3\/a=4 by omega) with rfl|rfl|rfl|rfl<;>decide
 ·rcases(show a=1\/a=2\/a=3\/a=4\/a=5\/a=6 by omega) with rfl|rfl|rfl|rfl|rfl|rfl<;>decide
theorem QC (m a:Int) (i j:Nat) (h:(kH m a i).2.1=0):kH m a (i+j)=kH m a i:=by
 induction j with
 | zero=>rfl
 | succ j b=>
  show kH m a (i+j+1)=_
  simp only[kH,b,if_pos h]
set_option maxHeartbeats 1000000 in
theorem QD (a m:Int) (w:World) (C:m=2\/m=3\/m=5\/m=7) (h1:1<=a) (O:a<m) :
  Calls Tryz.prog 195 #[.int .i64 a,.int .i64 m] w λe w'=>(∃k:Int,e=.returned (.tuple #[.int .i64 k,.bool true])/\0<=k/\k<m/\(k*a)%m=1)/\w=w':=by
 have D:=QB C h1 O;unfold I2 at D;rw[Bool.and_eq_true,List.all_eq_true] at D;obtain⟨p,hend⟩:=D;have I:∀i,i<6->0<=(kH m a i).1/\(kH m a i).1<=7/\0<=(kH m a i).2.1/\(kH m a i).2.1<=7 /\ -7<=(kH m a i).2.2.1/\(kH m a i).2.2.1<=7 /\ -7<=(kH m a i).2.2.2/\(kH m a i).2.2.2<=7/\((kH m a i).2.1=0\/i<5):=λi Q=>of_decide_eq_true (p i (List.mem_range.2 Q));have J:=of_decide_eq_true hend;have E:=Lib.hid (And.intro I J);clear I J p hend;have R:2<=m/\m<=7:=by omega
 have HM:=Lib.hid C;clear C;go_enter Tryz.func195,Tryz.ntmps195;go_wp2;go_loopg [6,7,8,9] 5 (λgk S T U V wr=>∃(i:Nat) (r n x y:Int),gk+i=5/\S=.int .i64 r/\T=.int .i64 n/\U=.int .i64 x/\V=.int .i64 y/\kH m a i=(r,n,x,y)/\w=wr)
 case atStart=>exact⟨0,m,a,0,1,rfl,rfl,rfl,rfl,rfl,rfl,rfl⟩
 case round=>
  obtain⟨i,r,n,x,y,Vy,rfl,rfl,rfl,rfl,F,rfl⟩:=hrel;have q:=E.out.1 i (by omega);rw[F] at q;simp only at q;obtain⟨b1,b2,b3,b4,b5,b6,b7,b8,K⟩:=q;have B:=Lib.hid (And.intro F K);clear F K;by_cases u:n=0
  ·subst u
   have z:kH m a 5=(r,0,x,y):=by
    have L:=QC m a i (5-i) (by rw[B.out.1]);rw[show i+(5-i)=5 by omega] at L;rw[L,B.out.1]
   have j:=E.out.2;rw[z] at j;simp only at j;obtain⟨_,hr,hk⟩:=j;subst hr;have A:0<=x%m/\x%m<m:=⟨Int.emod_nonneg _ (by omega),Int.emod_lt_of_pos _ (by omega)⟩;have W:=Lib.hid hk;clear hk z;go_wp2_with (go_at_call 238;refine Calls.mono (Qz x m w (by omega)) ?_;rintro eR wR ⟨rfl,rfl⟩)
   go_ret2
   exact⟨⟨_,rfl,A.1,A.2,W.out⟩,rfl⟩
  ·have X:(n != 0)=true:=by simp[u]
   have Y:i<5:=B.out.2.resolve_left u;have Z:0<n:=by omega
   have b:kH m a (i+1)=(n,r-r/n*n,y,x-r/n*y):=by
    simp only[kH,B.out.1];rw[if_neg u]
   have l:=E.out.1 (i+1) (by omega);rw[b] at l;simp only at l;have G:=Lib.hid (And.intro b l);clear b;have H:0<=r/n:=Int.ediv_nonneg b1 (by omega);have aa:r/n<=7:=Int.le_trans (Int.ediv_le_self _ b1) b2;have ab:0<=r/n*n:=Int.mul_nonneg H (by omega);have M:r/n*n<=7:=by omega
   have N : -100<=r/n*y/\r/n*y<=100:=by omega
   have e1:r.tdiv n=r/n:=Int.tdiv_eq_ediv_of_nonneg b1;have e2:IntKind.i64.wrap (r/n)=r/n:=IntWalk.i64_in _ (by omega);have e3:IntKind.i64.wrap (r/n*n)=r/n*n:=IntWalk.i64_in _ (by omega);have e4:IntKind.i64.wrap (r-r/n*n)=r-r/n*n:=IntWalk.i64_in _ (by omega);have e5:IntKind.i64.wrap (r/n*y)=r/n*y:=IntWalk.i64_in _ (by omega);have e6:IntKind.i64.wrap (x-r/n*y)=x-r/n*y:=IntWalk.i64_in _ (by omega);clear l u;go_wp2;go_roundg (gk-1)
   case measure=>omega
   case rel=>exact⟨i+1,n,r-r/n*n,y,x-r/n*y,by omega,rfl,rfl,rfl,rfl,G.out.1,rfl⟩
def iq (o x:List Int):Nat->Int
 | 0=>0
 | k+1=>iq o x k*gt o k+gt x k
def num (P:Pr) (x:List Int):Int:=iq P.orders x P.orders.length
theorem zh {P:Pr}(hP:Valid P) {x:List Int}(hx:dL P.orders x) (k:Nat) (hk:k<=P.orders.length):0<=iq P.orders x k/\iq P.orders x k+1<=gI P.orders k:=by
 induction k with
 | zero=>simp[iq,gI]
 | succ k a=>
  obtain⟨h1,h2⟩:=a (by omega);have e:=hP.pos k (by omega);have i:=hx.2 k (by omega);have j:0<=iq P.orders x k*gt P.orders k:=Int.mul_nonneg h1 (by omega);have b:(iq P.orders x k+1)*gt P.orders k<=gI P.orders k*gt P.orders k:=Int.mul_le_mul_of_nonneg_right h2 (by omega);rw[Int.add_mul,Int.one_mul] at b;simp only[iq,gI];omega
theorem oB {P:Pr}(hP:Valid P) {x:List Int}(hx:dL P.orders x):0<=num P x/\num P x<eW P:=by
 have:=zh hP hx P.orders.length (Nat.le_refl _);unfold num eW;omega
set_option maxHeartbeats 400000 in
theorem QE (P:Pr) (hP:Valid P) (w:World) (p x:Value) (X:List Int) (u y:Nat->Prop) (m:fB u w p P) (hx:Ints y w x X) (a:dL P.orders X) :
  Calls Tryz.prog 90 #[p,x] w λe w'=>e=.returned (.int .i64 (num P X))/\w=w':=by
 have z:=hP.n6;have A:X.length<=P.orders.length/\P.orders.length<=X.length:=by rw[a.1];omega
 obtain⟨pb,po,rfl⟩:=m.shape;obtain⟨E,l6,rfl,_,_⟩:=hx.shape;obtain⟨F,iA,gJ,hoi⟩:=m.iO;go_enter Tryz.func90,Tryz.ntmps90;go_wp2;go_loop [5,10] (λB i=>∃k:Nat,i=.int .i64 k/\B=.int .i64 (iq P.orders X k)/\k<=X.length) (λ_ i=>X.length-(intOf i).toNat)
 case atStart=>exact⟨0,rfl,rfl,by omega⟩
 case round=>
  obtain⟨k,rfl,rfl,hk⟩:=hrel;by_cases j:k<X.length
  ·obtain ⟨b,off,rfl,_,_,hc⟩:=Ints.at hx k j
   obtain⟨b2,off2,rfl,_,_,hc2⟩:=Ints.at hoi k (by omega);have h1:=zh hP a (k+1) (by omega);have C:=hP.pre (k+1) (by omega);have q:=a.2 k (by omega);have r:=zh hP a k (by omega);have D:=hP.gh k (by omega);have G:0<=iq P.orders X k*gt P.orders k:=Int.mul_nonneg r.1 (by omega);have H:iq P.orders X k*gt P.orders k<=729:=by simp only[iq] at h1;omega
   have I:0<=gt X k:=q.1;have J:gt X k<=7:=by omega
   clear h1 C q r D;go_wp2;go_round
   case rel=>exact⟨k+1,by go_num,rfl,by omega⟩
   case measure=>simp[intOf];omega
  ·have l:k=P.orders.length:=by omega
   subst l;go_wp2;go_ret;exact⟨rfl,rfl⟩
set_option maxHeartbeats 400000 in
theorem DI (P:Pr) (hP:Valid P) (w:World) (pv x:Value) (X:List Int) (y z:Nat->Prop) (A:gy y w pv P) (hx:Ints z w x X) (e:dL P.orders X) :
  Calls Tryz.prog 168 #[pv,x] w (fq w λ_ v=>v=.int .i64 (num P X)):=by
 obtain⟨vo,vp,vc,rfl,j⟩:=A;have B:=hP.n6;have C:X.length<=P.orders.length/\P.orders.length<=X.length:=by rw[e.1];omega
 have hB:=fB.box j 28;have a:Ext w (w.alloc (.cells #[vo,vp,vc] 28)):=World.grownBy_alloc _ _ _;have m:=hx.ext a;obtain⟨K,l6,rfl,_,_⟩:=hx.shape;go_enter Tryz.func168,Tryz.ntmps168;go_wp2;generalize p:w.alloc (.cells #[vo,vp,vc] 28)=w0 at *;clear p;go_loopw [5,6] (λD i wr=>∃k:Nat,i=.int .i64 k/\D=.int .i64 (iq P.orders X k)/\k<=X.length/\Ext w0 wr) (λ_ i _=>X.length-(intOf i).toNat)
 case atStart=>exact⟨0,rfl,rfl,by omega,Ext.refl _⟩
 case round=>
  obtain⟨k,rfl,rfl,hk,l⟩:=hrel;by_cases q:k<X.length
  ·obtain ⟨L,iA,gJ,hoi⟩:=(hB.ext l).iO
   obtain⟨b,off,rfl,_,_,hc⟩:=Ints.at (m.ext l) k q;obtain⟨b2,off2,rfl,_,_,hc2⟩:=Ints.at hoi k (by omega);have h1:=zh hP e (k+1) (by omega);have E:=hP.pre (k+1) (by omega);have j:=e.2 k (by omega);have u:=zh hP e k (by omega);have F:=hP.gh k (by omega);have M:0<=iq P.orders X k*gt P.orders k:=Int.mul_nonneg u.1 (by omega);have N:iq P.orders X k*gt P.orders k<=729:=by simp only[iq] at h1;omega
   have O:0<=gt X k:=j.1;have Q:gt X k<=7:=by omega
   have G:(k:Int)<X.length:=by omega
   have H:(k:Int)<P.orders.length:=by omega
   have I:IntKind.i64.wrap (iq P.orders X k*gt P.orders k)=iq P.orders X k*gt P.orders k:=IntWalk.i64_in _ (by omega);have J:IntKind.i64.wrap (iq P.orders X k*gt P.orders k+gt X k)=iq P.orders X k*gt P.orders k+gt X k:=IntWalk.i64_in _ (by omega);clear h1 E j u F;go_wp2;go_quiet (fail)
   clear I J;go_wp2;go_roundw
   case rel=>exact⟨k+1,by go_num,rfl,by omega,dy l (iI _ _ _)⟩
   case measure=>simp[intOf];omega
  ·have r:k=P.orders.length:=by omega
   subst r;go_wp2;go_ret;exact⟨_,rfl,dy a l,rfl⟩
def gQ (o:List Int) (N:Nat) (m:Int):Nat->List Int × Int
 | 0=>(List.replicate N 0,m)
 | k+1=>
  let s:=gQ o N m k
  (s.1.set (N-1-k) (s.2%gt o (N-1-k)),s.2/gt o (N-1-k))
def fF (P:Pr) (m:Int):List Int:=(gQ P.orders P.orders.length m P.orders.length).1
theorem zi {P:Pr}(hP:Valid P) (m:Int) (b:0<=m) (k:Nat) (hk:k<=P.orders.length) :
  dL P.orders (gQ P.orders P.orders.length m k).1/\0<=(gQ P.orders P.orders.length m k).2/\(gQ P.orders P.orders.length m k).2<=m:=by
 induction k with
 | zero=>
  refine⟨⟨by simp[gQ],λi e => ?_⟩,b,Int.le_refl _⟩;have:=hP.gh i e;simp only[gQ];rw[jw];omega
 | succ k j=>
  obtain⟨h1,a,l⟩:=j (by omega);have p:=hP.gh (P.orders.length-1-k) (by omega);refine⟨h1.set _ _ ⟨Int.emod_nonneg _ (by omega),λ_=>Int.emod_lt_of_pos _ (by omega)⟩,Int.ediv_nonneg a (by omega),?_⟩;exact Int.le_trans (Int.ediv_le_self _ a) l
theorem rz {P:Pr}(hP:Valid P) (m:Int) (a:0<=m):dL P.orders (fF P m):=(zi hP m a _ (Nat.le_refl _)).1
set_option maxHeartbeats 400000 in
theorem De (P:Pr) (hP:Valid P) (w:World) (pv:Value) (e:Nat->Prop) (i:gy e w pv P) :
  Calls Tryz.prog 215 #[pv] w (fq w λw' v=>Own w.heap.size w' v (zeros P.orders.length)):=by
 obtain⟨vo,vp,vc,rfl,h3⟩:=i;have j:=hP.n6;have hB:=fB.box h3 28;obtain⟨k,iA,gJ,hoi⟩:=hB.iO;go_enter Tryz.func215,Tryz.ntmps215;go_wp2_with (at_make;refine lU rfl _ _ rfl (w.heap.size+1) P.orders.length (w.heap.size+1) (by simp) _ rfl rfl rfl (by omega) (by simp) ?_;intro l a b _)
 go_ret;exact⟨_,rfl,dy (World.grownBy_alloc _ _ _) b,a.weak (by omega)⟩
set_option maxHeartbeats 1000000 in
theorem E7 (P:Pr) (hP:Valid P) (w:World) (p:Value) (m:Int) (J:Nat->Prop) (C:fB J w p P) (K:0<=m) (N:m<=1000000000) :
  Calls Tryz.prog 136 #[p,.int .i64 m] w (fq w λw' v=>Own w.heap.size w' v (fF P m)):=by
 have O:=hP.n6;obtain⟨pb,po,rfl⟩:=C.shape;obtain⟨T,iA,oH,hoi⟩:=C.iO;have l:=oH;go_enter Tryz.func136,Tryz.ntmps136;go_wp2_with (at_make;refine lU rfl _ _ rfl w.heap.size P.orders.length w.heap.size rfl _ rfl rfl rfl (by omega) (by simp) ?_;intro U u y _)
 clear l;have q:=Lib.hid oH;clear oH
 go_loopw [1,6] (λmv i wr=>∃k:Nat,i=.int .i64 ((P.orders.length:Int)-1-k)/\mv=.int .i64 (gQ P.orders P.orders.length m k).2/\k<=P.orders.length/\Ext w wr /\
   Own w.heap.size wr (.slice (some ⟨w.heap.size,0,none⟩) P.orders.length P.orders.length) (gQ P.orders P.orders.length m k).1) (λ_ i _=>(intOf i+1).toNat)
 case atStart=>exact⟨0,by simp,rfl,by omega,y,u⟩
 case round=>
  obtain⟨k,rfl,rfl,hk,hg,hO⟩:=hrel;obtain⟨Q,hm0,hm1⟩:=zi hP m K k hk;by_cases z:k<P.orders.length
  ·obtain ⟨b2,off2,rfl,_,_,nT⟩:=Ints.at hoi (P.orders.length-1-k) (by omega)
   have l:=hg.cell q.out (by simp);have R:=hg.cell nT (by simp);have b:=hP.gh (P.orders.length-1-k) (by omega);have V:=hO.cell (P.orders.length-1-k) (by rw[Q.1];omega);have W:=hO.frozen (P.orders.length-1-k);have a:gQ P.orders P.orders.length m (k+1)=((gQ P.orders P.orders.length m k).1.set (P.orders.length-1-k) ((gQ P.orders P.orders.length m k).2%gt P.orders (P.orders.length-1-k)),(gQ P.orders P.orders.length m k).2/gt P.orders (P.orders.length-1-k)):=rfl;have r:=Lib.hid a;clear a;obtain⟨A,hg2⟩:=hO.store (P.orders.length-1-k) ((gQ P.orders P.orders.length m k).2%gt P.orders (P.orders.length-1-k));have e:Ext w (wr.setCell ⟨w.heap.size,P.orders.length-1-k,none⟩ (.int .i64 ((gQ P.orders P.orders.length m k).2%gt P.orders (P.orders.length-1-k)))):=fu hg hg2 (λj S z=>by cases S;omega);have D:=e.cell q.out (by simp);have E:=e.cell nT (by simp);clear nT;have F:((P.orders.length:Int)-1-k).toNat=P.orders.length-1-k:=by omega
   generalize G:P.orders.length-1-k=i at *;generalize (gQ P.orders P.orders.length m k).1=L at *;generalize (gQ P.orders P.orders.length m k).2=M at *;have H:2<=gt P.orders i:=b.1;have I:gt P.orders i<=7:=b.2;have X:=Lib.hid G;clear G b;go_wp2;go_roundw
   case rel=>exact⟨k+1,by congr 1;omega,by rw[r.out],by omega,e,by rw[r.out];exact A⟩
   case measure=>simp[intOf];omega
  ·have B:k=P.orders.length:=by omega
   subst B;go_wp2;go_ret;exact⟨_,rfl,hg,hO⟩
set_option maxHeartbeats 1000000 in
theorem Bj (P:Pr) (hP:Valid P) (w:World) (pv:Value) (m:Int) (W:Nat->Prop) (E:gy W w pv P) (X:0<=m) (Y:m<=1000000000) :
  Calls Tryz.prog 170 #[pv,.int .i64 m] w (fq w λw' v=>Own w.heap.size w' v (fF P m)):=by
 have Z:=hP.n6;obtain⟨vo,vp,vc,rfl,h3⟩:=E;have O:=fB.box h3 28;have F:Ext w (w.alloc (.cells #[vo,vp,vc] 28)):=World.grownBy_alloc _ _ _;obtain⟨aa,qZ,rT,_,_,hc0,hc1,A,kR⟩:=O.at;obtain⟨ao,iA,p,hoi⟩:=O.iO;go_enter Tryz.func170,Tryz.ntmps170;go_wp2_with fail
 have B:(w.alloc (.cells #[vo,vp,vc] 28)).heap.size=w.heap.size+1:=by simp
 have HS:=Lib.hid B;clear B;clear hc0 hc1 A;have C:=Lib.hid p;clear p;generalize G:w.alloc (.cells #[vo,vp,vc] 28)=w0 at *;clear G;refine Calls.mono (De P hP w0 _ Any ⟨_,_,_,rfl,kR⟩) ?_;rintro e1 w1 ⟨r,rfl,hg1,a⟩;have q:=a.ints (by simp[zeros];omega);obtain⟨H,b,rfl,_,_⟩:=q.shape;have l:(zeros P.orders.length).length=P.orders.length:=by simp[zeros]
 rw[l] at q;have a:Own w0.heap.size w1 (.slice H P.orders.length b) (zeros P.orders.length):=by rw[l] at a;exact a
 simp only[l];clear l q;go_wp2
 go_loopw [1,6] (λmv i wr=>∃k:Nat,i=.int .i64 ((P.orders.length:Int)-1-k)/\mv=.int .i64 (gQ P.orders P.orders.length m k).2/\k<=P.orders.length/\Ext w0 wr /\
   Own w0.heap.size wr (.slice H P.orders.length b) (gQ P.orders P.orders.length m k).1) (λ_ i _=>(intOf i+1).toNat)
 case atStart=>exact⟨0,by simp,rfl,by omega,hg1,a⟩
 case round=>
  clear a;obtain⟨k,rfl,rfl,hk,hg,hO⟩:=hrel;obtain⟨I,hm0,hm1⟩:=zi hP m X k hk;by_cases J:k<P.orders.length
  ·obtain ⟨g,jL,u,hgb,l5⟩:=hO.form (by rw[I.1];omega)
   rw[I.1] at u;obtain⟨rfl,_⟩:H=some ⟨g,0,none⟩/\b=jL:=by cases u;exact⟨rfl,rfl⟩
   clear u;obtain⟨b2,off2,rfl,_,_,nT⟩:=Ints.at hoi (P.orders.length-1-k) (by omega);have p:=hg.cell C.out (by simp);have A:=hg.cell nT (by simp);have y:=hP.gh (P.orders.length-1-k) (by omega);have hc:=hO.cell (P.orders.length-1-k) (by rw[I.1];omega);have hf:=hO.frozen (P.orders.length-1-k);have e:gQ P.orders P.orders.length m (k+1)=((gQ P.orders P.orders.length m k).1.set (P.orders.length-1-k) ((gQ P.orders P.orders.length m k).2%gt P.orders (P.orders.length-1-k)),(gQ P.orders P.orders.length m k).2/gt P.orders (P.orders.length-1-k)):=rfl;have D:=Lib.hid e;clear e;obtain⟨K,hg2⟩:=hO.store (P.orders.length-1-k) ((gQ P.orders P.orders.length m k).2%gt P.orders (P.orders.length-1-k));have z:Ext w0 (wr.setCell ⟨g,P.orders.length-1-k,none⟩ (.int .i64 ((gQ P.orders P.orders.length m k).2%gt P.orders (P.orders.length-1-k)))):=fu hg hg2 (λj hj J=>by cases hj;omega);have Q:=z.cell C.out (by simp);have R:=z.cell nT (by simp);clear nT;have S:((P.orders.length:Int)-1-k).toNat=P.orders.length-1-k:=by omega
   generalize T:P.orders.length-1-k=i at *;generalize (gQ P.orders P.orders.length m k).1=L at *;generalize (gQ P.orders P.orders.length m k).2=M at *;have U:2<=gt P.orders i:=y.1;have V:gt P.orders i<=7:=y.2;have HI:=Lib.hid T;clear T y;go_wp2;go_roundw
   case rel=>exact⟨k+1,by congr 1;omega,by rw[D.out],by omega,z,by rw[D.out];exact K⟩
   case measure=>simp[intOf];omega
  ·have N:k=P.orders.length:=by omega
   subst N;go_wp2;go_ret;exact⟨_,rfl,dy F hg,hO.weak (by have:=HS.out;omega)⟩
theorem qg:Tryz.prog.underlying 25=some (.slice 24):=by kernel_rfl
theorem Tryz.qh:(Tryz.prog.info? 24).map (λi=>(i.zero,i.size,i.bytes))=some (some (.slice none 0 0),1,24):=by kernel_rfl
theorem rA {j:Array Oper}{rest:List Oper}{o:Oper}{a:Act}{Q:Exit->Act->World->Prop}{w:World}(m:o.guard=none) (s x:Operand)
  (q:o.op=Op.call { callee:=Callee.builtin Builtin.append,args := #[s,x],argTypes := #[25,25] }) (B:Nat) (e i:World) (v u:Value) (xs:List (List Int)) (y:List Int) (r:a.eval s=v) (k:iL B e v xs)
  (z:Ext e i) (A:gf (From e.heap.size) i u y) (C:w=i.alloc (.cells #[u] 24)) (hx:a.eval x=.slice (some ⟨i.heap.size,0,none⟩) 1 1) (l:xs.length<=1000000) (b:B<=e.heap.size)
  (h:∀p w',iL B w' p (xs++[y])->e.grownBy w' v.ownBlock->i.grownBy w' v.ownBlock->wpList Tryz.prog j Q rest (a.put o.dst p) w') :
  wpList Tryz.prog j Q (o :: rest) a w:=
 Dl gX 25 24 (.slice none 0 0) 24 qg Tryz.qh rfl (by decide) m s x q B e i v u xs y r k z A C hx l b h
theorem gN.lt {α:Type} [Inhabited α] {El:(Nat->Prop)->World->Value->α->Prop}{E B:Nat}{w:World}{v:Value}{xs:List α}(h:gN El E B w v xs) (k:Nat) (hk:v.ownBlock=some k):B<=k/\k<w.heap.size:=by
 obtain⟨a,G,_,hO,_⟩:=h;exact hO.lt k hk
theorem gN.vn {α:Type} [Inhabited α] {El:(Nat->Prop)->World->Value->α->Prop}{E B:Nat}{w a b:World}{v:Value}{xs:List α}(h:gN El E B a v xs) (e:Ext w a) (hB:w.heap.size<=B) (k:a.grownBy b v.ownBlock):Ext w b:=
 fu e k (λj i l=>by have:=(h.lt j i).1;omega)
def jf (P:Pr):List (List Int):=(List.range (eW P).toNat).map (λk:Nat=>fF P (k:Int))
theorem QF {α:Type}(f:Nat->α) (k:Nat):(List.range (k+1)).map f=(List.range k).map f++[f k]:=by
 rw[List.range_succ,List.map_append];rfl
set_option maxHeartbeats 400000 in
theorem B4 (P:Pr) (hP:Valid P) (w:World) (p:Value) (l:Nat->Prop) (z:fB l w p P) :
  Calls Tryz.prog 88 #[p] w (fq w λw' v=>iL w.heap.size w' v (jf P)):=by
 have A:eW P<=729:=hP.mO;have B:=hP.kT;go_enter Tryz.func88,Tryz.ntmps88;go_wp2_with (go_at_call 87;refine(BL _ _ P l hP z).mono ?_;rintro H I ⟨rfl,rfl⟩)
 go_loopw [3,7] (λv i wr=>∃k:Nat,i=.int .i64 k/\k<=(eW P).toNat/\Ext w wr/\iL w.heap.size wr v ((List.range k).map (λk:Nat=>fF P (k:Int)))) (λ_ i _=>(eW P).toNat-(intOf i).toNat)
 case atStart=>exact⟨0,rfl,by omega,Ext.refl _,gN.nil _ _ _ _⟩
 case round=>
  obtain⟨k,rfl,hk,e,hO⟩:=hrel;by_cases E:(k:Int)<eW P
  ·go_wp2_with fail
   refine Calls.mono (E7 P hP wr p k l (z.ext e) (by omega) (by omega)) ?_;rintro J C ⟨r,rfl,m,hR⟩;have D:=rz hP (k:Int) (by omega);have a:gf (From wr.heap.size) C r (fF P k):=gf.of hR (by rw[D.1];have:=hP.n6;omega) (λj F _=>F);clear D;obtain⟨K,tQ,rfl,_,_⟩:=a.ints.shape;go_wp2_with (at_builtin;go_must (refine rA rfl _ _ rfl w.heap.size wr C _ _ _ (fF P k) rfl hO m a rfl rfl (by simp;omega) e.size ?_);intro L M b q G)
   have u:=hO.vn e (Nat.le_refl _) q;rw[<-QF (λk:Nat=>fF P (k:Int))] at b;go_roundw
   case rel=>exact⟨k+1,by go_num,by omega,u,b⟩
   case measure=>simp[intOf];omega
  ·have y:k=(eW P).toNat:=by omega
   subst y;go_wp2;go_ret;exact⟨_,rfl,e,hO⟩
theorem fT {α:Type} [Inhabited α] {l:List α}{i:Nat}(h:i<l.length):gt l i∈l:=by rw[gM l i h];exact List.getElem_mem h
theorem I3 (x:Int) (w:World):Calls Tryz.prog 219 #[.int .i64 x] w λe w'=>e=.returned (.bool (x != 0))/\w=w':=by
 go_enter Tryz.func219,Tryz.ntmps219;go_wp2;exact bodyPost_ret (v := .bool (x != 0)) (by simp[results,Tryz.results219,go_sem]) rfl ⟨rfl,rfl⟩
set_option maxHeartbeats 1000000 in
theorem I4 (v:Value) (X:List Int) (w:World) (S:Nat->Prop) (h:Ints S w v X) (q:dep X<X.length) :
  Calls Tryz.prog 218 #[v,.func (.func 219) #[] #[]] w λe w'=>e=.returned (.int .i64 (dep X))/\w=w':=by
 obtain⟨a,cap,rfl,_,_⟩:=h.shape;have r:=Lib.hid q;clear q;go_enter Tryz.func218,Tryz.ntmps218;go_wp2;go_loopw [8] (λv wr=>∃k:Nat,v=.int .i64 k/\k<=dep X/\w=wr) (λv _=>X.length-(intOf v).toNat)
 case atStart=>exact⟨0,rfl,by omega,rfl⟩
 case round=>
  obtain⟨k,rfl,hk,rfl⟩:=hrel;have l:k<X.length:=by have:=r.out;omega
  have u:(k:Int)<X.length:=by omega
  obtain⟨b,off,rfl,_,_,hc⟩:=Ints.at h k l;by_cases hx:gt X k=0
  ·have m:k≠dep X:=λe=>sU r.out (by rw[<-e];exact hx)
   have i:=I3 (gt X k) w;rw[show(gt X k != 0)=false by simp[hx]] at i;have p:=Lib.hid (And.intro hx m);clear hx m;go_wp2_with fail
   refine Calls.mono i ?_;rintro z A ⟨rfl,rfl⟩;clear i;go_wp2;go_roundw
   case rel=>exact⟨k+1,by go_num,by have:=p.out.2;omega,trivial⟩
   case measure=>simp[intOf];omega
  ·have y:dep X=k:=Bh l (λj B=>Bg (by omega)) hx
   have i:=I3 (gt X k) w;rw[show(gt X k != 0)=true by simp[hx]] at i;have p:=Lib.hid y;clear hx y;go_wp2_with fail
   refine Calls.mono i ?_;rintro z A ⟨rfl,rfl⟩;clear i;go_wp2;exact bodyPost_ret (v := .int .i64 k) (by simp[results,Tryz.results218,go_sem]) rfl ⟨by rw[p.out],rfl⟩
theorem yM (T E:Nat) (z:Value) (bytes:Nat) (C:Tryz.prog.underlying T=some (.slice E)) (D:(Tryz.prog.info? E).map (λi=>(i.zero,i.size,i.bytes))=some (some z,1,bytes))
  (p:z.cells.size=1) (q:bytes<=64) {e:Array Oper}{rest:List Oper}{o:Oper}{a:Act}{Q:Exit->Act->World->Prop}{w:World}(r:o.guard=none) (s x:Operand)
  (F:o.op=Op.call { callee:=Callee.builtin Builtin.append,args := #[s,x],argTypes := #[T,T] }) (B:Nat) (v u:Value) (xs:List Value) (G:a.eval s=v) (w0:World) (k:fK B E w0 v xs) (H:w=w0.alloc (.cells #[u] E)) (h1:u.oneCell'=true)
  (hx:a.eval x=.slice (some ⟨w0.heap.size,0,none⟩) 1 1) (A:xs.length<=1000000) (y:B<=w0.heap.size)
  (h:∀m w',fK B E w' m (xs++[u])->w0.grownBy w' v.ownBlock->wpList Tryz.prog e Q rest (a.put o.dst m) w') :
  wpList Tryz.prog e Q (o :: rest) a w:=by
 subst H;have b:Ext w0 (w0.alloc (.cells #[u] E)):=World.grownBy_alloc _ _ _;refine nX T E z bytes C D p q r s x F B v xs G (k.kept b (by cases K:v.ownBlock<;>simp)) (some ⟨w0.heap.size,0,none⟩) 1 1 [u] hx rfl (by simp) ?_ ?_ (by simp;omega) (by have:=b.size;omega) ?_
 ·intro j L
  have:j=0:=by omega
  subst this;exact⟨_,_,rfl,by rw[World.cell?_alloc_at _ _ _ _ rfl];rfl⟩
 ·intro M l
  simp at l;subst l;exact h1
 ·intro m w' I J _ _
  exact h m w' I (dy (fH _ b) J)
theorem C7:Tryz.prog.underlying 171=some (.slice 3):=by kernel_rfl
theorem Tryz.C8:(Tryz.prog.info? 3).map (λi=>(i.zero,i.size,i.bytes))=some (some (.int .i64 0),1,8):=by kernel_rfl
def ij (U:List (List Int)):List Value:=U.map (λz => .int .i64 (dep z))
set_option maxHeartbeats 1000000 in
theorem C5 (v:Value) (U:List (List Int)) (w:World) (S:Nat->Prop) (h:dK S w v U) (E:∀z∈U,dep z<z.length) (Q:U.length<=100000) :
  Calls Tryz.prog 162 #[v] w (fq w λw' r=>fK w.heap.size 3 w' r (ij U)):=by
 obtain⟨a,cap,rfl,_,_⟩:=Sl.shape h;have H:=Lib.hid E;clear E;go_enter Tryz.func162,Tryz.ntmps162;go_wp2;go_loopw [3,8] (λI p wr=>∃(k:Nat) (v4:Value),v4=I/\p=.int .i64 k/\k<=U.length/\Ext w wr/\fK w.heap.size 3 wr v4 (ij (U.take k))) (λ_ p _=>U.length-(intOf p).toNat)
 case atStart=>exact⟨0,_,rfl,rfl,by omega,Ext.refl _,World.ownsRow_nil _ _ _ _⟩
 case round=>
  obtain⟨k,v4,rfl,rfl,hk,m,hO⟩:=hrel;by_cases i:k<U.length
  ·obtain ⟨b,off,a2,jx,rfl,_,_,hc,J⟩:=dK.at (dK.ext h m) k i
   have e:ij (U.take (k+1))=ij (U.take k)++[.int .i64 (dep (gt U k))]:=by unfold ij;rw[je U k i,List.map_append];rfl
   have q:(ij (U.take k)).length<=1000000:=by unfold ij;rw[List.length_map,List.length_take];omega
   have K:=Lib.hid e;clear e;have F:(k:Int)<U.length:=by omega
   go_wp2_with fail
   refine Calls.mono (I4 _ (gt U k) wr _ J (H.out _ (fT i))) ?_;rintro R T ⟨rfl,rfl⟩;go_wp2_with (first|(at_builtin;refine yM 171 3 (.int .i64 0) 8 C7 Tryz.C8 rfl (by decide) rfl _ _ rfl w.heap.size v4 _ (ij (U.take k)) rfl wr hO rfl rfl rfl q m.size ?_;intro L M u y)|fail)
   have A:Ext w M:=fu m y (λj N i=>by have:=(hO.lt j N).1;omega);go_roundw
   case rel=>exact⟨k+1,L,rfl,by go_num,by omega,A,by rw[K.out];exact u⟩
   case measure=>simp[intOf];omega
  ·have B:k=U.length:=by omega
   subst B;rw[List.take_length] at hO
   have C:∃G l,v4=.slice G U.length l:=by
    rcases hO.form with⟨h1,D⟩|⟨g,cp,h1,_⟩
    ·have O:U.length=0:=by unfold ij at D;rw[List.map_eq_nil_iff] at D;rw[D];rfl
     exact⟨none,0,by rw[h1,O]⟩
    ·exact⟨_,_,by rw[h1];unfold ij;rw[List.length_map]⟩
   obtain⟨G,l,rfl⟩:=C;go_wp2;go_ret;exact⟨_,rfl,m,hO⟩
theorem Tryz.Ge:(Tryz.prog.info? 25).map (λi=>(i.zero,i.size,i.bytes))=some (some (.slice none 0 0),1,24):=by kernel_rfl
theorem Gd:Tryz.prog.underlying 26=some (.slice 25):=by kernel_rfl
def fG (W:World) (b:Nat) (a e i:Value):Prop:=
 b<W.heap.size/\W.cell? ⟨b,0,none⟩=some a/\W.cell? ⟨b,1,none⟩=some e/\W.cell? ⟨b,2,none⟩=some i/\∀k,W.frozen? ⟨b,k,none⟩=false
theorem fG.ext {W e:World}{b:Nat}{i j l:Value}(h:fG W b i j l) (a:Ext W e):fG e b i j l:=by
 obtain⟨m,h1,h2,h3,p⟩:=h;exact⟨Nat.lt_of_lt_of_le m a.size,a.cell h1 (by simp),a.cell h2 (by simp),a.cell h3 (by simp),λk=>(World.frozen?_of_block (w:=W) (a.block b m (by simp))).trans (p k)⟩
theorem fG.put {W:World}{b:Nat}{a e i:Value}(h:fG W b a e i) (v:Value) :
  fG (W.setCell ⟨b,0,none⟩ v) b v e i/\fG (W.setCell ⟨b,1,none⟩ v) b a v i/\fG (W.setCell ⟨b,2,none⟩ v) b a e v:=by
 obtain⟨q,h1,m,p,j⟩:=h;have l:∀k,b<(W.setCell ⟨b,k,none⟩ v).heap.size:=λk=>by simpa [World.setCell] using q
 refine⟨⟨l 0,World.cell?_setCell_same _ _ _ h1,?_,?_,λk=>by simp[j]⟩,⟨l 1,?_,World.cell?_setCell_same _ _ _ m,?_,λk=>by simp[j]⟩,⟨l 2,?_,?_,World.cell?_setCell_same _ _ _ p,λk=>by simp[j]⟩⟩
 all_goals first
  | exact(World.cell?_setCell_other _ _ _ _ (by simp)).trans h1
  | exact(World.cell?_setCell_other _ _ _ _ (by simp)).trans m
  | exact(World.cell?_setCell_other _ _ _ _ (by simp)).trans p
theorem fG.made (w:World) (T:Nat) (a b e:Value):fG (w.alloc (.cells #[a,b,e] T)) w.heap.size a b e:=by
 refine⟨by simp,?_,?_,?_,λk=>World.frozen?_alloc_at _ _ _ _ rfl⟩<;>(rw[World.cell?_alloc_at _ _ _ _ rfl];rfl)
structure Touch (F:Nat->Prop) (w w':World):Prop where
 os:w'.os=w.os
 tape:w'.tape=w.tape
 output:w'.output=w.output
 size:w.heap.size<=w'.heap.size
 block:∀k,k<w.heap.size->¬F k->w'.heap[k]? = w.heap[k]?
theorem Touch.of {F:Nat->Prop}{w w':World}{r:Option Nat}(h:w.grownBy w' r) (a:∀k,r=some k->F k):Touch F w w':=
 ⟨h.os,h.tape,h.output,h.size,λk hk hF=>h.block k hk (λe=>hF (a k e.symm))⟩
theorem fG.keep {W a:World}{b:Nat}{i j l:Value}(h:fG W b i j l) (m:W.heap.size<=a.heap.size) (e:a.heap[b]? = W.heap[b]?):fG a b i j l:=by
 obtain⟨c0,c1,c2,c3,c4⟩:=h;exact⟨Nat.lt_of_lt_of_le c0 m,(World.cell?_of_block (w:=W) e).trans c1,(World.cell?_of_block (w:=W) e).trans c2,(World.cell?_of_block (w:=W) e).trans c3,λk=>(World.frozen?_of_block (w:=W) e).trans (c4 k)⟩
def iH (B E:Nat) (w:World) (v:Value) (b:List Value):Prop:=
 (v=.slice none 0 0/\b=[])\/∃g off cap a,v=.slice (some ⟨g,off,none⟩) b.length cap/\B<=g/\w.heap[g]? = some (.cells a E (0,0))/\b.length<=cap/\cap<=maxLen/\off+cap<=a.size/\∀i,i<b.length->a[off+i]? = some (gt b i)
theorem iH.nil (B E:Nat) (w:World):iH B E w (.slice none 0 0) [] := .inl ⟨rfl,rfl⟩
theorem iH.lt {B E:Nat}{w:World}{v:Value}{a:List Value}(h:iH B E w v a) (k:Nat) (hk:v.ownBlock=some k):B<=k/\k<w.heap.size:=by
 rcases h with⟨rfl,_⟩|⟨g,off,cap,cur,rfl,hb,b,_⟩
 ·simp[Value.ownBlock] at hk
 ·simp [Value.ownBlock] at hk
  subst hk;exact⟨hb,(Array.getElem?_eq_some_iff.1 b).1⟩
theorem iH.of {B E:Nat}{w:World}{v:Value}{b:List Value}(h:fK B E w v b):iH B E w v b:=by
 obtain⟨h1,h|⟨g,cap,a,hv,hg,hb,hnc,hcm,hsz,hx⟩⟩:=h
 ·exact .inl ⟨h.1,List.eq_nil_of_length_eq_zero h.2⟩
 ·refine .inr ⟨g,0,cap,a,hv,hg,hb,hnc,hcm,by omega,λi j => ?_⟩
  have e:(a.toList.take (b.length*1))[i]? = b[i]? :=by rw[hx]
  rw[List.getElem?_take_of_lt (by omega)] at e;rw[Nat.zero_add,<-Array.getElem?_toList,e];simp[gt,j]
theorem iH.kept {B E:Nat}{w w':World}{v:Value}{a:List Value}(h:iH B E w v a) (b:∀k,v.ownBlock=some k->w'.heap[k]? = w.heap[k]?):iH B E w' v a:=by
 rcases h with h|⟨g,off,cap,cur,rfl,h1,h2,r⟩
 ·exact .inl h
 ·exact .inr ⟨g,off,cap,cur,rfl,h1,by rw[b g rfl];exact h2,r⟩
theorem iH.weak {B B' E:Nat}{w:World}{v:Value}{a:List Value}(h:iH B E w v a) (b:B'<=B):iH B' E w v a:=by
 rcases h with h|⟨g,off,cap,cur,hv,h1,r⟩
 ·exact .inl h
 ·exact .inr ⟨g,off,cap,cur,hv,Nat.le_trans b h1,r⟩
theorem iH.shape {B E:Nat}{w:World}{v:Value}{b:List Value}(h:iH B E w v b):∃a cap,v=.slice a b.length cap/\b.length<=maxLen:=by
 rcases h with⟨rfl,rfl⟩|⟨g,off,cap,cur,rfl,_,_,h1,h2,_⟩
 ·exact⟨none,0,rfl,by simp⟩
 ·exact⟨_,_,rfl,Nat.le_trans h1 h2⟩
theorem iH.at {B E n cap:Nat}{w:World}{a:Option Addr}{b:List Value}(h:iH B E w (.slice a n cap) b) (i:Nat) (e:i<b.length):∃g off,a=some ⟨g,off,none⟩/\B<=g/\g<w.heap.size/\w.cell? ⟨g,off+i,none⟩=some (gt b i):=by
 rcases h with⟨_,rfl⟩|⟨g,off,cap',cur,hv,hb,j,h1,h2,h3,h4⟩
 ·simp at e
 ·cases hv
  refine⟨g,off,rfl,hb,(Array.getElem?_eq_some_iff.1 j).1,?_⟩;simp only[World.cell?,j,Option.isSome_none,Bool.false_eq_true,if_false];exact h4 i e
theorem iH.tail {B E n cap:Nat}{w:World}{a:Option Addr}{x:Value}{b:List Value}(h:iH B E w (.slice a n cap) (x :: b)):iH B E w (nB (.slice a n cap) 1 n) b:=by
 rcases h with⟨_,h⟩|⟨g,off,cap',cur,j,hb,hg,h1,h2,h3,k⟩
 ·cases h
 ·simp only[Value.slice.injEq] at j
  obtain⟨rfl,rfl,rfl⟩:=j;simp only[List.length_cons] at h1 k ⊢;unfold nB;simp only[Nat.add_sub_cancel];by_cases e:cap=1
  ·have l:b=[]:=List.eq_nil_of_length_eq_zero (by omega)
   subst l;rw[if_pos e];refine .inr ⟨g,off,0,cur,?_,hb,hg,by simp,by simp,by omega,by simp⟩;subst e;rfl
  ·rw [if_neg e]
   refine .inr ⟨g,off+1,cap-1,cur,by simp[Addr.add],hb,hg,by omega,by omega,by omega,λi m => ?_⟩;have:=k (i+1) (by omega);rw[show off+1+i=off+(i+1) by omega,this];simp[gt]
theorem iH.I5 {a:Option Addr}{n cap:Nat}(k:Nat) (h:(nB (.slice a n cap) 1 n).ownBlock=some k):(Value.slice a n cap).ownBlock=some k:=by
 unfold nB at h;cases a with
 | none=>simp[Value.ownBlock] at h
 | some a=>
  by_cases e:cap=1
  ·simp only[if_pos e] at h;exact h
  ·simp only[if_neg e,Option.map_some,Value.ownBlock] at h ⊢
   unfold Addr.add at h;simpa using h
theorem QH (T E:Nat) (z:Value) (bytes:Nat) (U:Tryz.prog.underlying T=some (.slice E)) (V:(Tryz.prog.info? E).map (λi=>(i.zero,i.size,i.bytes))=some (some z,1,bytes))
  (B:z.cells.size=1) (C:bytes<=64) {D:Array Oper}{rest:List Oper}{o:Oper}{a:Act}{Q:Exit->Act->World->Prop}{w:World}(F:o.guard=none) (s x:Operand)
  (W:o.op=Op.call { callee:=Callee.builtin Builtin.append,args := #[s,x],argTypes := #[T,T] }) (base:Nat) (v:Value) (xs:List Value) (X:a.eval s=v) (G:iH base E w v xs)
  (H:Nat) (u:Value) (hx:a.eval x=.slice (some ⟨H,0,none⟩) 1 1) (Y:w.cell? ⟨H,0,none⟩=some u) (h1:u.oneCell'=true) (Z:xs.length<=1000000) (y:base<=w.heap.size)
  (h:∀q w',iH base E w' q (xs++[u])->w.grownBy w' v.ownBlock->(q.ownBlock=v.ownBlock\/∀k,q.ownBlock=some k->w.heap.size<=k)->wpList Tryz.prog D Q rest (a.put o.dst q) w') :
  wpList Tryz.prog D Q (o :: rest) a w:=by
 rcases G with⟨rfl,rfl⟩|⟨g,off,cap,cur,rfl,hb,I,hnc,hcm,hsz,hc⟩
 ·refine nX T E z bytes U V B C F s x W base (.slice none 0 0) [] X (World.ownsRow_nil _ _ _ _) (some ⟨H,0,none⟩) 1 1 [u] hx rfl (by simp) ?_ ?_ (by simp) y ?_
  ·intro j b
   have:j=0:=by omega
   subst this;exact⟨H,0,rfl,Y⟩
  ·intro K l
   simp at l;subst l;exact h1
  ·intro q w' J L _ k4
   exact h q w' (iH.of J) L (k4.imp id (λe k hk=>by rw[e] at hk;cases hk;exact Nat.le_refl _))
 ·obtain ⟨i0,M,hz0,hz1,hz2⟩:=info_parts V
  have ad:g<w.heap.size:=(Array.getElem?_eq_some_iff.1 I).1
  have m:∀i,i<cur.size->w.cell? ⟨g,i,none⟩=cur[i]? :=λi _=>by
   simp only[World.cell?,I,Option.isSome_none,Bool.false_eq_true,if_false]
  refine wpList_append_arg w F s x T W E i0 z 1 bytes U M hz0 hz1 hz2 B (by decide) g off xs.length cap xs X (by omega) ?_ ⟨H,0,none⟩ 1 1 [u] hx rfl ?_ ?_ ?_ (by unfold maxLen;omega) (by have:=Nat.mul_le_mul (show xs.length+1<=1000001 by omega) C;omega) ?_ ?_
  ·intro j K b
   have N:j<xs.length:=by
    rcases Nat.lt_or_ge j xs.length with h|h
    ·exact h
    ·rw[List.getElem?_eq_none h] at b;cases b
   rw[m _ (by omega),hc j N];simp[gt,b]
  ·intro j K b
   match j,b with
   | 0,b=>
    simp at b;subst b
    simpa [Addr.add] using Y
  ·intro K l
   simp at l;subst l;exact h1
  ·intro p j b
   have:j=0:=by simpa using b
   subst this;refine⟨?_,?_⟩
   ·rw[m _ (by omega),Array.getElem?_eq_getElem (by omega)];rfl
   ·simp[World.frozen?,I]
  ·intro p
   have e:w.setCells g (off+xs.length*1) [u]=w.setCell ⟨g,off+xs.length,none⟩ u:=by
    simp[World.setCells]
   rw[e];refine h _ _ (.inr ⟨g,off,cap,cur.setIfInBounds (off+xs.length) u,by simp,hb,?_,by simpa using p,hcm,by simpa using hsz,λi M => ?_⟩) ?_ (.inl rfl)
   ·simp only[World.setCell,Array.getElem?_modify,if_true,I,Option.map_some]
    simp
   ·simp only[List.length_append,List.length_singleton] at M
    by_cases ei:i=xs.length
    ·subst ei
     rw[kr,Array.getElem?_setIfInBounds_self];simp;omega
    ·rw [iX _ _ _ (by omega),Array.getElem?_setIfInBounds_ne (by omega)]
     exact hc i (by omega)
   ·exact⟨rfl,rfl,rfl,by simp[World.setCell],λk hk O=>Below.heap_setCell _ _ _ _ (by intro e2;exact O (by rw[e2];rfl))⟩
  ·intro R q w' J L
   have k3:fK base E w' q (xs++[u]):=by
    unfold fK;rw[List.length_append];obtain⟨S,A⟩:=J;refine⟨S,?_⟩;rcases A with h|⟨g',cap',cur',hv,hg',r⟩
    ·exact .inl h
    ·exact .inr ⟨g',cap',cur',hv,by omega,r⟩
   refine h q w' (iH.of k3) (fH _ L) (.inr (λk hk => ?_));obtain⟨_,A⟩:=J;rcases A with h|⟨g',cap',cur',rfl,hg',r⟩
   ·rw[h.1] at hk;simp[Value.ownBlock] at hk
   ·simp [Value.ownBlock] at hk
    omega
def gL (bad:Nat->Prop) (B:Nat) (w:World) (v:Value) (xs:List (List Int)):Prop:=
 ∃a,a.length=xs.length/\iH B 24 w v a/\∀i,i<xs.length->Ints (λk=>¬bad k/\v.ownBlock≠some k) w (gt a i) (gt xs i)
theorem gL.nil (bad:Nat->Prop) (B:Nat) (w:World):gL bad B w (.slice none 0 0) []:=⟨[],rfl,iH.nil _ _ _,by simp⟩
theorem gL.shape {bad:Nat->Prop}{B:Nat}{w:World}{v:Value}{xs:List (List Int)}(h:gL bad B w v xs):∃a cap,v=.slice a xs.length cap/\xs.length<=maxLen:=by
 obtain⟨e,b,hq,_⟩:=h;obtain⟨a,cap,rfl,hm⟩:=hq.shape;exact⟨a,cap,by rw[b],by omega⟩
theorem gL.lt {bad:Nat->Prop}{B:Nat}{w:World}{v:Value}{xs:List (List Int)}(h:gL bad B w v xs) (k:Nat) (hk:v.ownBlock=some k):B<=k/\k<w.heap.size:=by
 obtain⟨a,_,hq,_⟩:=h;exact hq.lt k hk
theorem gL.kept {bad p9:Nat->Prop}{B:Nat}{w w':World}{v:Value}{xs:List (List Int)}(h:gL bad B w v xs) (j:w.heap.size<=w'.heap.size) (e:∀k,k<w.heap.size->(v.ownBlock=some k\/¬bad k)->w'.heap[k]? = w.heap[k]?)
  (b:∀k,k<w.heap.size->p9 k->bad k):gL p9 B w' v xs:=by
 obtain⟨l,hl,hq,m⟩:=h;have a:=hq.lt;refine⟨l,hl,hq.kept (λk hk=>e k (a k hk).2 (.inl hk)),λi p=>Ints.mono (m i p) (λk hk a=>⟨⟨λh=>hk.1 (b k a h),hk.2⟩,Nat.lt_of_lt_of_le a j,e k a (.inr hk.1)⟩)⟩
theorem gL.ext {bad:Nat->Prop}{B:Nat}{w w':World}{v:Value}{xs:List (List Int)}(h:gL bad B w v xs) (a:Ext w w'):gL bad B w' v xs:=
 h.kept a.size (λk hk _=>a.block k hk (by simp)) (λ_ _ h=>h)
theorem gL.head {bad:Nat->Prop}{B n cap:Nat}{w:World}{a:Option Addr}{xs:List (List Int)}(h:gL bad B w (.slice a n cap) xs) (i:Nat) (b:i<xs.length) :
  ∃g off u,a=some ⟨g,off,none⟩/\B<=g/\g<w.heap.size/\w.cell? ⟨g,off+i,none⟩=some u/\Ints (λk=>¬bad k/\k≠g) w u (gt xs i):=by
 obtain⟨l,hl,hq,j⟩:=h;obtain⟨g,off,rfl,h1,h2,h3⟩:=hq.at i (by omega);exact⟨g,off,_,rfl,h1,h2,h3,Ints.sub (j i b) (λk hk _=>⟨hk.1,λe=>hk.2 (by rw[e];rfl)⟩)⟩
theorem gL.tail {bad:Nat->Prop}{B n cap:Nat}{w:World}{a:Option Addr}{x:List Int}{xs:List (List Int)}(h:gL bad B w (.slice a n cap) (x :: xs)):gL bad B w (nB (.slice a n cap) 1 n) xs:=by
 obtain⟨b,hl,hq,hr⟩:=h;cases b with
 | nil=>simp at hl
 | cons u b=>
  refine⟨b,by simpa using hl,hq.tail,λi j => ?_⟩;have l:=hr (i+1) (by simpa using j);have m:Ints (λk=>¬bad k/\(Value.slice a n cap).ownBlock≠some k) w (gt b i) (gt xs i):=by simpa [gt] using l
  exact Ints.sub m (λk hk _=>⟨hk.1,λe=>hk.2 (iH.I5 k e)⟩)
theorem zj {p:Array Oper}{rest:List Oper}{o:Oper}{a:Act}{Q:Exit->Act->World->Prop}{w:World}(C:o.guard=none) (s x:Operand)
  (L:o.op=Op.call { callee:=Callee.builtin Builtin.append,args := #[s,x],argTypes := #[25,25] }) (bad:Nat->Prop) (B:Nat) (v u:Value) (xs:List (List Int)) (y:List Int) (M:a.eval s=v) (w0:World) (q:gL bad B w0 v xs)
  (N:w=w0.alloc (.cells #[u] 24)) (H:Ints (λk=>¬bad k/\v.ownBlock≠some k) w0 u y) (hx:a.eval x=.slice (some ⟨w0.heap.size,0,none⟩) 1 1) (I:xs.length<=1000000) (D:B<=w0.heap.size)
  (h:∀j w',gL bad B w' j (xs++[y])->w0.grownBy w' v.ownBlock->(j.ownBlock=v.ownBlock\/∀k,j.ownBlock=some k->w0.heap.size<=k)->wpList Tryz.prog p Q rest (a.put o.dst j) w') :
  wpList Tryz.prog p Q (o :: rest) a w:=by
 subst N;obtain⟨E,J,hq,O⟩:=q;have l:Ext w0 (w0.alloc (.cells #[u] 24)):=World.grownBy_alloc _ _ _;have b:=hq.lt;have F:iH B 24 (w0.alloc (.cells #[u] 24)) v E:=hq.kept (λk hk=>l.block k (b k hk).2 (by simp));have r:u.oneCell'=true:=vW.one H;refine QH 25 24 (.slice none 0 0) 24 qg Tryz.qh rfl (by decide) C s x L B v E M F w0.heap.size u hx (by rw[World.cell?_alloc_at _ _ _ _ rfl];rfl) r (by omega) (by have:=l.size;omega) ?_;intro j w' h1 R K;have m:w0.grownBy w' v.ownBlock:=dy (fH _ l) R
 have z:∀k,k<w0.heap.size->j.ownBlock=some k->v.ownBlock=some k:=λk hk e=>by
  rcases K with h|h
  ·rw[<-h];exact e
  ·have:=h k e;simp at this;omega
 refine h j w' ⟨E++[u],by simp[J],h1,λi S => ?_⟩ m (K.imp id (λh k hk=>by have:=h k hk;simp at this;omega));simp only[List.length_append,List.length_singleton] at S
 have A:∀k,(¬bad k/\v.ownBlock≠some k)->k<w0.heap.size->(¬bad k/\j.ownBlock≠some k)/\k<w'.heap.size/\w'.heap[k]? = w0.heap[k]? :=λk hk b=>
  ⟨⟨hk.1,λe=>hk.2 (z k b e)⟩,Nat.lt_of_lt_of_le b m.size,m.block k b (λe=>hk.2 e.symm)⟩
 by_cases b:i<xs.length
 ·rw [iX _ _ _ (by omega),iX _ _ _ b]
  exact Ints.mono (O i b) A
 ·have G:i=xs.length:=by omega
  subst G;rw[kr,<-J,kr];exact Ints.mono H A
end Go.Proofs.YtoakmefajbbggaaGreat
