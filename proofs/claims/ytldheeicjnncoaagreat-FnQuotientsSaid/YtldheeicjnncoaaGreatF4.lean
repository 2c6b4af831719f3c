/- Merged from templates. -/
import Derived.Test.YtldheeicjnncoaaGreatF3
import Derived.ArgAppend
namespace Go.Proofs.YtldheeicjnncoaaGreat
section
variable {P:Pr}{f i:Nat}
theorem rImage_zeros:rImage P f i (zeros P.orders.length)=zeros P.orders.length:=by
 unfold rImage;rw[rImgTo_acc];exact acc_zero _ _ _ _ _ (λj _ _=>gt_replicate _ _)
theorem rAt_res (hP:Valid P) (hi:i+(f+1)=P.orders.length) {x y:List Int}(hx:T P (i+1) x) (hy:T P (i+1) y):rAt P (f+1) i x y=rAt P f (i+1) x y:=by
 have b:=hP.ord7 i (by omega);have h:=prV_mul hP hi (0,x) (0,y) ⟨by show 0<_;omega,hx⟩ ⟨by show 0<_;omega,hy⟩;have a:∀x,T P (i+1) x->prV i (0,x)=x:=λx hx=>set_zero_of hx;rw[a x hx,a y hy] at h;rw[h];unfold exm;simp only[Nat.add_zero,if_neg (by omega:¬(gt P.orders i).toNat<=0)];exact a _ (rAt_T hP f (i+1) x y (by omega) hx.1 hy.1)
theorem gen_pow (hP:Valid P) (hi:i+(f+1)=P.orders.length) (b:Lvl P f (i+1)) (k:Nat) (hk:k<(gt P.orders i).toNat) :
  iter k (λy=>rAt P (f+1) i y (unitV P.orders.length i)) (zeros P.orders.length)=prV i (k,zeros P.orders.length):=by
 have a:T P (i+1) (zeros P.orders.length):=T.zeros hP _;induction k with
 | zero=>exact(set_zero_of a).symm
 | succ k e=>
  show rAt P (f+1) i (iter k _ _) (unitV P.orders.length i)=_
  have u1:unitV P.orders.length i=prV i (1,zeros P.orders.length):=by unfold prV unitV zeros;rfl
  rw[e (by omega),u1,prV_mul hP hi _ _ ⟨by show k<_;omega,a⟩ ⟨by show 1<_;omega,a⟩];unfold exm;simp only[if_neg (by omega:¬(gt P.orders i).toNat<=k+1)];show prV i (k+1,rAt P f (i+1) (rImage P f i (zeros P.orders.length)) (zeros P.orders.length))=_
  rw[rImage_zeros,b.grp.el _ a]
theorem vec_head (hP:Valid P) (hi:i+(f+1)=P.orders.length) (j:Lvl P f (i+1)) {x:List Int}(hx:T P i x) :
  rAt P (f+1) i (prV i ((gt x i).toNat,zeros P.orders.length)) (x.set i 0)=x:=by
 have a:i<P.orders.length:=by omega
 have l:=hx.1.2 i a;have b:=hx.drop hP a;have m:T P (i+1) (zeros P.orders.length):=T.zeros hP _;have e:=prV_mul hP hi ((gt x i).toNat,zeros P.orders.length) (0,x.set i 0) ⟨by show(gt x i).toNat<_;omega,m⟩ ⟨by show 0<_;omega,b⟩;have p:prV i (0,x.set i 0)=x.set i 0:=set_zero_of b;rw[p] at e;rw[e];unfold exm;simp only[Nat.add_zero,if_neg (by omega:¬(gt P.orders i).toNat<=(gt x i).toNat)];show prV i ((gt x i).toNat,rAt P f (i+1) (zeros P.orders.length) (x.set i 0))=x
 rw[j.grp.el _ b];unfold prV;simp only[List.set_set];refine ext_gt (by simp) (λk hk => ?_);rw[List.length_set] at hk;rw[gt_set_if _ _ _ _ hk];split
 ·rename_i h;subst h;omega
 ·rfl
theorem rFrom_inv (G:Grp P) (f:Nat):∀(i:Nat) (x:List Int),i+f=P.orders.length->T P i x->T P i (rFrom P f i x)/\rAt P f i x (rFrom P f i x)=zeros P.orders.length:=by
 have hP:=G.v;induction f with
 | zero=>intro i x _ _;exact⟨T.zeros hP i,rfl⟩
 | succ f H=>
  intro i x hi hx;have e:i<P.orders.length:=by omega
  have L:=G.tail hi;have p:=G.tail (f:=f) (i:=i+1) (by omega);have Y:=hP.ord7 i e;have K:=hx.1.2 i e;have B:=hx.drop hP e;obtain⟨h1,C⟩:=H (i+1) _ (by omega) B;have k:T P i (rFrom P f (i+1) (x.set i 0)):=h1.down (by omega);simp only[rFrom];by_cases w:gt x i=0
  ·rw [if_pos w]
   have ex:x.set i 0=x:=set_zero_of (hx.up w);rw[ex] at k C ⊢;rw[ex] at h1;exact⟨k,by rw[rAt_res hP hi (hx.up w) h1];exact C⟩
  ·rw [if_neg w]
   have A:=pw_T (i:=i) hP e;obtain⟨I,h4⟩:=H (i+1) _ (by omega) A;have D:T P i (prV i ((gt P.orders i-gt x i).toNat,zeros P.orders.length)):=prV_T hP e ⟨by show(gt P.orders i-gt x i).toNat<_;omega,T.zeros hP _⟩;have q:T P i (prV i ((gt x i).toNat,zeros P.orders.length)):=prV_T hP e ⟨by show(gt x i).toNat<_;omega,T.zeros hP _⟩
   have N:(zeros P.orders.length).set i (gt P.orders i-gt x i)=prV i ((gt P.orders i-gt x i).toNat,zeros P.orders.length):=by
    unfold prV;simp only;rw[show(((gt P.orders i-gt x i).toNat:Nat):Int)=gt P.orders i-gt x i by omega]
   rw[N];have M:=L.grp.toMonOn;have r:T P i (rFrom P f (i+1) (gt P.powers i)):=I.down (by omega);have E:T P i (x.set i 0):=B.down (by omega);have O:T P i (gt P.powers i):=A.down (by omega);refine⟨M.cl _ _ (M.cl _ _ k D) r,?_⟩;have Q:=T.unit hP (Nat.le_refl i) e;have R:rAt P (f+1) i (x.set i 0) (rFrom P f (i+1) (x.set i 0))=zeros P.orders.length:=by rw[rAt_res hP hi B h1];exact C
   have S:rAt P (f+1) i (gt P.powers i) (rFrom P f (i+1) (gt P.powers i))=zeros P.orders.length:=by rw[rAt_res hP hi A I];exact h4
   have U:rAt P (f+1) i (prV i ((gt x i).toNat,zeros P.orders.length)) (prV i ((gt P.orders i-gt x i).toNat,zeros P.orders.length))=gt P.powers i:=by
    rw[<-gen_pow hP hi p _ (by omega),<-gen_pow hP hi p _ (by omega),<-M.pow_add Q,show(gt x i).toNat+(gt P.orders i-gt x i).toNat=(gt P.orders i).toNat by omega,L.rel.pw i (Nat.le_refl _) e];rw[show P.orders.length-(i+1)=f by omega];have:=p.nf _ A
    have hr:=(acc_rel (λ(y z:List Int)=>T P (i+1) z/\y=z) (λy j=>rAt P (f+1) i y (unitV P.orders.length j)) (λy j=>rAt P f (i+1) y (unitV P.orders.length j)) (gt P.powers i) (i+1) (zeros P.orders.length) (zeros P.orders.length) f ⟨p.grp.one,rfl⟩ (by
     rintro y z l ⟨J,rfl⟩ a b _;have u:T P (i+1) (unitV P.orders.length l):=T.unit hP (by omega) (by omega);exact⟨p.grp.cl _ _ J u,rAt_res hP hi J u⟩)).2
    exact hr.trans this
   have F:=vec_head hP hi p hx
   have m:rAt P (f+1) i x (rAt P (f+1) i (rAt P (f+1) i (rFrom P f (i+1) (x.set i 0)) (prV i ((gt P.orders i-gt x i).toNat,zeros P.orders.length))) (rFrom P f (i+1) (gt P.powers i)))=zeros P.orders.length:=by
    have V:=M.cl _ _ k D;rw[<-M.ass _ _ _ hx V r,<-M.ass _ _ _ hx k D]
    have W:rAt P (f+1) i x (rFrom P f (i+1) (x.set i 0))=prV i ((gt x i).toNat,zeros P.orders.length):=by
     have X:rAt P (f+1) i x (rFrom P f (i+1) (x.set i 0))=rAt P (f+1) i (rAt P (f+1) i (prV i ((gt x i).toNat,zeros P.orders.length)) (x.set i 0)) (rFrom P f (i+1) (x.set i 0)):=by rw[F]
     rw[X,M.ass _ _ _ q E k,R,M.er _ q]
    rw[W,U,S]
   exact m
end
section
variable {P:Pr}(G:Grp P)
include G
theorem Grp.mul_inv {x:List Int}(hx:Vec P.orders x):rMul P x (rInv P x)=zeros P.orders.length:=(rFrom_inv G P.orders.length 0 x (by omega) (T_zero.2 hx)).2
theorem Grp.inv_mul {x:List Int}(hx:Vec P.orders x):rMul P (rInv P x) x=zeros P.orders.length:=G.grp.right_left hx (rInv_vec G.v x hx) (G.mul_inv hx)
theorem Grp.mulV {x y:List Int}(hx:Vec P.orders x) (hy:Vec P.orders y):Vec P.orders (rMul P x y):=G.grp.cl _ _ hx hy
theorem Grp.invV {x:List Int}(hx:Vec P.orders x):Vec P.orders (rInv P x):=rInv_vec G.v x hx
theorem Grp.ass {x y z:List Int}(hx:Vec P.orders x) (hy:Vec P.orders y) (a:Vec P.orders z):rMul P (rMul P x y) z=rMul P x (rMul P y z):=G.grp.ass x y z hx hy a
theorem Grp.oneV:Vec P.orders (zeros P.orders.length):=zeros_vec G.v
theorem Grp.conjV {x y:List Int}(hx:Vec P.orders x) (hy:Vec P.orders y):Vec P.orders (rConj P x y):=G.mulV (G.invV hy) (G.mulV hx hy)
theorem Grp.iInv_eq {x:List Int}(hx:Vec P.orders x):iInv P x=rInv P x:=
 G.grp.cancel hx (iInv_vec G.v x hx) (G.invV hx) (by rw[G.iInv_mul hx,G.mul_inv hx])
theorem Grp.iConj_eq {x y:List Int}(hx:Vec P.orders x) (hy:Vec P.orders y):iConj P x y=rConj P x y:=by
 unfold iConj rConj;rw[G.iInv_eq hy,G.tv_eq hx hy,G.tv_eq (G.invV hy) (G.mulV hx hy)]
theorem Grp.conj_one {x:List Int}(hx:Vec P.orders x):rConj P x (zeros P.orders.length)=x:=by
 unfold rConj
 have h1:rInv P (zeros P.orders.length)=zeros P.orders.length:=by
  have:=G.mul_inv G.oneV;rw[G.grp.el _ (G.invV G.oneV)] at this;exact this
 rw[h1,G.grp.er _ hx,G.grp.el _ hx]
theorem Grp.inv_of {x y:List Int}(hx:Vec P.orders x) (hy:Vec P.orders y) (h:rMul P x y=zeros P.orders.length):y=rInv P x:=
 G.grp.cancel hx hy (G.invV hx) (by rw[h,G.mul_inv hx])
theorem Grp.inv_mulR {x y:List Int}(hx:Vec P.orders x) (hy:Vec P.orders y):rInv P (rMul P x y)=rMul P (rInv P y) (rInv P x):=by
 symm
 refine G.inv_of (G.mulV hx hy) (G.mulV (G.invV hy) (G.invV hx)) ?_;rw[G.ass hx hy (G.mulV (G.invV hy) (G.invV hx)),<-G.ass hy (G.invV hy) (G.invV hx),G.mul_inv hy,G.grp.el _ (G.invV hx),G.mul_inv hx]
theorem Grp.inv_inv {x:List Int}(hx:Vec P.orders x):rInv P (rInv P x)=x:=(G.inv_of (G.invV hx) hx (G.inv_mul hx)).symm
theorem Grp.conj_mul {x y z:List Int}(hx:Vec P.orders x) (hy:Vec P.orders y) (a:Vec P.orders z):rConj P (rConj P x y) z=rConj P x (rMul P y z):=by
 unfold rConj;have c1:=G.mulV hx hy;rw[G.inv_mulR hy a,G.ass (G.invV a) (G.invV hy) (G.mulV hx (G.mulV hy a)),G.ass (G.invV hy) c1 a,G.ass hx hy a]
theorem Grp.gen_ind (Q:List Int->Prop) (h1:Q (zeros P.orders.length)) (e:∀y j,Vec P.orders y->Q y->j<P.orders.length->Q (rMul P y (unitV P.orders.length j))) {x:List Int}(hx:Vec P.orders x):Q x:=by
 have:=acc_inv (λy=>Vec P.orders y/\Q y) (λy j=>rMul P y (unitV P.orders.length j)) x 0 (zeros P.orders.length) P.orders.length ⟨G.oneV,h1⟩ (λy j hy _ b _=>⟨G.mulV hy.1 (unitV_vec G.v j),e y j hy.1 hy.2 (by omega)⟩);have a:=G.nf hx;unfold npr at a;rw[a] at this;exact this.2
end
theorem rAt_right {P:Pr}(hP:Valid P) (f:Nat):∀(i e:Nat) (x z:List Int),i+f=P.orders.length->i<=e->e<=P.orders.length->Vec P.orders x->T P e z ->
  (∀k,i<=k->k<e->gt (rAt P f i x z) k=gt x k)/\(e<P.orders.length->gt (rAt P f i x z) e=(gt x e+gt z e)%gt P.orders e):=by
 induction f with
 | zero=>intro i e x z hi E q _ _;exact⟨λk a b=>by omega,λh=>by omega⟩
 | succ f F=>
  intro i e x z hi E q hx p;have j:i<P.orders.length:=by omega
  have K:=hP.ord7 i j;have G:=hx.2 i j;have H:=p.1.2 i j;have hr:=rAt_T hP (f+1) i x z hi hx p.1;by_cases w:i=e
  ·subst w
   refine⟨λk a b=>by omega,λ_ => ?_⟩;simp only[rAt]
   have A:∀l:List Int,Vec P.orders l->Vec P.orders (iter (gt z i).toNat (λl=>rImgTo (rAt P f (i+1)) (gt P.conj i) i l (zeros P.orders.length) f) l):=λl A=>
    iter_inv (Vec P.orders) _ (λy hy=>rImgTo_vec hP f i hi (rAt_vec hP f) _ _ (zeros_vec hP) f (Nat.le_refl _)) _ _ A
   have v1:=A _ (hx.set i 0 ⟨by omega,λ_=>by omega⟩);have v2:Vec P.orders (z.set i 0):=p.1.set i 0 ⟨by omega,λ_=>by omega⟩;have v3:=rAt_vec hP f (i+1) _ _ (by omega) v1 v2;split
   ·rename_i I
    have v4:=rAt_vec hP f (i+1) _ _ (by omega) (hP.pv i j).1 v3;rw[gt_set_eq _ _ _ (by rw[v4.1];exact j)];have J:gt x i+gt z i=(gt x i+gt z i-gt P.orders i)+gt P.orders i:=by omega
    rw[J,Int.add_emod_right,Int.emod_eq_of_lt (by omega) (by omega)];omega
   ·rename_i I
    rw[gt_set_eq _ _ _ (by rw[v3.1];exact j),Int.emod_eq_of_lt (by omega) (by omega)]
  ·have B:gt z i=0:=p.2 i (by omega)
   have C:z.set i 0=z:=set_zero_of (P:=P) (p.down (by omega));have r:Vec P.orders (x.set i 0):=hx.set i 0 ⟨by omega,λ_=>by omega⟩;have m:=F (i+1) e (x.set i 0) z (by omega) (by omega) q r p;have v3:=rAt_vec hP f (i+1) (x.set i 0) z (by omega) r p.1
   have u:rAt P (f+1) i x z=(rAt P f (i+1) (x.set i 0) z).set i (gt x i):=by
    simp only[rAt,B,C];rw[if_neg (by omega),Int.add_zero];rfl
   rw[u];refine⟨λk a b => ?_,λh => ?_⟩
   ·by_cases D:i=k
    ·subst D;rw[gt_set_eq _ _ _ (by rw[v3.1];exact j)]
    ·rw[gt_set_ne _ _ _ _ D,m.1 k (by omega) b,gt_set_ne _ _ _ _ D]
   ·rw[gt_set_ne _ _ _ _ (by omega),m.2 h,gt_set_ne _ _ _ _ (by omega)]
def pw (P:Pr) (x:List Int) (k:Nat):List Int:=iter k (λy=>rMul P y x) (zeros P.orders.length)
section
variable {P:Pr}(G:Grp P)
include G
theorem Grp.right {x z:List Int}{e:Nat}(a:e<=P.orders.length) (hx:Vec P.orders x) (b:T P e z) :
  (∀k,k<e->gt (rMul P x z) k=gt x k)/\(e<P.orders.length->gt (rMul P x z) e=(gt x e+gt z e)%gt P.orders e):=by
 have h:=rAt_right G.v P.orders.length 0 e x z (by omega) (by omega) a hx b;exact⟨λk hk=>h.1 k (by omega) hk,h.2⟩
theorem Grp.T_mul {x y:List Int}{d:Nat}(a:d<=P.orders.length) (hx:T P d x) (hy:T P d y):T P d (rMul P x y):=
 ⟨G.mulV hx.1 hy.1,λk hk=>by rw[(G.right a hx.1 hy).1 k hk];exact hx.2 k hk⟩
theorem Grp.pw_vec {x:List Int}(hx:Vec P.orders x) (k:Nat):Vec P.orders (pw P x k):=G.grp.toMonOn.pow_cl hx G.oneV k
theorem Grp.pw_add {x:List Int}(hx:Vec P.orders x) (a b:Nat):pw P x (a+b)=rMul P (pw P x a) (pw P x b):=G.grp.toMonOn.pow_add hx a b
omit G in
theorem pw_zero (P:Pr) (x:List Int):pw P x 0=zeros P.orders.length:=rfl
omit G in
theorem pw_succ (P:Pr) (x:List Int) (k:Nat):pw P x (k+1)=rMul P (pw P x k) x:=rfl
theorem Grp.pw_one {x:List Int}(hx:Vec P.orders x):pw P x 1=x:=G.grp.el x hx
theorem Grp.pw_succ' {x:List Int}(hx:Vec P.orders x) (k:Nat):pw P x (k+1)=rMul P x (pw P x k):=by
 rw[Nat.add_comm,G.pw_add hx,G.pw_one hx]
theorem Grp.pw_mul {x:List Int}(hx:Vec P.orders x) (a b:Nat):pw P x (a*b)=pw P (pw P x a) b:=by
 induction b with
 | zero=>rfl
 | succ b e=>rw[Nat.mul_succ,G.pw_add hx,e];rfl
theorem Grp.pw_T {x:List Int}{d:Nat}(a:d<=P.orders.length) (hx:T P d x) (k:Nat):T P d (pw P x k):=by
 induction k with
 | zero=>exact T.zeros G.v d
 | succ k b=>exact G.T_mul a b hx
theorem Grp.pw_at {x:List Int}{d:Nat}(a:d<P.orders.length) (hx:T P d x) (k:Nat):gt (pw P x k) d=((k:Int)*gt x d)%gt P.orders d:=by
 induction k with
 | zero=>rw[pw_zero];show gt (List.replicate _ (0:Int)) d=_;rw[gt_replicate];simp
 | succ k b=>
  rw[pw_succ,(G.right (Nat.le_of_lt a) (G.pw_vec hx.1 k) hx).2 a,b,Int.emod_add_emod];congr 1
  rw[Int.natCast_add,Int.add_mul];simp
theorem Grp.pw_order {x:List Int}{d:Nat}(a:d<P.orders.length) (hx:T P d x):T P (d+1) (pw P x (gt P.orders d).toNat):=by
 have b:=G.v.ord7 d a;refine(G.pw_T (Nat.le_of_lt a) hx _).up ?_;rw[G.pw_at a hx,show(((gt P.orders d).toNat:Nat):Int)=gt P.orders d by omega,Int.mul_emod_right]
theorem Grp.fin (f:Nat):∀(d:Nat) (x:List Int),d+f=P.orders.length->T P d x->∃M,1<=M/\pw P x M=zeros P.orders.length:=by
 induction f with
 | zero=>
  intro d x a hx;have:d=P.orders.length:=by omega
  subst this;refine⟨1,Nat.le_refl _,?_⟩;rw[G.pw_one hx.1];exact hx.top G.v
 | succ f b=>
  intro d x a hx;have e:=G.v.ord7 d (by omega);obtain⟨M,h1,h2⟩:=b (d+1) _ (by omega) (G.pw_order (by omega) hx);refine⟨(gt P.orders d).toNat*M,Nat.mul_pos (by omega) h1,?_⟩;rw[G.pw_mul hx.1,h2]
theorem Grp.inv_pw {x:List Int}(hx:Vec P.orders x):∃k,rInv P x=pw P x k:=by
 obtain⟨M,h1,h2⟩:=G.fin P.orders.length 0 x (by omega) (T_zero.2 hx);refine⟨M-1,?_⟩;refine(G.inv_of hx (G.pw_vec hx _) ?_).symm;rw[<-G.pw_succ' hx,show M-1+1=M by omega,h2]
theorem Grp.T_inv {x:List Int}{d:Nat}(a:d<=P.orders.length) (hx:T P d x):T P d (rInv P x):=by
 obtain⟨k,hk⟩:=G.inv_pw hx.1;rw[hk];exact G.pw_T a hx k
theorem Grp.diff {u v:List Int}{d:Nat}(a:d<P.orders.length) (b:T P d u) (e:T P d v) (h:gt u d=gt v d):T P (d+1) (rMul P (rInv P u) v):=by
 have hi:=G.T_inv (Nat.le_of_lt a) b;have i:=G.T_mul (Nat.le_of_lt a) hi e;refine i.up ?_;have l:rMul P u (rMul P (rInv P u) v)=v:=by rw[<-G.ass b.1 hi.1 e.1,G.mul_inv b.1,G.grp.el _ e.1]
 have j:=(G.right (Nat.le_of_lt a) b.1 i).2 a;rw[l] at j;have b1:=b.1.2 d a;have b2:=i.1.2 d a;by_cases k:gt u d+gt (rMul P (rInv P u) v) d<gt P.orders d
 ·rw[Int.emod_eq_of_lt (by omega) k] at j;omega
 ·have m:gt u d+gt (rMul P (rInv P u) v) d=(gt u d+gt (rMul P (rInv P u) v) d-gt P.orders d)+gt P.orders d:=by omega
  rw[m,Int.add_emod_right,Int.emod_eq_of_lt (by omega) (by omega)] at j;omega
end
structure Sub (P:Pr) (H:List Int->Prop):Prop where
 vec:∀x,H x->Vec P.orders x
 one:H (zeros P.orders.length)
 mul:∀x y,H x->H y->H (rMul P x y)
 inv:∀x,H x->H (rInv P x)
section
variable {P:Pr}(G:Grp P)
include G
theorem Grp.sub_all:Sub P (Vec P.orders):=⟨λ_ h=>h,G.oneV,λ_ _ h k=>G.mulV h k,λ_ h=>G.invV h⟩
theorem Grp.sub_of_mul {H:List Int->Prop}(b:∀x,H x->Vec P.orders x) (h1:H (zeros P.orders.length)) (e:∀x y,H x->H y->H (rMul P x y)):Sub P H:=by
 refine⟨b,h1,e,λx hx => ?_⟩;obtain⟨k,hk⟩:=G.inv_pw (b x hx);rw[hk];induction k generalizing x with
 | zero=>exact h1
 | succ k _=>
  have:∀j,H (pw P x j):=by
   intro j;induction j with
   | zero=>exact h1
   | succ j a=>exact e _ _ a hx
  exact this _
omit G in
theorem Sub.pw {H:List Int->Prop}(S:Sub P H) {x:List Int}(hx:H x) (k:Nat):H (Go.Proofs.YtldheeicjnncoaaGreat.pw P x k):=by
 induction k with
 | zero=>exact S.one
 | succ k a=>exact S.mul _ _ a hx
theorem Grp.comm_deep {x y:List Int}{d:Nat}(e:d<P.orders.length) (hx:T P d x) (hy:T P (d+1) y) :
  T P (d+1) (rMul P (rInv P (rMul P y x)) (rMul P x y))/\T P (d+1) (rMul P (rInv P (rMul P x y)) (rMul P y x)):=by
 have a:=Nat.le_of_lt e;have b:=hy.down (Nat.le_succ d);have h1:=G.T_mul a hx b;have i:=G.T_mul a b hx;have j:gt (rMul P x y) d=gt x d:=(G.right (Nat.succ_le_of_lt e) hx.1 hy).1 d (by omega)
 have k:gt (rMul P y x) d=gt x d:=by
  rw[(G.right a b.1 hx).2 e,hy.2 d (by omega),Int.zero_add];have:=hx.1.2 d e;exact Int.emod_eq_of_lt this.1 this.2
 exact⟨G.diff e i h1 (by rw[j,k]),G.diff e h1 i (by rw[j,k])⟩
theorem Grp.conj_of_comm {x y:List Int}(hx:Vec P.orders x) (hy:Vec P.orders y):rConj P x y=rMul P x (rMul P (rInv P (rMul P y x)) (rMul P x y)):=by
 unfold rConj;have c1:=G.mulV hx hy;rw[G.inv_mulR hy hx,G.ass (G.invV hx) (G.invV hy) c1,<-G.ass hx (G.invV hx) (G.mulV (G.invV hy) c1),G.mul_inv hx,G.grp.el _ (G.mulV (G.invV hy) c1)]
theorem Grp.comm_inv {x y:List Int}(hx:Vec P.orders x) (hy:Vec P.orders y):rInv P (rMul P (rInv P (rMul P x y)) (rMul P y x))=rMul P (rInv P (rMul P y x)) (rMul P x y):=by
 have c1:=G.mulV hx hy;have c2:=G.mulV hy hx;rw[G.inv_mulR (G.invV c1) c2,G.inv_inv c1]
structure Closed (P:Pr) (b:Nat->List Int) (R:List Int->Prop):Prop where
 tab:∀d,d<P.orders.length->b d≠[]->T P d (b d)/\gt (b d) d=1
 vec:∀q,R q->Vec P.orders q
 step:∀q,R q->q=zeros P.orders.length\/∃d,d<P.orders.length/\T P d q/\gt q d≠0/\b d≠[]/\∃q',R q'/\T P (d+1) q'/\∀K,Sub P K->K (b d)->K q'->K q
 pow:∀d,d<P.orders.length->b d≠[]->R (pw P (b d) (gt P.orders d).toNat)
 com:∀d e,d<e->e<P.orders.length->b d≠[]->b e≠[]->∃c,R c/\T P (d+1) c/\∀K,Sub P K->K (b e)->K c->K (rConj P (b e) (b d))
structure TailSub (P:Pr) (b:Nat->List Int) (R:List Int->Prop) (d:Nat) (K:List Int->Prop):Prop where
 sub:Sub P K
 deep:∀x,K x->T P d x
 mem:∀e,d<=e->e<P.orders.length->b e≠[]->K (b e)
 res:∀q,R q->T P d q->K q
 piv:∀x,K x->∀e,d<=e->e<P.orders.length->T P e x->gt x e≠0->b e≠[]
 min:∀K',Sub P K'->(∀e,d<=e->e<P.orders.length->b e≠[]->K' (b e))->∀x,K x->K' x
theorem Grp.conj_hom {x y z:List Int}(hx:Vec P.orders x) (hy:Vec P.orders y) (a:Vec P.orders z):rConj P (rMul P x y) z=rMul P (rConj P x z) (rConj P y z):=by
 unfold rConj;have hi:=G.invV a;have c1:=G.mulV hx a;have c2:=G.mulV hy a;rw[G.ass hi c1 (G.mulV hi c2),G.ass hx a (G.mulV hi c2),<-G.ass a hi c2,G.mul_inv a,G.grp.el _ c2,G.ass hx hy a]
theorem Grp.tailSub {b:Nat->List Int}{R:List Int->Prop}(C:Closed P b R) (f:Nat):∀d,d+f=P.orders.length->∃K,TailSub P b R d K:=by
 induction f with
 | zero=>
  intro d hd;have:d=P.orders.length:=by omega
  subst this
  have M:Sub P (λx=>x=zeros P.orders.length):=by
   refine G.sub_of_mul (λx h=>by rw[h];exact G.oneV) rfl (λx y hx hy => ?_);rw[hx,hy];exact G.grp.el _ G.oneV
  exact⟨_,M,λx h=>by rw[h];exact T.zeros G.v _,λe a r=>by omega,λq _ E=>E.top G.v,λx _ e a r=>by omega,λK' S _ x hx=>by rw[hx];exact S.one⟩
 | succ f ih=>
  intro d hd;obtain⟨K',t⟩:=ih (d+1) (by omega);have p:d<P.orders.length:=by omega
  have N:=Nat.le_of_lt p;by_cases F:b d=[]
  ·refine ⟨K',t.sub,λx hx=>(t.deep x hx).down (Nat.le_succ d),λe a r m => ?_,λq E D => ?_,λx hx e a r D H => ?_,λV S h x hx=>t.min V S (λe a r m=>h e (by omega) r m) x hx⟩
   ·by_cases w:e=d
    ·subst w;exact absurd F m
    ·exact t.mem e (by omega) r m
   ·rcases C.step q E with h|⟨A,h1,I,h3,h4,_⟩
    ·rw[h];exact t.sub.one
    ·have W:d<=A:=by
      have:¬A<d:=λh=>h3 (D.2 A h);omega
     have aj:A≠d:=λe=>h4 (by rw[e];exact F);exact t.res q E (I.down (by omega))
   ·by_cases w:e=d
    ·subst w
     exact absurd ((t.deep x hx).2 e (by omega)) H
    ·exact t.piv x hx e (by omega) r D H
  ·obtain ⟨B,hb1⟩:=C.tab d p F
   have ho:=G.v.ord7 d p;have i:=B.1;-- conjugation by the new entry keeps K'
   have hN:Sub P (λy=>K' y/\K' (rConj P y (b d))):=by
    refine G.sub_of_mul (λx h=>t.sub.vec x h.1) ⟨t.sub.one,?_⟩ (λx y hx hy=>⟨t.sub.mul _ _ hx.1 hy.1,?_⟩)
    ·have:rConj P (zeros P.orders.length) (b d)=zeros P.orders.length:=by
      unfold rConj;rw[G.grp.el _ i,G.inv_mul i]
     rw[this];exact t.sub.one
    ·rw[G.conj_hom (t.sub.vec x hx.1) (t.sub.vec y hy.1) i];exact t.sub.mul _ _ hx.2 hy.2
   have X:∀y,K' y->K' (rConj P y (b d)):=λy hy=>(t.min _ hN (λe a r m=>by
    have hm:=t.mem e a r m;obtain⟨c,Y,Z,hc3⟩:=C.com d e (by omega) r F m;exact⟨hm,hc3 K' t.sub hm (t.res c Y Z)⟩) y hy).2
   have O:∀(k:Nat) y,K' y->K' (rMul P (rInv P (pw P (b d) k)) (rMul P y (pw P (b d) k))):=by
    intro k;induction k with
    | zero=>
     intro y hy;have H:rConj P y (zeros P.orders.length)=y:=G.conj_one (t.sub.vec y hy);show K' (rConj P y (zeros P.orders.length))
     rw[H];exact hy
    | succ k aa=>
     intro y hy;have h1:=X _ (aa y hy);have I:rConj P (rConj P y (pw P (b d) k)) (b d)=rConj P y (pw P (b d) (k+1)):=G.conj_mul (t.sub.vec y hy) (G.pw_vec i k) i;show K' (rConj P y (pw P (b d) (k+1)))
     rw[<-I];exact h1
   have hw:K' (pw P (b d) (gt P.orders d).toNat):=t.res _ (C.pow d p F) (G.pw_order p B)
   have hK:Sub P (λx=>∃k y,K' y/\x=rMul P (pw P (b d) k) y):=by
    refine G.sub_of_mul ?_ ⟨0,_,t.sub.one,(G.grp.el _ G.oneV).symm⟩ ?_
    ·rintro x ⟨k,y,hy,rfl⟩;exact G.mulV (G.pw_vec i k) (t.sub.vec y hy)
    ·rintro x x' ⟨k,y,hy,rfl⟩ ⟨l,z,hz,rfl⟩
     have J:=t.sub.vec y hy;have L:=t.sub.vec z hz;have pk:=G.pw_vec i k;have pl:=G.pw_vec i l;refine⟨k+l,_,t.sub.mul _ _ (O l y hy) hz,?_⟩;rw[G.pw_add i,G.ass pk J (G.mulV pl L),<-G.ass J pl L,G.ass (G.invV pl) (G.mulV J pl) L,G.ass pk pl (G.mulV (G.invV pl) (G.mulV (G.mulV J pl) L)),<-G.ass pl (G.invV pl) (G.mulV (G.mulV J pl) L),G.mul_inv pl,G.grp.el _ (G.mulV (G.mulV J pl) L)]
   have u:∀y,K' y->∃k z,K' z/\y=rMul P (pw P (b d) k) z:=λy hy=>⟨0,y,hy,(G.grp.el y (t.sub.vec y hy)).symm⟩;have Q:∃k z,K' z/\b d=rMul P (pw P (b d) k) z:=⟨1,_,t.sub.one,by rw[G.pw_one i,G.grp.er _ i]⟩;refine⟨_,hK,?_,λe a r m => ?_,λq E D => ?_,?_,?_⟩
   ·rintro x ⟨k,y,hy,rfl⟩
    exact G.T_mul N (G.pw_T N B k) ((t.deep y hy).down (Nat.le_succ d))
   ·by_cases w:e=d
    ·subst w;exact Q
    ·exact u _ (t.mem e (by omega) r m)
   ·rcases C.step q E with h|⟨A,h1,I,h3,h4,q',h5,h6,h7⟩
    ·rw[h];exact hK.one
    ·have W:d<=A:=by
      have:¬A<d:=λh=>h3 (D.2 A h);omega
     by_cases w:A=d
     ·subst w
      exact h7 _ hK Q (u q' (t.res q' h5 h6))
     ·exact u q (t.res q E (I.down (by omega)))
   ·rintro x ⟨k,y,hy,rfl⟩ e a r D H
    by_cases w:e=d
    ·rw[w];exact F
    ·have ac:=t.deep y hy
     have U:gt (rMul P (pw P (b d) k) y) d=0:=D.2 d (by omega);rw[(G.right (Nat.succ_le_of_lt p) (G.pw_vec i k) ac).1 d (by omega),G.pw_at p B,hb1,Int.mul_one] at U;-- the order divides k
     obtain ⟨j,hj⟩:∃j:Nat,k=(gt P.orders d).toNat*j:=by
      refine⟨k/(gt P.orders d).toNat,?_⟩
      have h1:((k%(gt P.orders d).toNat:Nat):Int)=0:=by
       rw[Int.natCast_emod,show(((gt P.orders d).toNat:Nat):Int)=gt P.orders d by omega];exact U
      have I:=Nat.div_add_mod k (gt P.orders d).toNat;omega
     have ad:K' (pw P (b d) k):=by rw[hj,G.pw_mul i];exact t.sub.pw hw j
     exact t.piv _ (t.sub.mul _ _ ad hy) e (by omega) r D H
   ·rintro V S h x ⟨k,y,hy,rfl⟩
    exact S.mul _ _ (S.pw (h d (Nat.le_refl d) p F) k) (t.min V S (λe a r m=>h e (by omega) r m) y hy)
structure Ind (P:Pr) (H:List Int->Prop) (b:Nat->List Int):Prop where
 sub:Sub P H
 mem:∀d,d<P.orders.length->b d≠[]->H (b d)/\T P d (b d)/\gt (b d) d=1
 piv:∀x,H x->∀d,d<P.orders.length->T P d x->gt x d≠0->b d≠[]
end
theorem depth_ex {P:Pr}{x:List Int}(hx:Vec P.orders x) (h:x≠zeros P.orders.length):∃d,d<P.orders.length/\T P d x/\gt x d≠0:=by
 have key:∀f d,d+f=P.orders.length->T P d x->∃d,d<P.orders.length/\T P d x/\gt x d≠0:=by
  intro f;induction f with
  | zero=>
   intro d e a;exfalso;apply h
   have:d=P.orders.length:=by omega
   subst this
   exact ext_gt (by rw[hx.1];simp[zeros]) (λk hk=>by
    rw[hx.1] at hk;rw[a.2 k hk];exact(gt_replicate _ _).symm)
  | succ f i=>
   intro d e a;by_cases b:gt x d=0
   ·exact i (d+1) (by omega) (a.up b)
   ·exact⟨d,by omega,a,b⟩
 exact key P.orders.length 0 (by omega) (T_zero.2 hx)
structure Red (P:Pr) (H:List Int->Prop) (r:Nat->List Int):Prop extends Ind P H r where
 red:∀d e,d<e->e<P.orders.length->r d≠[]->r e≠[]->gt (r d) e=0
def seqOf (n:Nat) (r:Nat->List Int):List (List Int):=(List.range n).filterMap (λd=>if r d=[] then none else some (r d))
section
variable {P:Pr}(G:Grp P)
include G
def Rep (P:Pr) (H:List Int->Prop) (r:Nat->List Int) (x y:List Int):Prop:=Vec P.orders y/\H (rMul P (rInv P x) y)/\∀e,e<P.orders.length->r e≠[]->gt y e=0
theorem Grp.coset_one {H:List Int->Prop}{b:Nat->List Int}(I:Ind P H b) {x y:List Int}(hx:Vec P.orders x) (hy:Vec P.orders y) (h:H (rMul P (rInv P x) y))
  (j:∀e,e<P.orders.length->b e≠[]->gt x e=0) (hy0:∀e,e<P.orders.length->b e≠[]->gt y e=0):x=y:=by
 have k:=G.invV hx;have l:rMul P x (rMul P (rInv P x) y)=y:=by rw[<-G.ass hx k hy,G.mul_inv hx,G.grp.el _ hy]
 by_cases p:rMul P (rInv P x) y=zeros P.orders.length
 ·rw[p,G.grp.er _ hx] at l;exact l
 ·exfalso
  have i:=I.sub.vec _ h;obtain⟨e,a,q,h0⟩:=depth_ex i p;have r:=I.piv _ h e a q h0;have m:=(G.right (Nat.le_of_lt a) hx q).2 a;rw[l,j e a r,hy0 e a r,Int.zero_add] at m;have u:=i.2 e a;rw[Int.emod_eq_of_lt u.1 u.2] at m;exact h0 m.symm
theorem Grp.rep_one {H:List Int->Prop}{b:Nat->List Int}(I:Ind P H b) {x y i:List Int}(hx:Vec P.orders x) (h:Rep P H b x y) (a:Rep P H b x i):y=i:=by
 refine G.coset_one I h.1 a.1 ?_ h.2.2 a.2.2;have hi:=G.invV hx;have j:=G.invV h.1
 have e:rMul P (rInv P y) i=rMul P (rInv P (rMul P (rInv P x) y)) (rMul P (rInv P x) i):=by
  rw[G.inv_mulR hi h.1,G.inv_inv hx,G.ass j hx (G.mulV hi a.1),<-G.ass hx hi a.1,G.mul_inv hx,G.grp.el _ a.1]
 rw[e];exact I.sub.mul _ _ (I.sub.inv _ h.2.1) a.2.1
theorem Grp.red_one {H:List Int->Prop}{r i:Nat->List Int}(A:Red P H r) (B:Red P H i):∀d,d<P.orders.length->r d=i d:=by
 intro d j
 have a:∀ {s C:Nat->List Int},Ind P H s->Ind P H C->∀e,e<P.orders.length->s e≠[]->C e≠[]:=λI J e b h=>by
  obtain⟨h1,k,K⟩:=I.mem e b h;exact J.piv _ h1 e b k (by rw[K];decide)
 by_cases h:r d=[]
 ·by_cases l:i d=[]
  ·rw[h,l]
  ·exact absurd h (a B.toInd A.toInd d j l)
 ·have l:=a A.toInd B.toInd d j h
  obtain⟨a1,a2,L⟩:=A.mem d j h;obtain⟨b1,b2,b3⟩:=B.mem d j l;-- the quotient lies deeper; compare by representatives
  have q:=G.diff j a2 b2 (by rw[L,b3]);have u:=A.sub.mul _ _ (A.sub.inv _ a1) b1;have w:=G.invV a2.1;have y:rMul P (r d) (rMul P (rInv P (r d)) (i d))=i d:=by rw[<-G.ass a2.1 w b2.1,G.mul_inv a2.1,G.grp.el _ b2.1]
  by_cases m:rMul P (rInv P (r d)) (i d)=zeros P.orders.length
  ·rw[m,G.grp.er _ a2.1] at y;exact y
  ·exfalso
   obtain⟨e,b,D,h0⟩:=depth_ex q.1 m
   have p:d<e:=by
    have:¬e<d+1:=λh=>h0 (q.2 e h);omega
   have E:=A.piv _ u e b D h0;have z:=a A.toInd B.toInd e b E;have k:=(G.right (Nat.le_of_lt b) a2.1 D).2 b;rw[y,A.red d e p b h E,B.red d e p b l z,Int.zero_add] at k;have F:=q.1.2 e b;rw[Int.emod_eq_of_lt F.1 F.2] at k;exact h0 k.symm
omit G in
theorem seqOf_congr {n:Nat}{r a:Nat->List Int}(h:∀d,d<n->r d=a d):seqOf n r=seqOf n a:=by
 unfold seqOf;induction n with
 | zero=>rfl
 | succ n b=>
  have e:=h n (by omega);rw[List.range_succ,List.filterMap_append,List.filterMap_append,b (λd i=>h d (by omega))];simp only[List.filterMap_cons,List.filterMap_nil,e]
theorem Grp.seq_one {H:List Int->Prop}{r a:Nat->List Int}(A:Red P H r) (B:Red P H a):seqOf P.orders.length r=seqOf P.orders.length a:=
 seqOf_congr (G.red_one A B)
end
def genP (P:Pr) (Q:List Int->Prop) (x:List Int):Prop:=∀H,Sub P H->(∀y,Q y->H y)->H x
structure AddInv (P:Pr) (Q:List Int->Prop) (b:Nat->List Int) (q:List (List Int)) (R:List Int->Prop):Prop where
 tab:∀d,d<P.orders.length->b d≠[]->R (b d)/\T P d (b d)/\gt (b d) d=1
 vec:∀x,R x->Vec P.orders x
 que:∀x∈q,R x
 src:∀x,Q x->R x
 step:∀x,R x->x=zeros P.orders.length\/x∈q\/∃d,d<P.orders.length/\T P d x/\gt x d≠0/\b d≠[]/\∃x',R x'/\T P (d+1) x'/\∀K,Sub P K->K (b d)->K x'->K x
 pow:∀d,d<P.orders.length->b d≠[]->R (pw P (b d) (gt P.orders d).toNat)
 com:∀d e,d<e->e<P.orders.length->b d≠[]->b e≠[]->∃c,R c/\T P (d+1) c/\∀K,Sub P K->K (b e)->K c->K (rConj P (b e) (b d))
 gen:∀x,R x->genP P Q x
section
variable {P:Pr}(G:Grp P)
include G
theorem Grp.genP_sub {Q:List Int->Prop}(a:∀y,Q y->Vec P.orders y):Sub P (genP P Q):=
 ⟨λ_ h=>h _ G.sub_all a,λ_ S _=>S.one,λ_ _ h k _ S hH=>S.mul _ _ (h _ S hH) (k _ S hH),λ_ h _ S hH=>S.inv _ (h _ S hH)⟩
omit G in
theorem genP_mem {Q:List Int->Prop}{y:List Int}(hy:Q y):genP P Q y:=λ_ _ hH=>hH y hy
omit G in
theorem genP_le {Q:List Int->Prop}{H:List Int->Prop}(S:Sub P H) (h:∀y,Q y->H y) {x:List Int}(hx:genP P Q x):H x:=hx _ S h
theorem Grp.addInv_start {H:List Int->Prop}{b:Nat->List Int}(I:Ind P H b) {list:List (List Int)}(B:∀x∈list,Vec P.orders x) :
  AddInv P (λx=>H x\/x∈list) b list (λx=>H x\/x∈list):=by
 have S:=I.sub;refine⟨λd a k => ?_,?_,λx hx => .inr hx,λx hx=>hx,?_,λd a k => .inl (S.pw (I.mem d a k).1 _),λd e C D q r => ?_,λx hx=>genP_mem hx⟩
 ·obtain ⟨h1,l,u⟩:=I.mem d a k
  exact⟨.inl h1,l,u⟩
 ·rintro x (h|h)
  ·exact S.vec x h
  ·exact B x h
 ·rintro x (h|h)
  ·by_cases y:x=zeros P.orders.length
   ·exact .inl y
   ·obtain ⟨d,a,j,hx0⟩:=depth_ex (S.vec x h) y
    have k:=I.piv x h d a j hx0;obtain⟨p,i,m3⟩:=I.mem d a k;have F:=G.v.ord7 d a;have E:=j.1.2 d a;refine .inr (.inr ⟨d,a,j,hx0,k,rMul P (pw P (b d) (gt P.orders d-gt x d).toNat) x,.inl (S.mul _ _ (S.pw p _) h),?_,λK m h1 l => ?_⟩)
    ·refine (G.T_mul (Nat.le_of_lt a) (G.pw_T (Nat.le_of_lt a) i _) j).up ?_
     rw[(G.right (Nat.le_of_lt a) (G.pw_vec i.1 _) j).2 a,G.pw_at a i,m3,Int.mul_one,Int.emod_add_emod,show(((gt P.orders d-gt x d).toNat:Nat):Int)+gt x d=gt P.orders d by omega,Int.emod_self]
    ·have u:=m.mul _ _ (m.inv _ (m.pw h1 (gt P.orders d-gt x d).toNat)) l
     rwa [<-G.ass (G.invV (G.pw_vec i.1 _)) (G.pw_vec i.1 _) j.1,G.inv_mul (G.pw_vec i.1 _),G.grp.el _ j.1] at u
  ·exact .inr (.inl h)
 ·obtain ⟨p,i,m3⟩:=I.mem d (by omega) q
  obtain⟨z,A,k3⟩:=I.mem e D r;have w:=A.down (show d+1<=e by omega);refine⟨_,.inl (S.mul _ _ (S.inv _ (S.mul _ _ p z)) (S.mul _ _ z p)),(G.comm_deep (by omega) i w).2,λK m h1 l => ?_⟩;rw[G.conj_of_comm A.1 i.1];exact m.mul _ _ h1 l
omit G in
theorem addInv_sift {Q:List Int->Prop}{b:Nat->List Int}{q:List (List Int)}{R:List Int->Prop}{y j:List Int}(A:AddInv P Q b (y :: q) R) {d:Nat}(r:d<P.orders.length) (z:T P d y) (B:gt y d≠0) (u:b d≠[])
  (l:T P (d+1) j) (C:∀K,Sub P K->K (b d)->K j->K y) (m:∀K,Sub P K->K (b d)->K y->K j):AddInv P Q b (j :: q) (λx=>R x\/x=j):=by
 refine⟨λe k a=>⟨.inl (A.tab e k a).1,(A.tab e k a).2⟩,?_,?_,λx hx => .inl (A.src x hx),?_,λe k a => .inl (A.pow e k a),λd e p k h1 i => ?_,?_⟩
 ·rintro x (h|h)
  ·exact A.vec x h
  ·rw[h];exact l.1
 ·intro x hx
  rcases List.mem_cons.1 hx with h|h
  ·exact .inr h
  ·exact .inl (A.que x (List.mem_cons_of_mem _ h))
 ·rintro x (h|h)
  ·rcases A.step x h with h1|h1|⟨e,i,h3,h4,h5,x',h6,h7,h8⟩
   ·exact .inl h1
   ·rcases List.mem_cons.1 h1 with i|i
    ·rw[i];exact .inr (.inr ⟨d,r,z,B,u,j,.inr rfl,l,C⟩)
    ·exact .inr (.inl (List.mem_cons_of_mem _ i))
   ·exact .inr (.inr ⟨e,i,h3,h4,h5,x',.inl h6,h7,h8⟩)
  ·exact .inr (.inl (by rw[h];exact List.mem_cons_self))
 ·obtain ⟨c,c1,c2⟩:=A.com d e p k h1 i
  exact⟨c,.inl c1,c2⟩
 ·rintro x (h|h)
  ·exact A.gen x h
  ·rw [h]
   intro K S w;exact m K S (A.gen _ (A.tab d r u).1 K S w) (A.gen _ (A.que y List.mem_cons_self) K S w)
omit G in
theorem addInv_drop {Q:List Int->Prop}{b:Nat->List Int}{q:List (List Int)}{R:List Int->Prop}{y:List Int}(A:AddInv P Q b (y :: q) R) (hy:y=zeros P.orders.length):AddInv P Q b q R:=by
 refine⟨A.tab,A.vec,λx hx=>A.que x (List.mem_cons_of_mem _ hx),A.src,λx hx => ?_,A.pow,A.com,A.gen⟩;rcases A.step x hx with h1|h1|h1
 ·exact .inl h1
 ·rcases List.mem_cons.1 h1 with a|a
  ·exact .inl (a.trans hy)
  ·exact .inr (.inl a)
 ·exact .inr (.inr h1)
theorem Grp.addInv_insert {Q:List Int->Prop}{b H:Nat->List Int}{q q':List (List Int)}{R:List Int->Prop}{y z:List Int}(A:AddInv P Q b (y :: q) R) {d:Nat}(W:d<P.orders.length) (hT:T P d y) (hb:b d=[])
  (U:T P d z) (X:gt z d=1) (Y:∀K,Sub P K->K y->K z) (C:∀e,e<P.orders.length->H e=if e=d then z else b e)
  (ae:∀x∈q',x∈q\/x=y\/x=z\/x=pw P z (gt P.orders d).toNat\/∃e,e<P.orders.length/\b e≠[]/\(x=rMul P (rInv P (rMul P z (b e))) (rMul P (b e) z)\/x=rMul P (rInv P (rMul P (b e) z)) (rMul P z (b e))))
  (D:∀x,x∈q\/x=y\/x=pw P z (gt P.orders d).toNat->x∈q')
  (Z:∀e,e<P.orders.length->b e≠[]->rMul P (rInv P (rMul P z (b e))) (rMul P (b e) z)∈q'\/rMul P (rInv P (rMul P (b e) z)) (rMul P z (b e))∈q') :
  AddInv P Q H q' (λx=>R x\/x=z\/x∈q'):=by
 have ho:=G.v.ord7 d W;have a:=U.1
 have I:∀e,e<P.orders.length->b e≠[]->H e=b e:=λe m i=>by
  rw[C e m,if_neg (λh=>i (by rw[h];exact hb))]
 have j:∀e,e<P.orders.length->H e≠[]->(e=d/\H e=z)\/(e≠d/\b e≠[]/\H e=b e):=λe m i=>by
  by_cases h:e=d
  ·exact .inl ⟨h,by rw[C e m,if_pos h]⟩
  ·have k:H e=b e:=by rw[C e m,if_neg h]
   exact .inr ⟨h,by rw[<-k];exact i,k⟩
 have J:H d=z:=by rw[C d W,if_pos rfl]
 have aa:z≠[]:=by
  intro h;have:=a.1;rw[h] at this;simp at this;omega
 have ab:∀x∈q',Vec P.orders x/\genP P Q x:=by
  have ac:=A.gen y (A.que y List.mem_cons_self);have l:genP P Q z:=λK S p=>Y K S (ac K S p);intro x hx;rcases ae x hx with h|h|h|h|⟨e,m,i,h|h⟩
  ·have:=A.que x (List.mem_cons_of_mem _ h);exact⟨A.vec x this,A.gen x this⟩
  ·rw[h];exact⟨hT.1,ac⟩
  ·rw[h];exact⟨a,l⟩
  ·rw[h];exact⟨G.pw_vec a _,λK S p=>S.pw (l K S p) _⟩
  ·have r:=(A.tab e m i).2.1.1
   have u:=A.gen _ (A.tab e m i).1;rw[h];exact⟨G.mulV (G.invV (G.mulV a r)) (G.mulV r a),λK S p=>S.mul _ _ (S.inv _ (S.mul _ _ (l K S p) (u K S p))) (S.mul _ _ (u K S p) (l K S p))⟩
  ·have r:=(A.tab e m i).2.1.1
   have u:=A.gen _ (A.tab e m i).1;rw[h];exact⟨G.mulV (G.invV (G.mulV r a)) (G.mulV a r),λK S p=>S.mul _ _ (S.inv _ (S.mul _ _ (u K S p) (l K S p))) (S.mul _ _ (l K S p) (u K S p))⟩
 have af:T P (d+1) (pw P z (gt P.orders d).toNat):=G.pw_order W U;refine⟨λe m i => ?_,?_,λx hx => .inr (.inr hx),λx hx => .inl (A.src x hx),?_,λe m i => ?_,λV L ag w h1 k => ?_,?_⟩
 ·rcases j e m i with⟨h1,k⟩|⟨h1,k,h3⟩
  ·subst h1;rw[k];exact⟨.inr (.inl rfl),U,X⟩
  ·rw[h3];exact⟨.inl (A.tab e m k).1,(A.tab e m k).2⟩
 ·rintro x (h|h|h)
  ·exact A.vec x h
  ·rw[h];exact a
  ·exact(ab x h).1
 ·rintro x (h|h|h)
  ·rcases A.step x h with h1|h1|⟨e,k,h3,h4,h5,x',h6,h7,h8⟩
   ·exact .inl h1
   ·rcases List.mem_cons.1 h1 with k|k
    ·exact .inr (.inl (D x (.inr (.inl k))))
    ·exact .inr (.inl (D x (.inl k)))
   ·refine .inr (.inr ⟨e,k,h3,h4,by rw[I e k h5];exact h5,x',.inl h6,h7,?_⟩)
    rw[I e k h5];exact h8
  ·-- the new entry itself: its power with the order, times its inverse
   subst h;refine .inr (.inr ⟨d,W,U,by rw[X];decide,by rw[J];exact aa,pw P x (gt P.orders d).toNat,.inr (.inr (D _ (.inr (.inr rfl)))),af,λK _ hk _=>by rw[J] at hk;exact hk⟩)
  ·exact .inr (.inl h)
 ·rcases j e m i with⟨h1,k⟩|⟨h1,k,h3⟩
  ·subst h1;rw[k];exact .inr (.inr (D _ (.inr (.inr rfl))))
  ·rw[h3];exact .inl (A.pow e m k)
 ·rcases j V (by omega) h1 with⟨a1,a2⟩|⟨a1,a2,a3⟩
  ·rcases j L w k with⟨b1,b2⟩|⟨b1,b2,b3⟩
   ·omega
   ·subst a1
    rw[a2,b3];obtain⟨k1,E,k3⟩:=A.tab L w b2;have ai:=E.down (show V+1<=L by omega);have B:=G.comm_deep W U ai;rcases Z L w b2 with M|M
    ·refine ⟨_,.inr (.inr M),B.2,λK F N O => ?_⟩
     rw[G.conj_of_comm E.1 a];exact F.mul _ _ N O
    ·refine ⟨_,.inr (.inr M),B.1,λK F N O => ?_⟩
     rw[G.conj_of_comm E.1 a,<-G.comm_inv E.1 a];exact F.mul _ _ N (F.inv _ O)
  ·rcases j L w k with⟨b1,b2⟩|⟨b1,b2,b3⟩
   ·subst b1
    rw[a3,b2];obtain⟨k1,E,k3⟩:=A.tab V (by omega) a2;have aj:=U.down (show V+1<=L by omega);have B:=G.comm_deep (by omega) E aj;rcases Z V (by omega) a2 with M|M
    ·refine ⟨_,.inr (.inr M),B.1,λK F N O => ?_⟩
     rw[G.conj_of_comm a E.1,<-G.comm_inv a E.1];exact F.mul _ _ N (F.inv _ O)
    ·refine ⟨_,.inr (.inr M),B.2,λK F N O => ?_⟩
     rw[G.conj_of_comm a E.1];exact F.mul _ _ N O
   ·rw [a3,b3]
    obtain⟨c,c1,c2⟩:=A.com V L ag w a2 b2;exact⟨c,.inl c1,c2⟩
 ·rintro x (h|h|h)
  ·exact A.gen x h
  ·rw[h];intro K S p;exact Y K S (A.gen _ (A.que y List.mem_cons_self) K S p)
  ·exact(ab x h).2
theorem Grp.addInv_end {Q:List Int->Prop}{b:Nat->List Int}{R:List Int->Prop}(A:AddInv P Q b [] R):Ind P (genP P Q) b:=by
 have C:Closed P b R:=by
  refine⟨λd a k=>(A.tab d a k).2,A.vec,λq l => ?_,A.pow,A.com⟩;rcases A.step q l with h|h|h
  ·exact .inl h
  ·cases h
  ·exact .inr h
 obtain⟨K,t⟩:=G.tailSub C P.orders.length 0 (by omega);have i:=G.genP_sub (Q:=Q) (λy hy=>A.vec y (A.src y hy));have j:∀x,genP P Q x->K x:=λx hx=>genP_le t.sub (λy hy=>t.res y (A.src y hy) (T_zero.2 (A.vec y (A.src y hy)))) hx;exact⟨i,λd a e=>⟨A.gen _ (A.tab d a e).1,(A.tab d a e).2⟩,λx hx d a m p=>t.piv x (j x hx) d (by omega) a m p⟩
end
def dep (x:List Int):Nat:=x.findIdx (λe=>e != 0)
theorem dep_le (x:List Int):dep x<=x.length:=List.findIdx_le_length
theorem dep_zero {x:List Int}{k:Nat}(h:k<dep x):gt x k=0:=by
 have a:k<x.length:=Nat.lt_of_lt_of_le h (dep_le x);have:=List.not_of_lt_findIdx h;rw[gt_eq x k a];simpa using this
theorem dep_ne {x:List Int}(h:dep x<x.length):gt x (dep x)≠0:=by
 have a:=List.findIdx_getElem (xs:=x) (p:=λe=>e != 0) (w:=h);rw[gt_eq x _ h];show ¬(x[List.findIdx (λe=>e != 0) x]=0)
 simpa using a
theorem dep_eq {x:List Int}{d:Nat}(e:d<x.length) (a:∀k,k<d->gt x k=0) (b:gt x d≠0):dep x=d:=by
 rcases Nat.lt_trichotomy (dep x) d with h|h|h
 ·exact absurd (a _ h) (dep_ne (by omega))
 ·exact h
 ·exact absurd (dep_zero h) b
theorem dep_T {P:Pr}{x:List Int}(hx:Vec P.orders x):T P (dep x) x:=⟨hx,λ_ hk=>dep_zero hk⟩
theorem dep_top {P:Pr}{x:List Int}(hP:Valid P) (hx:Vec P.orders x):dep x=P.orders.length↔x=zeros P.orders.length:=by
 constructor
 ·intro h
  have:=dep_T hx;rw[h] at this;exact this.top hP
 ·intro h
  rcases Nat.lt_or_ge (dep x) x.length with h1|h1
  ·exfalso
   apply dep_ne h1;have:∀k,gt (zeros P.orders.length) k=0:=λk=>gt_replicate _ _;rw[h];exact this _
  ·have:=dep_le x
   rw[<-hx.1];omega
theorem dep_lead {P:Pr}{x:List Int}{d:Nat}(b:d<P.orders.length) (a:T P d x) (e:gt x d≠0):dep x=d:=dep_eq (by rw[a.1.1];exact b) a.2 e
section
variable {P:Pr}(G:Grp P)
include G
theorem Grp.clear {d:Nat}(a:d<P.orders.length) {x z:List Int}(hx:Vec P.orders x) (e:T P d z) (b:gt z d=1) (k:Nat) (hk:((k:Int)+gt x d)%gt P.orders d=0) :
  gt (rMul P x (pw P z k)) d=0/\∀j,j<d->gt (rMul P x (pw P z k)) j=gt x j:=by
 have i:=G.pw_T (Nat.le_of_lt a) e k;have h:=G.right (Nat.le_of_lt a) hx i;refine⟨?_,h.1⟩;rw[h.2 a,G.pw_at a e,b,Int.mul_one,Int.add_emod_emod,Int.add_comm];exact hk
theorem Grp.rep_from {H:List Int->Prop}{b:Nat->List Int}(I:Ind P H b) (f:Nat):∀d x,d+f=P.orders.length->Vec P.orders x->∃y h,H h/\T P d h/\y=rMul P x h/\Vec P.orders y/\∀e,d<=e->e<P.orders.length->b e≠[]->gt y e=0:=by
 induction f with
 | zero=>
  intro d x A hx;exact⟨x,_,I.sub.one,T.zeros G.v d,(G.grp.er x hx).symm,hx,λe a m=>by omega⟩
 | succ f w=>
  intro d x A hx;have i:d<P.orders.length:=by omega
  by_cases z:b d=[]
  ·obtain ⟨y,h,h1,l,p,h4,h5⟩:=w (d+1) x (by omega) hx
   refine⟨y,h,h1,l.down (Nat.le_succ d),p,h4,λe a m j => ?_⟩;by_cases q:e=d
   ·subst q;exact absurd z j
   ·exact h5 e (by omega) m j
  ·obtain ⟨B,r,m3⟩:=I.mem d i z
   have E:=G.v.ord7 d i;have C:=hx.2 d i;have k:=G.pw_vec r.1 (gt P.orders d-gt x d).toNat;have u:=G.pw_T (Nat.le_of_lt i) r (gt P.orders d-gt x d).toNat
   have D:=G.clear i hx r m3 (gt P.orders d-gt x d).toNat (by
    rw[show(((gt P.orders d-gt x d).toNat:Nat):Int)+gt x d=gt P.orders d by omega,Int.emod_self])
   obtain⟨y,h,h1,l,p,h4,h5⟩:=w (d+1) _ (by omega) (G.mulV hx k);refine⟨y,rMul P (pw P (b d) (gt P.orders d-gt x d).toNat) h,I.sub.mul _ _ (I.sub.pw B _) h1,G.T_mul (Nat.le_of_lt i) u (l.down (Nat.le_succ d)),?_,h4,λe a m j => ?_⟩
   ·rw[p,G.ass hx k l.1]
   ·by_cases q:e=d
    ·subst q
     rw[p,(G.right (Nat.succ_le_of_lt i) (G.mulV hx k) l).1 e (by omega)];exact D.1
    ·exact h5 e (by omega) m j
theorem Grp.rep_ex {H:List Int->Prop}{b:Nat->List Int}(I:Ind P H b) {x:List Int}(hx:Vec P.orders x):∃y,Rep P H b x y:=by
 obtain⟨y,h,h1,a,i,h4,h5⟩:=G.rep_from I P.orders.length 0 x (by omega) hx;refine⟨y,h4,?_,λe j k=>h5 e (by omega) j k⟩;rw[i,<-G.ass (G.invV hx) hx a.1,G.inv_mul hx,G.grp.el _ a.1];exact h1
theorem Grp.red_of_ind {H:List Int->Prop}{b:Nat->List Int}(I:Ind P H b):∃r,Red P H r:=by
 have key:∀d,∃y,(b d=[]->y=[])/\(d<P.orders.length->b d≠[]->y≠[]/\H y/\T P d y/\gt y d=1/\∀e,d<e->e<P.orders.length->b e≠[]->gt y e=0):=by
  intro d;by_cases j:b d=[]
  ·exact⟨[],λ_=>rfl,λ_ h=>absurd j h⟩
  ·by_cases i:d<P.orders.length
   ·obtain ⟨z,l,m3⟩:=I.mem d i j
    obtain⟨y,h,h1,k,m,h4,h5⟩:=G.rep_from I (P.orders.length-(d+1)) (d+1) (b d) (by omega) l.1;have p:T P d y:=by rw[m];exact G.T_mul (Nat.le_of_lt i) l (k.down (Nat.le_succ d))
    refine⟨y,λh=>absurd h j,λ_ _=>⟨?_,?_,p,?_,λe a A q=>h5 e (by omega) A q⟩⟩
    ·intro e
     have:=h4.1;rw[e] at this;simp at this;omega
    ·rw[m];exact I.sub.mul _ _ z h1
    ·rw[m,(G.right (Nat.succ_le_of_lt i) l.1 k).1 d (by omega)];exact m3
   ·exact⟨[],λ_=>rfl,λh=>absurd h i⟩
 have hex:=λd=>key d;refine⟨λd=>Classical.choose (hex d),⟨⟨I.sub,λd i hr => ?_,λx hx d i B C => ?_⟩,λd e u D h1 k => ?_⟩⟩
 ·have s:=Classical.choose_spec (hex d)
  have j:b d≠[]:=λh=>hr (s.1 h);have:=s.2 i j;exact⟨this.2.1,this.2.2.1,this.2.2.2.1⟩
 ·have s:=Classical.choose_spec (hex d)
  exact(s.2 i (I.piv x hx d i B C)).1
 ·have s:=Classical.choose_spec (hex d)
  have E:=Classical.choose_spec (hex e);have j:b d≠[]:=λh=>h1 (s.1 h);have w:b e≠[]:=λh=>k (E.1 h);exact(s.2 (by omega) j).2.2.2.2 e u D w
omit G in
theorem unit_ex {o a:Int}(b:o=2\/o=3\/o=5\/o=7) (ha:0<a) (e:a<o):∃k:Nat,((k:Int)*a)%o=1:=by
 rcases b with rfl|rfl|rfl|rfl
 ·exact⟨1,by have:a=1:=(by omega);subst this;rfl⟩
 ·rcases (show a=1\/a=2 by omega) with rfl|rfl
  ·exact⟨1,rfl⟩
  ·exact⟨2,rfl⟩
 ·rcases (show a=1\/a=2\/a=3\/a=4 by omega) with rfl|rfl|rfl|rfl
  ·exact⟨1,rfl⟩
  ·exact⟨3,rfl⟩
  ·exact⟨2,rfl⟩
  ·exact⟨4,rfl⟩
 ·rcases (show a=1\/a=2\/a=3\/a=4\/a=5\/a=6 by omega) with rfl|rfl|rfl|rfl|rfl|rfl
  ·exact⟨1,rfl⟩
  ·exact⟨4,rfl⟩
  ·exact⟨5,rfl⟩
  ·exact⟨2,rfl⟩
  ·exact⟨3,rfl⟩
  ·exact⟨6,rfl⟩
open Classical in
theorem Grp.ind_ex {H:List Int->Prop}(S:Sub P H):∃b,Ind P H b:=by
 refine⟨λd=>if h:∃y,d<P.orders.length/\H y/\T P d y/\gt y d=1 then Classical.choose h else [],S,λd _ i => ?_,λx hx d a j p => ?_⟩
 ·by_cases h:∃y,d<P.orders.length/\H y/\T P d y/\gt y d=1
  ·simp only[dif_pos h] at i ⊢
   exact(Classical.choose_spec h).2
  ·simp only[dif_neg h] at i;exact absurd rfl i
 ·have l:=j.1.2 d a
  obtain⟨k,hk⟩:=unit_ex (G.v.ord d a) (by omega) l.2;have h:∃y,d<P.orders.length/\H y/\T P d y/\gt y d=1:=⟨pw P x k,a,S.pw hx k,G.pw_T (Nat.le_of_lt a) j k,by rw[G.pw_at a j];exact hk⟩;simp only[dif_pos h];have m:=(Classical.choose_spec h).2.2.1.1.1;intro e;rw[e] at m;simp at m;omega
open Classical in
noncomputable def cseq (P:Pr) (H:List Int->Prop):List (List Int):=if h:∃r,Red P H r then seqOf P.orders.length (Classical.choose h) else []
theorem Grp.cseq_red {H:List Int->Prop}{r:Nat->List Int}(A:Red P H r):cseq P H=seqOf P.orders.length r:=by
 unfold cseq;have h:∃r,Red P H r:=⟨r,A⟩;rw[dif_pos h];exact G.seq_one (Classical.choose_spec h) A
theorem Grp.cseq_spec {H:List Int->Prop}(S:Sub P H):∃r,Red P H r/\cseq P H=seqOf P.orders.length r:=by
 obtain⟨b,I⟩:=G.ind_ex S;obtain⟨r,A⟩:=G.red_of_ind I;exact⟨r,A,G.cseq_red A⟩
end
/-! ### a sequence as a list -/
def depsOf (n:Nat) (r:Nat->List Int):List Nat:=(List.range n).filter (λd=>decide (r d≠[]))
theorem seqOf_map (n:Nat) (r:Nat->List Int):seqOf n r=(depsOf n r).map r:=by
 unfold seqOf depsOf;induction n with
 | zero=>rfl
 | succ n a=>
  rw[List.range_succ,List.filterMap_append,List.filter_append,List.map_append,a];by_cases h:r n=[]<;>simp[h]
theorem depsOf_mem {n:Nat}{r:Nat->List Int}{d:Nat} : d∈depsOf n r↔d<n/\r d≠[]:=by unfold depsOf;simp
section
variable {P:Pr}(G:Grp P)
include G
theorem Grp.left_clear {d:Nat}(b:d<P.orders.length) {x t:List Int}(hx:T P d x) (j:T P d t) (e:gt t d=1) :
  T P (d+1) (rMul P (pw P t (gt P.orders d-gt x d).toNat) x)/\∀K,Sub P K->K t->(K (rMul P (pw P t (gt P.orders d-gt x d).toNat) x)↔K x):=by
 have m:=G.v.ord7 d b;have k:=hx.1.2 d b;have a:=G.pw_T (Nat.le_of_lt b) j (gt P.orders d-gt x d).toNat;refine⟨?_,λK S h1=>⟨λi => ?_,λi=>S.mul _ _ (S.pw h1 _) i⟩⟩
 ·refine (G.T_mul (Nat.le_of_lt b) a hx).up ?_
  rw[(G.right (Nat.le_of_lt b) a.1 hx).2 b,G.pw_at b j,e,Int.mul_one,Int.emod_add_emod,show(((gt P.orders d-gt x d).toNat:Nat):Int)+gt x d=gt P.orders d by omega,Int.emod_self]
 ·have l:=S.mul _ _ (S.inv _ (S.pw h1 (gt P.orders d-gt x d).toNat)) i
  rwa [<-G.ass (G.invV a.1) a.1 hx.1,G.inv_mul a.1,G.grp.el _ hx.1] at l
def pwZ (P:Pr) (x:List Int) (k:Int):List Int:=if k<0 then pw P (rInv P x) (-k).toNat else pw P x k.toNat
theorem Grp.pwZ_vec {x:List Int}(hx:Vec P.orders x) (k:Int):Vec P.orders (pwZ P x k):=by
 unfold pwZ;split
 ·exact G.pw_vec (G.invV hx) _
 ·exact G.pw_vec hx _
omit G in
theorem Sub.pwZ {H:List Int->Prop}(S:Sub P H) {x:List Int}(hx:H x) (k:Int):H (Go.Proofs.YtldheeicjnncoaaGreat.pwZ P x k):=by
 unfold Go.Proofs.YtldheeicjnncoaaGreat.pwZ;split
 ·exact S.pw (S.inv _ hx) _
 ·exact S.pw hx _
theorem Grp.pwZ_T {x:List Int}{d:Nat}(a:d<=P.orders.length) (hx:T P d x) (k:Int):T P d (pwZ P x k):=by
 unfold pwZ;split
 ·exact G.pw_T a (G.T_inv a hx) _
 ·exact G.pw_T a hx _
theorem Grp.inv_at {x:List Int}{d:Nat}(a:d<P.orders.length) (hx:T P d x):(gt (rInv P x) d+gt x d)%gt P.orders d=0:=by
 have hi:=G.T_inv (Nat.le_of_lt a) hx;have h:=(G.right (Nat.le_of_lt a) hi.1 hx).2 a;rw[G.inv_mul hx.1] at h;have b:gt (zeros P.orders.length) d=0:=gt_replicate _ _;rw[<-h,b]
theorem Grp.right_clear {d:Nat}(a:d<P.orders.length) {x t:List Int}(hx:Vec P.orders x) (i:T P d t) (j:gt t d=1) :
  gt (rMul P x (pwZ P t (-(gt x d)))) d=0/\(∀k,k<d->gt (rMul P x (pwZ P t (-(gt x d)))) k=gt x k)/\Vec P.orders (rMul P x (pwZ P t (-(gt x d)))):=by
 have w:=G.v.ord7 d a;have m:=hx.2 d a;have b:=G.pwZ_T (Nat.le_of_lt a) i (-(gt x d));have h:=G.right (Nat.le_of_lt a) hx b;refine⟨?_,h.1,G.mulV hx b.1⟩;rw[h.2 a];by_cases l:gt x d=0
 ·have:pwZ P t (-(gt x d))=zeros P.orders.length:=by
   unfold pwZ;rw[l];simp;rfl
  have p:gt (zeros P.orders.length) d=0:=gt_replicate _ _;rw[this,p,l];simp
 ·have e:pwZ P t (-(gt x d))=pw P (rInv P t) (gt x d).toNat:=by
   unfold pwZ;rw[if_pos (by omega),Int.neg_neg]
  rw[e,G.pw_at a (G.T_inv (Nat.le_of_lt a) i)];have hi:=G.inv_at a i;rw[j] at hi;have q:=(G.invV i.1).2 d a;-- the inverse's entry is one less than the order
  have r:gt (rInv P t) d=gt P.orders d-1:=by
   by_cases h1:gt (rInv P t) d+1<gt P.orders d
   ·rw[Int.emod_eq_of_lt (by omega) h1] at hi;omega
   ·omega
  rw[r,show(((gt x d).toNat:Nat):Int)=gt x d by omega,Int.add_emod_emod];have u:gt x d+gt x d*(gt P.orders d-1)=gt x d*gt P.orders d:=by rw[Int.mul_sub,Int.mul_one];omega
  rw[u,Int.mul_emod_left]
theorem Grp.lead_one {d:Nat}(a:d<P.orders.length) {x:List Int}(hx:T P d x) (k:Int) (b:0<=k) (hk:(k*gt x d)%gt P.orders d=1):T P d (pw P x k.toNat)/\gt (pw P x k.toNat) d=1:=by
 refine⟨G.pw_T (Nat.le_of_lt a) hx _,?_⟩;rw[G.pw_at a hx,show((k.toNat:Nat):Int)=k by omega];exact hk
end
end Go.Proofs.YtldheeicjnncoaaGreat
namespace Go.Proofs.YtldheeicjnncoaaGreat
open Go.RowKit
theorem tmod_residue (a m:Int) (b:0<m):(a.tmod m+m).tmod m=a%m:=by
 have h1 : -m<a.tmod m/\a.tmod m<m:=⟨Int.neg_lt_of_neg_lt (by have:=Int.lt_tmod_of_pos a b;omega),Int.tmod_lt_of_pos a b⟩;rw[Int.tmod_eq_emod_of_nonneg (by omega),Int.add_emod_right];rw[Int.tmod_eq_emod];split
 ·rw[show((0:Nat):Int)=0 from rfl,Int.sub_zero,Int.emod_emod_of_dvd _ (Int.dvd_refl m)]
 ·rw[show a%m-m.natAbs=a%m-m by omega,Int.sub_emod,Int.emod_self,Int.sub_zero,Int.emod_emod_of_dvd _ (Int.dvd_refl m),Int.emod_emod_of_dvd _ (Int.dvd_refl m)]
theorem residue_ok (a m:Int) (w:World) (k:1<=m/\m<=1000000000) :
  Calls Tryz.prog 127 #[.int .i64 a,.int .i64 m] w λe w'=>e=.returned (.int .i64 (a%m))/\w=w':=by
 have h1 : -m<a.tmod m/\a.tmod m<m:=⟨by have:=Int.lt_tmod_of_pos a (show 0<m by omega);omega,Int.tmod_lt_of_pos a (by omega)⟩;have l:=tmod_residue a m (by omega);have p:IntKind.i64.wrap (a.tmod m)=a.tmod m:=IntWalk.i64_in _ (by omega);have q:IntKind.i64.wrap (a.tmod m+m)=a.tmod m+m:=IntWalk.i64_in _ (by omega);have r:0<=a%m/\a%m<m:=⟨Int.emod_nonneg _ (by omega),Int.emod_lt_of_pos _ (by omega)⟩;have u:IntKind.i64.wrap (a%m)=a%m:=IntWalk.i64_in _ (by omega);have b:(m == 0)=false:=by simp;omega
 have i:¬m=0:=by omega
 have j:¬m = -1:=by omega
 go_enter Tryz.func127,Tryz.ntmps127;go_wp2;go_ret;exact⟨rfl,rfl⟩
theorem dep_all {X:List Int}(h:∀k,k<X.length->gt X k=0):dep X=X.length:=by
 have:=dep_le X;rcases Nat.lt_or_ge (dep X) X.length with h1|h1
 ·exact absurd (h _ h1) (dep_ne h1)
 ·omega
set_option maxHeartbeats 400000 in
theorem depthOf_ok (v:Value) (X:List Int) (w:World) (S:Nat->Prop) (h:Ints S w v X) :
  Calls Tryz.prog 286 #[v] w λe w'=>e=.returned (.int .i64 (dep X))/\w=w':=by
 obtain⟨a,cap,rfl,_,_⟩:=h.shape;go_enter Tryz.func286,Tryz.ntmps286;go_wp2;go_loop [7] (λi=>∃k:Nat,i=.int .i64 k/\k<=X.length/\∀j,j<k->gt X j=0) (λi=>X.length-(intOf i).toNat)
 case atStart=>exact⟨0,rfl,by omega,λj p=>by omega⟩
 case round=>
  obtain⟨k,rfl,hk,hz⟩:=hrel;have q:=Lib.hid hz;clear hz;by_cases l:k<X.length
  ·obtain ⟨b,off,rfl,_,_,hc⟩:=Ints.at h k l
   by_cases hx:gt X k=0
   ·have u:(gt X k != 0)=false:=by simp[hx]
    have y:=Lib.hid hx;clear hx;go_wp2;go_round
    case rel=>exact⟨k+1,by go_num,by omega,λj p=>by
     rcases Nat.lt_succ_iff_lt_or_eq.1 p with h1|h1
     ·exact q.out j h1
     ·rw[h1];exact y.out⟩
    case measure=>simp[intOf];omega
   ·have u:(gt X k != 0)=true:=by simp[hx]
    have m:dep X=k:=dep_eq l q.out hx;have r:=Lib.hid m;clear m hx;go_wp2;go_ret;exact⟨by rw[r.out];rfl,rfl⟩
  ·have z:k=X.length:=by omega
   have m:dep X=X.length:=dep_all (λj p=>q.out j (by omega));have r:=Lib.hid m;clear m;go_wp2;go_ret;exact⟨by rw[r.out];rfl,rfl⟩
theorem Grp.comm_eq {P:Pr}(G:Grp P) {x y:List Int}(hx:Vec P.orders x) (hy:Vec P.orders y):tv P (iInv P x) (iConj P x y)=rMul P (rInv P (rMul P y x)) (rMul P x y):=by
 have hi:=G.invV hx;have a:=G.invV hy;have c1:=G.mulV hx hy;rw[G.iInv_eq hx,G.iConj_eq hx hy,G.tv_eq hi (G.conjV hx hy),G.inv_mulR hy hx];unfold rConj;rw[G.ass hi a c1]
set_option maxHeartbeats 400000 in
theorem commutator_ok (P:Pr) (G:Grp P) (w:World) (p a b:Value) (A B:List Int) (l u C:Nat->Prop) (y:PresP l w p P) (ha:Ints u w a A) (E:Ints C w b B) (j:Vec P.orders A) (hB:Vec P.orders B) :
  Calls Tryz.prog 231 #[p,a,b] w (Ret w λw' v=>Own w.heap.size w' v (rMul P (rInv P (rMul P B A)) (rMul P A B))):=by
 have hP:=G.v;have F:=hP.n6;have H:(iInv P A).length<=6:=by rw[(iInv_vec hP A j).1];omega
 have k:Vec P.orders (iConj P A B):=by rw[G.iConj_eq j hB];exact G.conjV j hB
 have I:(iConj P A B).length<=6:=by rw[k.1];omega
 go_enter Tryz.func231,Tryz.ntmps231;go_wp2_with fail
 refine Calls.mono (invert_ok P hP w p a A l u y ha j) ?_;rintro N J ⟨r,rfl,e,K⟩;go_wp2_with fail
 refine Calls.mono (conjugate_ok P hP J p a b A B l u C (y.ext e) (ha.ext e) (E.ext e) j hB) ?_;rintro O L ⟨m,rfl,i,M⟩;go_wp2_with fail
 refine Calls.mono (multiply_ok P hP L p r m _ _ l Any Any (y.ext (grown_trans e i)) ((K.ext0 i).ints (by omega)) (M.ints (by omega)) (iInv_vec hP A j) k) ?_;rintro Q R ⟨q,rfl,z,D⟩;rw[G.comm_eq j hB] at D;go_wp2;go_ret;exact⟨_,rfl,grown_trans (grown_trans e i) z,D.weak (by have:=e.size;have:=i.size;omega)⟩
def euc (m a:Int):Nat->Int × Int × Int × Int
 | 0=>(m,a,0,1)
 | i+1=>let s:=euc m a i;if s.2.1=0 then s else (s.2.1,s.1-s.1/s.2.1*s.2.1,s.2.2.2,s.2.2.1-s.1/s.2.1*s.2.2.2)
def eucGood (m a:Int):Bool:=
 (List.range 6).all (λi=>let s:=euc m a i;decide (0<=s.1/\s.1<=7/\0<=s.2.1/\s.2.1<=7 /\ -7<=s.2.2.1/\s.2.2.1<=7 /\ -7<=s.2.2.2/\s.2.2.2<=7/\(s.2.1=0\/i<5))) &&
  decide ((euc m a 5).2.1=0/\(euc m a 5).1=1/\((euc m a 5).2.2.1%m*a)%m=1)
theorem euc_good {m a:Int}(b:m=2\/m=3\/m=5\/m=7) (h1:1<=a) (e:a<m):eucGood m a=true:=by
 rcases b with rfl|rfl|rfl|rfl
 ·have:a=1:=by omega
  subst this;decide
 ·rcases(show a=1\/a=2 by omega) with rfl|rfl<;>decide
 ·rcases(show a=1\/a=2\/a=3\/a=4 by omega) with rfl|rfl|rfl|rfl<;>decide
 ·rcases(show a=1\/a=2\/a=3\/a=4\/a=5\/a=6 by omega) with rfl|rfl|rfl|rfl|rfl|rfl<;>decide
theorem euc_stay (m a:Int) (i j:Nat) (h:(euc m a i).2.1=0):euc m a (i+j)=euc m a i:=by
 induction j with
 | zero=>rfl
 | succ j b=>
  show euc m a (i+j+1)=_
  simp only[euc,b,if_pos h]
set_option maxHeartbeats 1000000 in
theorem inverseMod_ok (a m:Int) (w:World) (B:m=2\/m=3\/m=5\/m=7) (h1:1<=a) (N:a<m) :
  Calls Tryz.prog 126 #[.int .i64 a,.int .i64 m] w λe w'=>(∃k:Int,e=.returned (.tuple #[.int .i64 k,.bool true])/\0<=k/\k<m/\(k*a)%m=1)/\w=w':=by
 have C:=euc_good B h1 N;unfold eucGood at C;rw[Bool.and_eq_true,List.all_eq_true] at C;obtain⟨p,hend⟩:=C;have H:∀i,i<6->0<=(euc m a i).1/\(euc m a i).1<=7/\0<=(euc m a i).2.1/\(euc m a i).2.1<=7 /\ -7<=(euc m a i).2.2.1/\(euc m a i).2.2.1<=7 /\ -7<=(euc m a i).2.2.2/\(euc m a i).2.2.2<=7/\((euc m a i).2.1=0\/i<5):=λi hi=>of_decide_eq_true (p i (List.mem_range.2 hi));have I:=of_decide_eq_true hend;have D:=Lib.hid (And.intro H I);clear H I p hend;have O:2<=m/\m<=7:=by omega
 have HM:=Lib.hid B;clear B;go_enter Tryz.func126,Tryz.ntmps126;go_wp2;go_loopg [6,7,8,9] 5 (λgk Q R S U wr=>∃(i:Nat) (r n x y:Int),gk+i=5/\Q=.int .i64 r/\R=.int .i64 n/\S=.int .i64 x/\U=.int .i64 y/\euc m a i=(r,n,x,y)/\w=wr)
 case atStart=>exact⟨0,m,a,0,1,rfl,rfl,rfl,rfl,rfl,rfl,rfl⟩
 case round=>
  obtain⟨i,r,n,x,y,hgi,rfl,rfl,rfl,rfl,E,rfl⟩:=hrel;have q:=D.out.1 i (by omega);rw[E] at q;simp only at q;obtain⟨b1,b2,b3,b4,b5,b6,b7,b8,J⟩:=q;have A:=Lib.hid (And.intro E J);clear E J;by_cases hn:n=0
  ·subst hn
   have u:euc m a 5=(r,0,x,y):=by
    have K:=euc_stay m a i (5-i) (by rw[A.out.1]);rw[show i+(5-i)=5 by omega] at K;rw[K,A.out.1]
   have j:=D.out.2;rw[u] at j;simp only at j;obtain⟨_,hr,hk⟩:=j;subst hr;have z:0<=x%m/\x%m<m:=⟨Int.emod_nonneg _ (by omega),Int.emod_lt_of_pos _ (by omega)⟩;have V:=Lib.hid hk;clear hk u;go_wp2_with (go_at_call 127;refine Calls.mono (residue_ok x m w (by omega)) ?_;rintro eR wR ⟨rfl,rfl⟩)
   go_ret2
   exact⟨⟨_,rfl,z.1,z.2,V.out⟩,rfl⟩
  ·have W:(n != 0)=true:=by simp[hn]
   have X:i<5:=A.out.2.resolve_left hn;have Y:0<n:=by omega
   have b:euc m a (i+1)=(n,r-r/n*n,y,x-r/n*y):=by
    simp only[euc,A.out.1];rw[if_neg hn]
   have l:=D.out.1 (i+1) (by omega);rw[b] at l;simp only at l;have F:=Lib.hid (And.intro b l);clear b;have G:0<=r/n:=Int.ediv_nonneg b1 (by omega);have Z:r/n<=7:=Int.le_trans (Int.ediv_le_self _ b1) b2;have aa:0<=r/n*n:=Int.mul_nonneg G (by omega);have L:r/n*n<=7:=by omega
   have M : -100<=r/n*y/\r/n*y<=100:=by omega
   have e1:r.tdiv n=r/n:=Int.tdiv_eq_ediv_of_nonneg b1;have e2:IntKind.i64.wrap (r/n)=r/n:=IntWalk.i64_in _ (by omega);have e3:IntKind.i64.wrap (r/n*n)=r/n*n:=IntWalk.i64_in _ (by omega);have e4:IntKind.i64.wrap (r-r/n*n)=r-r/n*n:=IntWalk.i64_in _ (by omega);have e5:IntKind.i64.wrap (r/n*y)=r/n*y:=IntWalk.i64_in _ (by omega);have e6:IntKind.i64.wrap (x-r/n*y)=x-r/n*y:=IntWalk.i64_in _ (by omega);clear l hn;go_wp2;go_roundg (gk-1)
   case measure=>omega
   case rel=>exact⟨i+1,n,r-r/n*n,y,x-r/n*y,by omega,rfl,rfl,rfl,rfl,F.out.1,rfl⟩
def numTo (o x:List Int):Nat->Int
 | 0=>0
 | k+1=>numTo o x k*gt o k+gt x k
def num (P:Pr) (x:List Int):Int:=numTo P.orders x P.orders.length
theorem numTo_bd {P:Pr}(hP:Valid P) {x:List Int}(hx:Vec P.orders x) (k:Nat) (hk:k<=P.orders.length):0<=numTo P.orders x k/\numTo P.orders x k+1<=prodTo P.orders k:=by
 induction k with
 | zero=>simp[numTo,prodTo]
 | succ k a=>
  obtain⟨h1,h2⟩:=a (by omega);have e:=hP.pos k (by omega);have i:=hx.2 k (by omega);have j:0<=numTo P.orders x k*gt P.orders k:=Int.mul_nonneg h1 (by omega);have b:(numTo P.orders x k+1)*gt P.orders k<=prodTo P.orders k*gt P.orders k:=Int.mul_le_mul_of_nonneg_right h2 (by omega);rw[Int.add_mul,Int.one_mul] at b;simp only[numTo,prodTo];omega
theorem num_bd {P:Pr}(hP:Valid P) {x:List Int}(hx:Vec P.orders x):0<=num P x/\num P x<ordP P:=by
 have:=numTo_bd hP hx P.orders.length (Nat.le_refl _);unfold num ordP;omega
def elTo (o:List Int) (N:Nat) (m:Int):Nat->List Int × Int
 | 0=>(List.replicate N 0,m)
 | k+1=>
  let s:=elTo o N m k
  (s.1.set (N-1-k) (s.2%gt o (N-1-k)),s.2/gt o (N-1-k))
def elAt (P:Pr) (m:Int):List Int:=(elTo P.orders P.orders.length m P.orders.length).1
theorem elTo_inv {P:Pr}(hP:Valid P) (m:Int) (b:0<=m) (k:Nat) (hk:k<=P.orders.length) :
  Vec P.orders (elTo P.orders P.orders.length m k).1/\0<=(elTo P.orders P.orders.length m k).2/\(elTo P.orders P.orders.length m k).2<=m:=by
 induction k with
 | zero=>
  refine⟨⟨by simp[elTo],λi hi => ?_⟩,b,Int.le_refl _⟩;have:=hP.ord7 i hi;simp only[elTo];rw[gt_replicate];omega
 | succ k e=>
  obtain⟨h1,a,j⟩:=e (by omega);have l:=hP.ord7 (P.orders.length-1-k) (by omega);refine⟨h1.set _ _ ⟨Int.emod_nonneg _ (by omega),λ_=>Int.emod_lt_of_pos _ (by omega)⟩,Int.ediv_nonneg a (by omega),?_⟩;exact Int.le_trans (Int.ediv_le_self _ a) j
theorem elAt_vec {P:Pr}(hP:Valid P) (m:Int) (a:0<=m):Vec P.orders (elAt P m):=(elTo_inv hP m a _ (Nat.le_refl _)).1
set_option maxHeartbeats 1000000 in
theorem elementAt_ok (P:Pr) (hP:Valid P) (w:World) (p:Value) (m:Int) (I:Nat->Prop) (C:PresP I w p P) (J:0<=m) (K:m<=1000000000) :
  Calls Tryz.prog 202 #[p,.int .i64 m] w (Ret w λw' v=>Own w.heap.size w' v (elAt P m)):=by
 have N:=hP.n6;obtain⟨pb,po,rfl⟩:=C.shape;obtain⟨U,capo,gy,hoi⟩:=C.ordAt;have l:=gy;go_enter Tryz.func202,Tryz.ntmps202;go_wp2_with (at_make;refine wp_make_ints rfl _ _ rfl w.heap.size P.orders.length w.heap.size rfl _ rfl rfl rfl (by omega) (by simp) ?_;intro V u y _)
 clear l;have q:=Lib.hid gy;clear gy
 go_loopw [1,6] (λO i wr=>∃k:Nat,i=.int .i64 ((P.orders.length:Int)-1-k)/\O=.int .i64 (elTo P.orders P.orders.length m k).2/\k<=P.orders.length/\Ext w wr /\
   Own w.heap.size wr (.slice (some ⟨w.heap.size,0,none⟩) P.orders.length P.orders.length) (elTo P.orders P.orders.length m k).1) (λ_ i _=>(intOf i+1).toNat)
 case atStart=>exact⟨0,by simp,rfl,by omega,y,u⟩
 case round=>
  obtain⟨k,rfl,rfl,hk,hg,hO⟩:=hrel;obtain⟨Q,hm0,hm1⟩:=elTo_inv hP m J k hk;by_cases z:k<P.orders.length
  ·obtain ⟨b2,off2,rfl,_,_,iX⟩:=Ints.at hoi (P.orders.length-1-k) (by omega)
   have l:=hg.cell q.out (by simp);have R:=hg.cell iX (by simp);have b:=hP.ord7 (P.orders.length-1-k) (by omega);have W:=hO.cell (P.orders.length-1-k) (by rw[Q.1];omega);have X:=hO.frozen (P.orders.length-1-k);have a:elTo P.orders P.orders.length m (k+1)=((elTo P.orders P.orders.length m k).1.set (P.orders.length-1-k) ((elTo P.orders P.orders.length m k).2%gt P.orders (P.orders.length-1-k)),(elTo P.orders P.orders.length m k).2/gt P.orders (P.orders.length-1-k)):=rfl;have r:=Lib.hid a;clear a;obtain⟨A,hg2⟩:=hO.store (P.orders.length-1-k) ((elTo P.orders P.orders.length m k).2%gt P.orders (P.orders.length-1-k));have e:Ext w (wr.setCell ⟨w.heap.size,P.orders.length-1-k,none⟩ (.int .i64 ((elTo P.orders P.orders.length m k).2%gt P.orders (P.orders.length-1-k)))):=grown_own hg hg2 (λj S z=>by cases S;omega);have D:=e.cell q.out (by simp);have E:=e.cell iX (by simp);clear iX;have F:((P.orders.length:Int)-1-k).toNat=P.orders.length-1-k:=by omega
   generalize hi:P.orders.length-1-k=i at *;generalize (elTo P.orders P.orders.length m k).1=L at *;generalize (elTo P.orders P.orders.length m k).2=M at *;have G:2<=gt P.orders i:=b.1;have H:gt P.orders i<=7:=b.2;have Y:=Lib.hid hi;clear hi b;go_wp2;go_roundw
   case rel=>exact⟨k+1,by congr 1;omega,by rw[r.out],by omega,e,by rw[r.out];exact A⟩
   case measure=>simp[intOf];omega
  ·have B:k=P.orders.length:=by omega
   subst B;go_wp2;go_ret;exact⟨_,rfl,hg,hO⟩
theorem und_rows:Tryz.prog.underlying 25=some (.slice 24):=by kernel_rfl
theorem Tryz.infoRow:(Tryz.prog.info? 24).map (λi=>(i.zero,i.size,i.bytes))=some (some (.slice none 0 0),1,24):=by kernel_rfl
theorem wp_app_row {ops:Array Oper}{rest:List Oper}{o:Oper}{a:Act}{Q:Exit->Act->World->Prop}{w:World}(l:o.guard=none) (s x:Operand)
  (m:o.op=Op.call { callee:=Callee.builtin Builtin.append,args := #[s,x],argTypes := #[25,25] }) (B:Nat) (e i:World) (v u:Value) (xs:List (List Int)) (y:List Int) (p:a.eval s=v) (j:RowsO B e v xs)
  (q:Ext e i) (r:OwnIn (From e.heap.size) i u y) (z:w=i.alloc (.cells #[u] 24)) (hx:a.eval x=.slice (some ⟨i.heap.size,0,none⟩) 1 1) (k:xs.length<=1000000) (b:B<=e.heap.size)
  (h:∀v' w',RowsO B w' v' (xs++[y])->e.grownBy w' v.ownBlock->i.grownBy w' v.ownBlock->wpList Tryz.prog ops Q rest (a.put o.dst v') w') :
  wpList Tryz.prog ops Q (o :: rest) a w:=
 wp_app_one rdOwn 25 24 (.slice none 0 0) 24 und_rows Tryz.infoRow rfl (by decide) l s x m B e i v u xs y p j q r z hx k b h
theorem SlO.lt {α:Type} [Inhabited α] {El:(Nat->Prop)->World->Value->α->Prop}{E B:Nat}{w:World}{v:Value}{xs:List α}(h:SlO El E B w v xs) (k:Nat) (hk:v.ownBlock=some k):B<=k/\k<w.heap.size:=by
 obtain⟨a,G,_,hO,_⟩:=h;exact hO.lt k hk
theorem SlO.extw {α:Type} [Inhabited α] {El:(Nat->Prop)->World->Value->α->Prop}{E B:Nat}{w a b:World}{v:Value}{xs:List α}(h:SlO El E B a v xs) (e:Ext w a) (hB:w.heap.size<=B) (k:a.grownBy b v.ownBlock):Ext w b:=
 grown_own e k (λj i l=>by have:=(h.lt j i).1;omega)
def allEl (P:Pr):List (List Int):=(List.range (ordP P).toNat).map (λk:Nat=>elAt P (k:Int))
theorem range_map_succ {α:Type}(f:Nat->α) (k:Nat):(List.range (k+1)).map f=(List.range k).map f++[f k]:=by
 rw[List.range_succ,List.map_append];rfl
set_option maxHeartbeats 400000 in
theorem allElements_ok (P:Pr) (hP:Valid P) (w:World) (p:Value) (l:Nat->Prop) (z:PresP l w p P) :
  Calls Tryz.prog 135 #[p] w (Ret w λw' v=>RowsO w.heap.size w' v (allEl P)):=by
 have A:ordP P<=729:=hP.le729;have B:=hP.ordP_pos;go_enter Tryz.func135,Tryz.ntmps135;go_wp2_with (go_at_call 131;refine(orderOf_ok _ _ P l hP z).mono ?_;rintro H I ⟨rfl,rfl⟩)
 go_loopw [3,7] (λv i wr=>∃k:Nat,i=.int .i64 k/\k<=(ordP P).toNat/\Ext w wr/\RowsO w.heap.size wr v ((List.range k).map (λk:Nat=>elAt P (k:Int)))) (λ_ i _=>(ordP P).toNat-(intOf i).toNat)
 case atStart=>exact⟨0,rfl,by omega,Ext.refl _,SlO.nil _ _ _ _⟩
 case round=>
  obtain⟨k,rfl,hk,e,hO⟩:=hrel;by_cases E:(k:Int)<ordP P
  ·go_wp2_with fail
   refine Calls.mono (elementAt_ok P hP wr p k l (z.ext e) (by omega) (by omega)) ?_;rintro J C ⟨r,rfl,m,hR⟩;have D:=elAt_vec hP (k:Int) (by omega);have a:OwnIn (From wr.heap.size) C r (elAt P k):=OwnIn.of hR (by rw[D.1];have:=hP.n6;omega) (λj F _=>F);clear D;obtain⟨K,capr,rfl,_,_⟩:=a.ints.shape;go_wp2_with (at_builtin;go_must (refine wp_app_row rfl _ _ rfl w.heap.size wr C _ _ _ (elAt P k) rfl hO m a rfl rfl (by simp;omega) e.size ?_);intro v3 L b q G)
   have u:=hO.extw e (Nat.le_refl _) q;rw[<-range_map_succ (λk:Nat=>elAt P (k:Int))] at b;go_roundw
   case rel=>exact⟨k+1,by go_num,by omega,u,b⟩
   case measure=>simp[intOf];omega
  ·have y:k=(ordP P).toNat:=by omega
   subst y;go_wp2;go_ret;exact⟨_,rfl,e,hO⟩
def gensOf (n:Nat):List (List Int):=(List.range n).map (λk:Nat=>unitV n k)
set_option maxHeartbeats 400000 in
theorem generators_ok (P:Pr) (hP:Valid P) (w:World) (p:Value) (C:Nat->Prop) (A:PresP C w p P) :
  Calls Tryz.prog 147 #[p] w (Ret w λw' v=>RowsO w.heap.size w' v (gensOf P.orders.length)):=by
 have D:=hP.n6;obtain⟨pb,po,rfl⟩:=A.shape;obtain⟨G,capo,gy,hoi⟩:=A.ordAt;have a:=gy;go_enter Tryz.func147,Tryz.ntmps147;go_wp2;clear a;have l:=Lib.hid gy;clear gy;go_loopw [3,10] (λv i wr=>∃k:Nat,i=.int .i64 k/\k<=P.orders.length/\Ext w wr/\RowsO w.heap.size wr v ((List.range k).map (λk:Nat=>unitV P.orders.length k))) (λ_ i _=>P.orders.length-(intOf i).toNat)
 case atStart=>exact⟨0,rfl,by omega,Ext.refl _,SlO.nil _ _ _ _⟩
 case round=>
  obtain⟨k,rfl,hk,hg,hO⟩:=hrel;by_cases m:k<P.orders.length
  ·have a:=hg.cell l.out (by simp)
   go_wp2_with fail
   refine Calls.mono (unitVector_ok P.orders.length k wr m (by omega)) ?_;rintro H B ⟨r,rfl,q,hR⟩;have b:OwnIn (From wr.heap.size) B r (unitV P.orders.length k):=OwnIn.of hR (by simp[unitV];omega) (λj E _=>E);obtain⟨I,capr,rfl,_,_⟩:=b.ints.shape;go_wp2_with (at_builtin;go_must (refine wp_app_row rfl _ _ rfl w.heap.size wr B _ _ _ (unitV P.orders.length k) rfl hO q b rfl rfl (by simp;omega) hg.size ?_);intro v3 J e u F)
   have y:=hO.extw hg (Nat.le_refl _) u;rw[<-range_map_succ (λk:Nat=>unitV P.orders.length k)] at e;go_roundw
   case rel=>exact⟨k+1,by go_num,by omega,y,e⟩
   case measure=>simp[intOf];omega
  ·have z:k=P.orders.length:=by omega
   subst z;go_wp2;go_ret;exact⟨_,rfl,hg,hO⟩
theorem gtMem {α:Type} [Inhabited α] {l:List α}{i:Nat}(h:i<l.length):gt l i∈l:=by rw[gt_eq l i h];exact List.getElem_mem h
theorem nzClosure_ok (x:Int) (w:World):Calls Tryz.prog 280 #[.int .i64 x] w λe w'=>e=.returned (.bool (x != 0))/\w=w':=by
 go_enter Tryz.func280,Tryz.ntmps280;go_wp2;exact bodyPost_ret (v := .bool (x != 0)) (by simp[results,Tryz.results280,go_sem]) rfl ⟨rfl,rfl⟩
set_option maxHeartbeats 1000000 in
theorem idxNz_ok (v:Value) (X:List Int) (w:World) (S:Nat->Prop) (h:Ints S w v X) (q:dep X<X.length) :
  Calls Tryz.prog 279 #[v,.func (.func 280) #[] #[]] w λe w'=>e=.returned (.int .i64 (dep X))/\w=w':=by
 obtain⟨a,cap,rfl,_,_⟩:=h.shape;have r:=Lib.hid q;clear q;go_enter Tryz.func279,Tryz.ntmps279;go_wp2;go_loopw [8] (λv wr=>∃k:Nat,v=.int .i64 k/\k<=dep X/\w=wr) (λv _=>X.length-(intOf v).toNat)
 case atStart=>exact⟨0,rfl,by omega,rfl⟩
 case round=>
  obtain⟨k,rfl,hk,rfl⟩:=hrel;have l:k<X.length:=by have:=r.out;omega
  have u:(k:Int)<X.length:=by omega
  obtain⟨b,off,rfl,_,_,hc⟩:=Ints.at h k l;by_cases hx:gt X k=0
  ·have m:k≠dep X:=λe=>dep_ne r.out (by rw[<-e];exact hx)
   have i:=nzClosure_ok (gt X k) w;rw[show(gt X k != 0)=false by simp[hx]] at i;have p:=Lib.hid (And.intro hx m);clear hx m;go_wp2_with fail
   refine Calls.mono i ?_;rintro z A ⟨rfl,rfl⟩;clear i;go_wp2;go_roundw
   case rel=>exact⟨k+1,by go_num,by have:=p.out.2;omega,trivial⟩
   case measure=>simp[intOf];omega
  ·have y:dep X=k:=dep_eq l (λj B=>dep_zero (by omega)) hx
   have i:=nzClosure_ok (gt X k) w;rw[show(gt X k != 0)=true by simp[hx]] at i;have p:=Lib.hid y;clear hx y;go_wp2_with fail
   refine Calls.mono i ?_;rintro z A ⟨rfl,rfl⟩;clear i;go_wp2;exact bodyPost_ret (v := .int .i64 k) (by simp[results,Tryz.results279,go_sem]) rfl ⟨by rw[p.out],rfl⟩
theorem wp_app_val (T E:Nat) (z:Value) (bytes:Nat) (y:Tryz.prog.underlying T=some (.slice E)) (hE:(Tryz.prog.info? E).map (λi=>(i.zero,i.size,i.bytes))=some (some z,1,bytes))
  (l:z.cells.size=1) (m:bytes<=64) {ops:Array Oper}{rest:List Oper}{o:Oper}{a:Act}{Q:Exit->Act->World->Prop}{w:World}(p:o.guard=none) (s x:Operand)
  (A:o.op=Op.call { callee:=Callee.builtin Builtin.append,args := #[s,x],argTypes := #[T,T] }) (B:Nat) (v u:Value) (xs:List Value) (C:a.eval s=v) (w0:World) (e:OwnV B E w0 v xs) (D:w=w0.alloc (.cells #[u] E)) (h1:u.oneCell'=true)
  (hx:a.eval x=.slice (some ⟨w0.heap.size,0,none⟩) 1 1) (r:xs.length<=1000000) (q:B<=w0.heap.size)
  (h:∀v' w',OwnV B E w' v' (xs++[u])->w0.grownBy w' v.ownBlock->wpList Tryz.prog ops Q rest (a.put o.dst v') w') :
  wpList Tryz.prog ops Q (o :: rest) a w:=by
 subst D;have b:Ext w0 (w0.alloc (.cells #[u] E)):=World.grownBy_alloc _ _ _;refine wp_app T E z bytes y hE l m p s x A B v xs C (e.kept b (by cases H:v.ownBlock<;>simp)) (some ⟨w0.heap.size,0,none⟩) 1 1 [u] hx rfl (by simp) ?_ ?_ (by simp;omega) (by have:=b.size;omega) ?_
 ·intro j I
  have:j=0:=by omega
  subst this;exact⟨_,_,rfl,by rw[World.cell?_alloc_at _ _ _ _ rfl];rfl⟩
 ·intro J k
  simp at k;subst k;exact h1
 ·intro v' w' F G _ _
  exact h v' w' F (grown_trans (grown_of_ext _ b) G)
theorem und_intsG:Tryz.prog.underlying 170=some (.slice 3):=by kernel_rfl
theorem Tryz.infoIntG:(Tryz.prog.info? 3).map (λi=>(i.zero,i.size,i.bytes))=some (some (.int .i64 0),1,8):=by kernel_rfl
def depV (U:List (List Int)):List Value:=U.map (λz => .int .i64 (dep z))
set_option maxHeartbeats 1000000 in
theorem pivots_ok (v:Value) (U:List (List Int)) (w:World) (S:Nat->Prop) (h:Rows2 S w v U) (hU:∀z∈U,dep z<z.length) (M:U.length<=100000) :
  Calls Tryz.prog 191 #[v] w (Ret w λw' r=>OwnV w.heap.size 3 w' r (depV U)):=by
 obtain⟨a,cap,rfl,_,_⟩:=Sl.shape h;have G:=Lib.hid hU;clear hU;go_enter Tryz.func191,Tryz.ntmps191;go_wp2;go_loopw [3,8] (λH p wr=>∃(k:Nat) (v4:Value),v4=H/\p=.int .i64 k/\k<=U.length/\Ext w wr/\OwnV w.heap.size 3 wr v4 (depV (U.take k))) (λ_ p _=>U.length-(intOf p).toNat)
 case atStart=>exact⟨0,_,rfl,rfl,by omega,Ext.refl _,World.ownsRow_nil _ _ _ _⟩
 case round=>
  obtain⟨k,v4,rfl,rfl,hk,m,hO⟩:=hrel;by_cases i:k<U.length
  ·obtain ⟨b,off,a2,cap2,rfl,_,_,hc,hi⟩:=Rows2.at (Rows2.ext h m) k i
   have e:depV (U.take (k+1))=depV (U.take k)++[.int .i64 (dep (gt U k))]:=by unfold depV;rw[take_succ_gt U k i,List.map_append];rfl
   have q:(depV (U.take k)).length<=1000000:=by unfold depV;rw[List.length_map,List.length_take];omega
   have I:=Lib.hid e;clear e;have E:(k:Int)<U.length:=by omega
   go_wp2_with fail
   refine Calls.mono (idxNz_ok _ (gt U k) wr _ hi (G.out _ (gtMem i))) ?_;rintro N O ⟨rfl,rfl⟩;go_wp2_with (first|(at_builtin;refine wp_app_val 170 3 (.int .i64 0) 8 und_intsG Tryz.infoIntG rfl (by decide) rfl _ _ rfl w.heap.size v4 _ (depV (U.take k)) rfl wr hO rfl rfl rfl q m.size ?_;intro v5 J u y)|fail)
   have A:Ext w J:=grown_own m y (λj K i=>by have:=(hO.lt j K).1;omega);go_roundw
   case rel=>exact⟨k+1,v5,rfl,by go_num,by omega,A,by rw[I.out];exact u⟩
   case measure=>simp[intOf];omega
  ·have B:k=U.length:=by omega
   subst B;rw[List.take_length] at hO
   have C:∃F l,v4=.slice F U.length l:=by
    rcases hO.form with⟨h1,D⟩|⟨g,cp,h1,_⟩
    ·have L:U.length=0:=by unfold depV at D;rw[List.map_eq_nil_iff] at D;rw[D];rfl
     exact⟨none,0,by rw[h1,L]⟩
    ·exact⟨_,_,by rw[h1];unfold depV;rw[List.length_map]⟩
   obtain⟨F,l,rfl⟩:=C;go_wp2;go_ret;exact⟨_,rfl,m,hO⟩
theorem Tryz.infoRows:(Tryz.prog.info? 25).map (λi=>(i.zero,i.size,i.bytes))=some (some (.slice none 0 0),1,24):=by kernel_rfl
theorem und_rows3:Tryz.prog.underlying 26=some (.slice 25):=by kernel_rfl
def Box3 (W:World) (b:Nat) (x0 x1 x2:Value):Prop:=
 b<W.heap.size/\W.cell? ⟨b,0,none⟩=some x0/\W.cell? ⟨b,1,none⟩=some x1/\W.cell? ⟨b,2,none⟩=some x2/\∀k,W.frozen? ⟨b,k,none⟩=false
theorem Box3.ext {W W':World}{b:Nat}{x0 x1 x2:Value}(h:Box3 W b x0 x1 x2) (a:Ext W W'):Box3 W' b x0 x1 x2:=by
 obtain⟨e,h1,h2,h3,i⟩:=h;exact⟨Nat.lt_of_lt_of_le e a.size,a.cell h1 (by simp),a.cell h2 (by simp),a.cell h3 (by simp),λk=>(World.frozen?_of_block (w:=W) (a.block b e (by simp))).trans (i k)⟩
theorem Box3.put {W:World}{b:Nat}{x0 x1 x2:Value}(h:Box3 W b x0 x1 x2) (v:Value) :
  Box3 (W.setCell ⟨b,0,none⟩ v) b v x1 x2/\Box3 (W.setCell ⟨b,1,none⟩ v) b x0 v x2/\Box3 (W.setCell ⟨b,2,none⟩ v) b x0 x1 v:=by
 obtain⟨l,h1,i,j,a⟩:=h;have e:∀k,b<(W.setCell ⟨b,k,none⟩ v).heap.size:=λk=>by simpa [World.setCell] using l
 refine⟨⟨e 0,World.cell?_setCell_same _ _ _ h1,?_,?_,λk=>by simp[a]⟩,⟨e 1,?_,World.cell?_setCell_same _ _ _ i,?_,λk=>by simp[a]⟩,⟨e 2,?_,?_,World.cell?_setCell_same _ _ _ j,λk=>by simp[a]⟩⟩
 all_goals first
  | exact(World.cell?_setCell_other _ _ _ _ (by simp)).trans h1
  | exact(World.cell?_setCell_other _ _ _ _ (by simp)).trans i
  | exact(World.cell?_setCell_other _ _ _ _ (by simp)).trans j
theorem Box3.made (w:World) (T:Nat) (x0 x1 x2:Value):Box3 (w.alloc (.cells #[x0,x1,x2] T)) w.heap.size x0 x1 x2:=by
 refine⟨by simp,?_,?_,?_,λk=>World.frozen?_alloc_at _ _ _ _ rfl⟩<;>(rw[World.cell?_alloc_at _ _ _ _ rfl];rfl)
structure Touch (F:Nat->Prop) (w w':World):Prop where
 os:w'.os=w.os
 tape:w'.tape=w.tape
 output:w'.output=w.output
 size:w.heap.size<=w'.heap.size
 block:∀k,k<w.heap.size->¬F k->w'.heap[k]? = w.heap[k]?
theorem Touch.of {F:Nat->Prop}{w w':World}{r:Option Nat}(h:w.grownBy w' r) (hr:∀k,r=some k->F k):Touch F w w':=
 ⟨h.os,h.tape,h.output,h.size,λk hk hF=>h.block k hk (λe=>hF (hr k e.symm))⟩
theorem Box3.keep {W W':World}{b:Nat}{x0 x1 x2:Value}(h:Box3 W b x0 x1 x2) (a:W.heap.size<=W'.heap.size) (e:W'.heap[b]? = W.heap[b]?):Box3 W' b x0 x1 x2:=by
 obtain⟨c0,c1,c2,c3,c4⟩:=h;exact⟨Nat.lt_of_lt_of_le c0 a,(World.cell?_of_block (w:=W) e).trans c1,(World.cell?_of_block (w:=W) e).trans c2,(World.cell?_of_block (w:=W) e).trans c3,λk=>(World.frozen?_of_block (w:=W) e).trans (c4 k)⟩
def QOwn (B E:Nat) (w:World) (v:Value) (b:List Value):Prop:=
 (v=.slice none 0 0/\b=[])\/∃g off cap a,v=.slice (some ⟨g,off,none⟩) b.length cap/\B<=g/\w.heap[g]? = some (.cells a E (0,0))/\b.length<=cap/\cap<=maxLen/\off+cap<=a.size/\∀i,i<b.length->a[off+i]? = some (gt b i)
theorem QOwn.nil (B E:Nat) (w:World):QOwn B E w (.slice none 0 0) [] := .inl ⟨rfl,rfl⟩
theorem QOwn.lt {B E:Nat}{w:World}{v:Value}{a:List Value}(h:QOwn B E w v a) (k:Nat) (hk:v.ownBlock=some k):B<=k/\k<w.heap.size:=by
 rcases h with⟨rfl,_⟩|⟨g,off,cap,cur,rfl,hb,b,_⟩
 ·simp[Value.ownBlock] at hk
 ·simp [Value.ownBlock] at hk
  subst hk;exact⟨hb,(Array.getElem?_eq_some_iff.1 b).1⟩
theorem QOwn.of {B E:Nat}{w:World}{v:Value}{b:List Value}(h:OwnV B E w v b):QOwn B E w v b:=by
 obtain⟨h1,h|⟨g,cap,a,hv,hg,hb,hnc,hcm,hsz,hx⟩⟩:=h
 ·exact .inl ⟨h.1,List.eq_nil_of_length_eq_zero h.2⟩
 ·refine .inr ⟨g,0,cap,a,hv,hg,hb,hnc,hcm,by omega,λi hi => ?_⟩
  have e:(a.toList.take (b.length*1))[i]? = b[i]? :=by rw[hx]
  rw[List.getElem?_take_of_lt (by omega)] at e;rw[Nat.zero_add,<-Array.getElem?_toList,e];simp[gt,hi]
theorem QOwn.kept {B E:Nat}{w w':World}{v:Value}{a:List Value}(h:QOwn B E w v a) (b:∀k,v.ownBlock=some k->w'.heap[k]? = w.heap[k]?):QOwn B E w' v a:=by
 rcases h with h|⟨g,off,cap,cur,rfl,h1,h2,r⟩
 ·exact .inl h
 ·exact .inr ⟨g,off,cap,cur,rfl,h1,by rw[b g rfl];exact h2,r⟩
theorem QOwn.weak {B B' E:Nat}{w:World}{v:Value}{a:List Value}(h:QOwn B E w v a) (b:B'<=B):QOwn B' E w v a:=by
 rcases h with h|⟨g,off,cap,cur,hv,h1,r⟩
 ·exact .inl h
 ·exact .inr ⟨g,off,cap,cur,hv,Nat.le_trans b h1,r⟩
theorem QOwn.shape {B E:Nat}{w:World}{v:Value}{b:List Value}(h:QOwn B E w v b):∃a cap,v=.slice a b.length cap/\b.length<=maxLen:=by
 rcases h with⟨rfl,rfl⟩|⟨g,off,cap,cur,rfl,_,_,h1,h2,_⟩
 ·exact⟨none,0,rfl,by simp⟩
 ·exact⟨_,_,rfl,Nat.le_trans h1 h2⟩
theorem QOwn.at {B E n cap:Nat}{w:World}{a:Option Addr}{b:List Value}(h:QOwn B E w (.slice a n cap) b) (i:Nat) (hi:i<b.length):∃g off,a=some ⟨g,off,none⟩/\B<=g/\g<w.heap.size/\w.cell? ⟨g,off+i,none⟩=some (gt b i):=by
 rcases h with⟨_,rfl⟩|⟨g,off,cap',cur,hv,hb,e,h1,h2,h3,h4⟩
 ·simp at hi
 ·cases hv
  refine⟨g,off,rfl,hb,(Array.getElem?_eq_some_iff.1 e).1,?_⟩;simp only[World.cell?,e,Option.isSome_none,Bool.false_eq_true,if_false];exact h4 i hi
theorem QOwn.tail {B E n cap:Nat}{w:World}{a:Option Addr}{x:Value}{b:List Value}(h:QOwn B E w (.slice a n cap) (x :: b)):QOwn B E w (subSl (.slice a n cap) 1 n) b:=by
 rcases h with⟨_,h⟩|⟨g,off,cap',cur,j,hb,hg,h1,h2,h3,k⟩
 ·cases h
 ·simp only[Value.slice.injEq] at j
  obtain⟨rfl,rfl,rfl⟩:=j;simp only[List.length_cons] at h1 k ⊢;unfold subSl;simp only[Nat.add_sub_cancel];by_cases e:cap=1
  ·have hn:b=[]:=List.eq_nil_of_length_eq_zero (by omega)
   subst hn;rw[if_pos e];refine .inr ⟨g,off,0,cur,?_,hb,hg,by simp,by simp,by omega,by simp⟩;subst e;rfl
  ·rw [if_neg e]
   refine .inr ⟨g,off+1,cap-1,cur,by simp[Addr.add],hb,hg,by omega,by omega,by omega,λi hi => ?_⟩;have:=k (i+1) (by omega);rw[show off+1+i=off+(i+1) by omega,this];simp[gt]
theorem QOwn.own_tail {a:Option Addr}{n cap:Nat}(k:Nat) (h:(subSl (.slice a n cap) 1 n).ownBlock=some k):(Value.slice a n cap).ownBlock=some k:=by
 unfold subSl at h;cases a with
 | none=>simp[Value.ownBlock] at h
 | some a=>
  by_cases e:cap=1
  ·simp only[if_pos e] at h;exact h
  ·simp only[if_neg e,Option.map_some,Value.ownBlock] at h ⊢
   unfold Addr.add at h;simpa using h
theorem wp_q_app (T E:Nat) (z:Value) (bytes:Nat) (O:Tryz.prog.underlying T=some (.slice E)) (hE:(Tryz.prog.info? E).map (λi=>(i.zero,i.size,i.bytes))=some (some z,1,bytes))
  (A:z.cells.size=1) (B:bytes<=64) {ops:Array Oper}{rest:List Oper}{o:Oper}{a:Act}{Q:Exit->Act->World->Prop}{w:World}(C:o.guard=none) (s x:Operand)
  (R:o.op=Op.call { callee:=Callee.builtin Builtin.append,args := #[s,x],argTypes := #[T,T] }) (base:Nat) (v:Value) (xs:List Value) (S:a.eval s=v) (D:QOwn base E w v xs)
  (H:Nat) (u:Value) (hx:a.eval x=.slice (some ⟨H,0,none⟩) 1 1) (U:w.cell? ⟨H,0,none⟩=some u) (h1:u.oneCell'=true) (V:xs.length<=1000000) (q:base<=w.heap.size)
  (h:∀v' w',QOwn base E w' v' (xs++[u])->w.grownBy w' v.ownBlock->(v'.ownBlock=v.ownBlock\/∀k,v'.ownBlock=some k->w.heap.size<=k)->wpList Tryz.prog ops Q rest (a.put o.dst v') w') :
  wpList Tryz.prog ops Q (o :: rest) a w:=by
 rcases D with⟨rfl,rfl⟩|⟨g,off,cap,cur,rfl,hb,F,hnc,hcm,hsz,hc⟩
 ·refine wp_app T E z bytes O hE A B C s x R base (.slice none 0 0) [] S (World.ownsRow_nil _ _ _ _) (some ⟨H,0,none⟩) 1 1 [u] hx rfl (by simp) ?_ ?_ (by simp) q ?_
  ·intro j b
   have:j=0:=by omega
   subst this;exact⟨H,0,rfl,U⟩
  ·intro I l
   simp at l;subst l;exact h1
  ·intro v' w' G J _ X
   exact h v' w' (QOwn.of G) J (X.imp id (λe k hk=>by rw[e] at hk;cases hk;exact Nat.le_refl _))
 ·obtain ⟨Y,hi,hz0,hz1,hz2⟩:=info_parts hE
  have Z:g<w.heap.size:=(Array.getElem?_eq_some_iff.1 F).1
  have m:∀i,i<cur.size->w.cell? ⟨g,i,none⟩=cur[i]? :=λi _=>by
   simp only[World.cell?,F,Option.isSome_none,Bool.false_eq_true,if_false]
  refine wpList_append_arg w C s x T R E Y z 1 bytes O hi hz0 hz1 hz2 A (by decide) g off xs.length cap xs S (by omega) ?_ ⟨H,0,none⟩ 1 1 [u] hx rfl ?_ ?_ ?_ (by unfold maxLen;omega) (by have:=Nat.mul_le_mul (show xs.length+1<=1000001 by omega) B;omega) ?_ ?_
  ·intro j I b
   have K:j<xs.length:=by
    rcases Nat.lt_or_ge j xs.length with h|h
    ·exact h
    ·rw[List.getElem?_eq_none h] at b;cases b
   rw[m _ (by omega),hc j K];simp[gt,b]
  ·intro j I b
   match j,b with
   | 0,b=>
    simp at b;subst b
    simpa [Addr.add] using U
  ·intro I l
   simp at l;subst l;exact h1
  ·intro p j b
   have:j=0:=by simpa using b
   subst this;refine⟨?_,?_⟩
   ·rw[m _ (by omega),Array.getElem?_eq_getElem (by omega)];rfl
   ·simp[World.frozen?,F]
  ·intro p
   have e:w.setCells g (off+xs.length*1) [u]=w.setCell ⟨g,off+xs.length,none⟩ u:=by
    simp[World.setCells]
   rw[e];refine h _ _ (.inr ⟨g,off,cap,cur.setIfInBounds (off+xs.length) u,by simp,hb,?_,by simpa using p,hcm,by simpa using hsz,λi hi => ?_⟩) ?_ (.inl rfl)
   ·simp only[World.setCell,Array.getElem?_modify,if_true,F,Option.map_some]
    simp
   ·simp only[List.length_append,List.length_singleton] at hi
    by_cases ei:i=xs.length
    ·subst ei
     rw[gt_concat,Array.getElem?_setIfInBounds_self];simp;omega
    ·rw [gt_append_left _ _ _ (by omega),Array.getElem?_setIfInBounds_ne (by omega)]
     exact hc i (by omega)
   ·exact⟨rfl,rfl,rfl,by simp[World.setCell],λk hk L=>Below.heap_setCell _ _ _ _ (by intro e2;exact L (by rw[e2];rfl))⟩
  ·intro M v' w' G J
   have k3:OwnV base E w' v' (xs++[u]):=by
    unfold OwnV;rw[List.length_append];obtain⟨N,y⟩:=G;refine⟨N,?_⟩;rcases y with h|⟨W,cap',cur',hv,hg',r⟩
    ·exact .inl h
    ·exact .inr ⟨W,cap',cur',hv,by omega,r⟩
   refine h v' w' (QOwn.of k3) (grown_of_ext _ J) (.inr (λk hk => ?_));obtain⟨_,y⟩:=G;rcases y with h|⟨W,cap',cur',rfl,hg',r⟩
   ·rw[h.1] at hk;simp[Value.ownBlock] at hk
   ·simp [Value.ownBlock] at hk
    omega
def ShQ (bad:Nat->Prop) (B:Nat) (w:World) (v:Value) (xs:List (List Int)):Prop:=
 ∃a,a.length=xs.length/\QOwn B 24 w v a/\∀i,i<xs.length->Ints (λk=>¬bad k/\v.ownBlock≠some k) w (gt a i) (gt xs i)
theorem ShQ.nil (bad:Nat->Prop) (B:Nat) (w:World):ShQ bad B w (.slice none 0 0) []:=⟨[],rfl,QOwn.nil _ _ _,by simp⟩
theorem ShQ.shape {bad:Nat->Prop}{B:Nat}{w:World}{v:Value}{xs:List (List Int)}(h:ShQ bad B w v xs):∃a cap,v=.slice a xs.length cap/\xs.length<=maxLen:=by
 obtain⟨e,b,hq,_⟩:=h;obtain⟨a,cap,rfl,hm⟩:=hq.shape;exact⟨a,cap,by rw[b],by omega⟩
theorem ShQ.lt {bad:Nat->Prop}{B:Nat}{w:World}{v:Value}{xs:List (List Int)}(h:ShQ bad B w v xs) (k:Nat) (hk:v.ownBlock=some k):B<=k/\k<w.heap.size:=by
 obtain⟨a,_,hq,_⟩:=h;exact hq.lt k hk
theorem ShQ.kept {bad bad':Nat->Prop}{B:Nat}{w w':World}{v:Value}{xs:List (List Int)}(h:ShQ bad B w v xs) (j:w.heap.size<=w'.heap.size) (e:∀k,k<w.heap.size->(v.ownBlock=some k\/¬bad k)->w'.heap[k]? = w.heap[k]?)
  (b:∀k,k<w.heap.size->bad' k->bad k):ShQ bad' B w' v xs:=by
 obtain⟨l,hl,hq,hr⟩:=h;have a:=hq.lt;refine⟨l,hl,hq.kept (λk hk=>e k (a k hk).2 (.inl hk)),λi hi=>Ints.mono (hr i hi) (λk hk a=>⟨⟨λh=>hk.1 (b k a h),hk.2⟩,Nat.lt_of_lt_of_le a j,e k a (.inr hk.1)⟩)⟩
theorem ShQ.ext {bad:Nat->Prop}{B:Nat}{w w':World}{v:Value}{xs:List (List Int)}(h:ShQ bad B w v xs) (a:Ext w w'):ShQ bad B w' v xs:=
 h.kept a.size (λk hk _=>a.block k hk (by simp)) (λ_ _ h=>h)
theorem ShQ.head {bad:Nat->Prop}{B n cap:Nat}{w:World}{a:Option Addr}{xs:List (List Int)}(h:ShQ bad B w (.slice a n cap) xs) (i:Nat) (hi:i<xs.length) :
  ∃g off u,a=some ⟨g,off,none⟩/\B<=g/\g<w.heap.size/\w.cell? ⟨g,off+i,none⟩=some u/\Ints (λk=>¬bad k/\k≠g) w u (gt xs i):=by
 obtain⟨b,hl,hq,hr⟩:=h;obtain⟨g,off,rfl,h1,h2,h3⟩:=hq.at i (by omega);exact⟨g,off,_,rfl,h1,h2,h3,Ints.sub (hr i hi) (λk hk _=>⟨hk.1,λe=>hk.2 (by rw[e];rfl)⟩)⟩
theorem ShQ.tail {bad:Nat->Prop}{B n cap:Nat}{w:World}{a:Option Addr}{x:List Int}{xs:List (List Int)}(h:ShQ bad B w (.slice a n cap) (x :: xs)):ShQ bad B w (subSl (.slice a n cap) 1 n) xs:=by
 obtain⟨b,hl,hq,hr⟩:=h;cases b with
 | nil=>simp at hl
 | cons u b=>
  refine⟨b,by simpa using hl,hq.tail,λi hi => ?_⟩;have j:=hr (i+1) (by simpa using hi);have l:Ints (λk=>¬bad k/\(Value.slice a n cap).ownBlock≠some k) w (gt b i) (gt xs i):=by simpa [gt] using j
  exact Ints.sub l (λk hk _=>⟨hk.1,λe=>hk.2 (QOwn.own_tail k e)⟩)
theorem wp_shq_app {ops:Array Oper}{rest:List Oper}{o:Oper}{a:Act}{Q:Exit->Act->World->Prop}{w:World}(z:o.guard=none) (s x:Operand)
  (J:o.op=Op.call { callee:=Callee.builtin Builtin.append,args := #[s,x],argTypes := #[25,25] }) (bad:Nat->Prop) (B:Nat) (v u:Value) (xs:List (List Int)) (y:List Int) (K:a.eval s=v) (w0:World) (m:ShQ bad B w0 v xs)
  (L:w=w0.alloc (.cells #[u] 24)) (F:Ints (λk=>¬bad k/\v.ownBlock≠some k) w0 u y) (hx:a.eval x=.slice (some ⟨w0.heap.size,0,none⟩) 1 1) (G:xs.length<=1000000) (A:B<=w0.heap.size)
  (h:∀v' w',ShQ bad B w' v' (xs++[y])->w0.grownBy w' v.ownBlock->(v'.ownBlock=v.ownBlock\/∀k,v'.ownBlock=some k->w0.heap.size<=k)->wpList Tryz.prog ops Q rest (a.put o.dst v') w') :
  wpList Tryz.prog ops Q (o :: rest) a w:=by
 subst L;obtain⟨C,H,hq,hr⟩:=m;have j:Ext w0 (w0.alloc (.cells #[u] 24)):=World.grownBy_alloc _ _ _;have b:=hq.lt;have D:QOwn B 24 (w0.alloc (.cells #[u] 24)) v C:=hq.kept (λk hk=>j.block k (b k hk).2 (by simp));have p:u.oneCell'=true:=rdInts.one F;refine wp_q_app 25 24 (.slice none 0 0) 24 und_rows Tryz.infoRow rfl (by decide) z s x J B v C K D w0.heap.size u hx (by rw[World.cell?_alloc_at _ _ _ _ rfl];rfl) p (by omega) (by have:=j.size;omega) ?_;intro v' w' h1 M I;have l:w0.grownBy w' v.ownBlock:=grown_trans (grown_of_ext _ j) M
 have q:∀k,k<w0.heap.size->v'.ownBlock=some k->v.ownBlock=some k:=λk hk e=>by
  rcases I with h|h
  ·rw[<-h];exact e
  ·have:=h k e;simp at this;omega
 refine h v' w' ⟨C++[u],by simp[H],h1,λi hi => ?_⟩ l (I.imp id (λh k hk=>by have:=h k hk;simp at this;omega));simp only[List.length_append,List.length_singleton] at hi
 have r:∀k,(¬bad k/\v.ownBlock≠some k)->k<w0.heap.size->(¬bad k/\v'.ownBlock≠some k)/\k<w'.heap.size/\w'.heap[k]? = w0.heap[k]? :=λk hk b=>
  ⟨⟨hk.1,λe=>hk.2 (q k b e)⟩,Nat.lt_of_lt_of_le b l.size,l.block k b (λe=>hk.2 e.symm)⟩
 by_cases b:i<xs.length
 ·rw [gt_append_left _ _ _ (by omega),gt_append_left _ _ _ b]
  exact Ints.mono (hr i b) r
 ·have E:i=xs.length:=by omega
  subst E;rw[gt_concat,<-H,gt_concat];exact Ints.mono F r
end Go.Proofs.YtldheeicjnncoaaGreat
