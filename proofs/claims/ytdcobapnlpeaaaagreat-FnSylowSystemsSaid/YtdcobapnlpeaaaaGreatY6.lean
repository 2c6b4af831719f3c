/- Merged from templates. -/
import Derived.Test.YtdcobapnlpeaaaaGreatY5
import Derived.ArgAppend
set_option maxRecDepth 100000
set_option maxHeartbeats 8000000
namespace Go.Proofs.YtdcobapnlpeaaaaGreat
theorem rAt_right {P:Pr}(hP:Valid P) (f:Nat):∀(i e:Nat) (x z:List Int),i+f=P.orders.length->i<=e->e<=P.orders.length->Vec P.orders x->T P e z ->
  (∀k,i<=k->k<e->gt (rAt P f i x z) k=gt x k)/\(e<P.orders.length->gt (rAt P f i x z) e=(gt x e+gt z e)%gt P.orders e):=by
 induction f with
 | zero=>intro i e x z u D n _ _;exact⟨λk a b=>by omega,λh=>by omega⟩
 | succ f E=>
  intro i e x z u D n hx m;have g:i<P.orders.length:=by omega
  have K:=hP.ord7 i g;have F:=hx.2 i g;have G:=m.1.2 i g;have L:=rAt_T hP (f+1) i x z u hx m.1;by_cases v:i=e
  ·subst v
   refine⟨λk a b=>by omega,λ_ => ?_⟩;simp only[rAt]
   have w:∀l:List Int,Vec P.orders l->Vec P.orders (iter (gt z i).toNat (λl=>rImgTo (rAt P f (i+1)) (gt P.conj i) i l (zeros P.orders.length) f) l):=λl w=>
    iter_inv (Vec P.orders) _ (λy hy=>rImgTo_vec hP f i u (rAt_vec hP f) _ _ (zeros_vec hP) f (Nat.le_refl _)) _ _ w
   have v1:=w _ (hx.set i 0 ⟨by omega,λ_=>by omega⟩);have H:Vec P.orders (z.set i 0):=m.1.set i 0 ⟨by omega,λ_=>by omega⟩;have r:=rAt_vec hP f (i+1) _ _ (by omega) v1 H;split
   ·rename_i I
    have v4:=rAt_vec hP f (i+1) _ _ (by omega) (hP.pv i g).1 r;rw[gt_set_eq _ _ _ (by rw[v4.1];exact g)];have J:gt x i+gt z i=(gt x i+gt z i-gt P.orders i)+gt P.orders i:=by omega
    rw[J,Int.add_emod_right,Int.emod_eq_of_lt (by omega) (by omega)];omega
   ·rename_i I
    rw[gt_set_eq _ _ _ (by rw[r.1];exact g),Int.emod_eq_of_lt (by omega) (by omega)]
  ·have A:gt z i=0:=m.2 i (by omega)
   have B:z.set i 0=z:=set_zero_of (P:=P) (m.down (by omega));have p:Vec P.orders (x.set i 0):=hx.set i 0 ⟨by omega,λ_=>by omega⟩;have j:=E (i+1) e (x.set i 0) z (by omega) (by omega) n p m;have r:=rAt_vec hP f (i+1) (x.set i 0) z (by omega) p m.1
   have q:rAt P (f+1) i x z=(rAt P f (i+1) (x.set i 0) z).set i (gt x i):=by
    simp only[rAt,A,B];rw[if_neg (by omega),Int.add_zero];rfl
   rw[q];refine⟨λk a b => ?_,λh => ?_⟩
   ·by_cases C:i=k
    ·subst C;rw[gt_set_eq _ _ _ (by rw[r.1];exact g)]
    ·rw[gt_set_ne _ _ _ _ C,j.1 k (by omega) b,gt_set_ne _ _ _ _ C]
   ·rw[gt_set_ne _ _ _ _ (by omega),j.2 h,gt_set_ne _ _ _ _ (by omega)]
def pw (P:Pr) (x:List Int) (k:Nat):List Int:=iter k (λy=>rMul P y x) (zeros P.orders.length)
section
variable {P:Pr}(G:Grp P)
include G
theorem Grp.right {x z:List Int}{e:Nat}(a:e<=P.orders.length) (hx:Vec P.orders x) (b:T P e z) :
  (∀k,k<e->gt (rMul P x z) k=gt x k)/\(e<P.orders.length->gt (rMul P x z) e=(gt x e+gt z e)%gt P.orders e):=by
 have h:=rAt_right G.v P.orders.length 0 e x z (by omega) (by omega) a hx b;exact⟨λk hk=>h.1 k (by omega) hk,h.2⟩
theorem Grp.T_mul {x y:List Int}{d:Nat}(a:d<=P.orders.length) (hx:T P d x) (hy:T P d y):T P d (rMul P x y):=
 ⟨G.mulV hx.1 hy.1,λk hk=>by rw[(G.right a hx.1 hy).1 k hk];exact hx.2 k hk⟩
theorem Grp.pw_vec {x:List Int}(hx:Vec P.orders x) (k:Nat):Vec P.orders (pw P x k):=G.grp.toMonOn.pow_cl hx G.oneV k
theorem Grp.pw_add {x:List Int}(hx:Vec P.orders x) (a b:Nat):pw P x (a+b)=rMul P (pw P x a) (pw P x b):=G.grp.toMonOn.pow_add hx a b
omit G in
theorem pw_zero (P:Pr) (x:List Int):pw P x 0=zeros P.orders.length:=rfl
omit G in
theorem pw_succ (P:Pr) (x:List Int) (k:Nat):pw P x (k+1)=rMul P (pw P x k) x:=rfl
theorem Grp.pw_one {x:List Int}(hx:Vec P.orders x):pw P x 1=x:=G.grp.el x hx
theorem Grp.pw_succ' {x:List Int}(hx:Vec P.orders x) (k:Nat):pw P x (k+1)=rMul P x (pw P x k):=by
 rw[Nat.add_comm,G.pw_add hx,G.pw_one hx]
theorem Grp.pw_mul {x:List Int}(hx:Vec P.orders x) (a b:Nat):pw P x (a*b)=pw P (pw P x a) b:=by
 induction b with
 | zero=>rfl
 | succ b e=>rw[Nat.mul_succ,G.pw_add hx,e];rfl
theorem Grp.pw_T {x:List Int}{d:Nat}(a:d<=P.orders.length) (hx:T P d x) (k:Nat):T P d (pw P x k):=by
 induction k with
 | zero=>exact T.zeros G.v d
 | succ k b=>exact G.T_mul a b hx
theorem Grp.pw_at {x:List Int}{d:Nat}(a:d<P.orders.length) (hx:T P d x) (k:Nat):gt (pw P x k) d=((k:Int)*gt x d)%gt P.orders d:=by
 induction k with
 | zero=>rw[pw_zero];show gt (List.replicate _ (0:Int)) d=_;rw[gt_replicate];simp
 | succ k b=>
  rw[pw_succ,(G.right (Nat.le_of_lt a) (G.pw_vec hx.1 k) hx).2 a,b,Int.emod_add_emod];congr 1
  rw[Int.natCast_add,Int.add_mul];simp
theorem Grp.pw_order {x:List Int}{d:Nat}(a:d<P.orders.length) (hx:T P d x):T P (d+1) (pw P x (gt P.orders d).toNat):=by
 have b:=G.v.ord7 d a;refine(G.pw_T (Nat.le_of_lt a) hx _).up ?_;rw[G.pw_at a hx,show(((gt P.orders d).toNat:Nat):Int)=gt P.orders d by omega,Int.mul_emod_right]
theorem Grp.fin (f:Nat):∀(d:Nat) (x:List Int),d+f=P.orders.length->T P d x->∃M,1<=M/\pw P x M=zeros P.orders.length:=by
 induction f with
 | zero=>
  intro d x a hx;have:d=P.orders.length:=by omega
  subst this;refine⟨1,Nat.le_refl _,?_⟩;rw[G.pw_one hx.1];exact hx.top G.v
 | succ f b=>
  intro d x a hx;have e:=G.v.ord7 d (by omega);obtain⟨M,h1,h2⟩:=b (d+1) _ (by omega) (G.pw_order (by omega) hx);refine⟨(gt P.orders d).toNat*M,Nat.mul_pos (by omega) h1,?_⟩;rw[G.pw_mul hx.1,h2]
theorem Grp.inv_pw {x:List Int}(hx:Vec P.orders x):∃k,rInv P x=pw P x k:=by
 obtain⟨M,h1,h2⟩:=G.fin P.orders.length 0 x (by omega) (T_zero.2 hx);refine⟨M-1,?_⟩;refine(G.inv_of hx (G.pw_vec hx _) ?_).symm;rw[<-G.pw_succ' hx,show M-1+1=M by omega,h2]
theorem Grp.T_inv {x:List Int}{d:Nat}(a:d<=P.orders.length) (hx:T P d x):T P d (rInv P x):=by
 obtain⟨k,hk⟩:=G.inv_pw hx.1;rw[hk];exact G.pw_T a hx k
theorem Grp.diff {u v:List Int}{d:Nat}(a:d<P.orders.length) (b:T P d u) (e:T P d v) (h:gt u d=gt v d):T P (d+1) (rMul P (rInv P u) v):=by
 have k:=G.T_inv (Nat.le_of_lt a) b;have g:=G.T_mul (Nat.le_of_lt a) k e;refine g.up ?_;have l:rMul P u (rMul P (rInv P u) v)=v:=by rw[<-G.ass b.1 k.1 e.1,G.mul_inv b.1,G.grp.el _ e.1]
 have i:=(G.right (Nat.le_of_lt a) b.1 g).2 a;rw[l] at i;have b1:=b.1.2 d a;have b2:=g.1.2 d a;by_cases j:gt u d+gt (rMul P (rInv P u) v) d<gt P.orders d
 ·rw[Int.emod_eq_of_lt (by omega) j] at i;omega
 ·have m:gt u d+gt (rMul P (rInv P u) v) d=(gt u d+gt (rMul P (rInv P u) v) d-gt P.orders d)+gt P.orders d:=by omega
  rw[m,Int.add_emod_right,Int.emod_eq_of_lt (by omega) (by omega)] at i;omega
end
structure Sub (P:Pr) (H:List Int->Prop):Prop where
 vec:∀x,H x->Vec P.orders x
 one:H (zeros P.orders.length)
 mul:∀x y,H x->H y->H (rMul P x y)
 inv:∀x,H x->H (rInv P x)
section
variable {P:Pr}(G:Grp P)
include G
theorem Grp.sub_all:Sub P (Vec P.orders):=⟨λ_ h=>h,G.oneV,λ_ _ h k=>G.mulV h k,λ_ h=>G.invV h⟩
theorem Grp.sub_of_mul {H:List Int->Prop}(b:∀x,H x->Vec P.orders x) (h1:H (zeros P.orders.length)) (e:∀x y,H x->H y->H (rMul P x y)):Sub P H:=by
 refine⟨b,h1,e,λx hx => ?_⟩;obtain⟨k,hk⟩:=G.inv_pw (b x hx);rw[hk];induction k generalizing x with
 | zero=>exact h1
 | succ k _=>
  have:∀j,H (pw P x j):=by
   intro j;induction j with
   | zero=>exact h1
   | succ j a=>exact e _ _ a hx
  exact this _
omit G in
theorem Sub.pw {H:List Int->Prop}(S:Sub P H) {x:List Int}(hx:H x) (k:Nat):H (Go.Proofs.YtdcobapnlpeaaaaGreat.pw P x k):=by
 induction k with
 | zero=>exact S.one
 | succ k a=>exact S.mul _ _ a hx
theorem Grp.comm_deep {x y:List Int}{d:Nat}(e:d<P.orders.length) (hx:T P d x) (hy:T P (d+1) y) :
  T P (d+1) (rMul P (rInv P (rMul P y x)) (rMul P x y))/\T P (d+1) (rMul P (rInv P (rMul P x y)) (rMul P y x)):=by
 have a:=Nat.le_of_lt e;have b:=hy.down (Nat.le_succ d);have h1:=G.T_mul a hx b;have g:=G.T_mul a b hx;have i:gt (rMul P x y) d=gt x d:=(G.right (Nat.succ_le_of_lt e) hx.1 hy).1 d (by omega)
 have j:gt (rMul P y x) d=gt x d:=by
  rw[(G.right a b.1 hx).2 e,hy.2 d (by omega),Int.zero_add];have:=hx.1.2 d e;exact Int.emod_eq_of_lt this.1 this.2
 exact⟨G.diff e g h1 (by rw[i,j]),G.diff e h1 g (by rw[i,j])⟩
theorem Grp.conj_of_comm {x y:List Int}(hx:Vec P.orders x) (hy:Vec P.orders y):rConj P x y=rMul P x (rMul P (rInv P (rMul P y x)) (rMul P x y)):=by
 unfold rConj;have c1:=G.mulV hx hy;rw[G.inv_mulR hy hx,G.ass (G.invV hx) (G.invV hy) c1,<-G.ass hx (G.invV hx) (G.mulV (G.invV hy) c1),G.mul_inv hx,G.grp.el _ (G.mulV (G.invV hy) c1)]
theorem Grp.comm_inv {x y:List Int}(hx:Vec P.orders x) (hy:Vec P.orders y):rInv P (rMul P (rInv P (rMul P x y)) (rMul P y x))=rMul P (rInv P (rMul P y x)) (rMul P x y):=by
 have c1:=G.mulV hx hy;have c2:=G.mulV hy hx;rw[G.inv_mulR (G.invV c1) c2,G.inv_inv c1]
structure Closed (P:Pr) (b:Nat->List Int) (R:List Int->Prop):Prop where
 tab:∀d,d<P.orders.length->b d≠[]->T P d (b d)/\gt (b d) d=1
 vec:∀q,R q->Vec P.orders q
 step:∀q,R q->q=zeros P.orders.length\/∃d,d<P.orders.length/\T P d q/\gt q d≠0/\b d≠[]/\∃q',R q'/\T P (d+1) q'/\∀K,Sub P K->K (b d)->K q'->K q
 pow:∀d,d<P.orders.length->b d≠[]->R (pw P (b d) (gt P.orders d).toNat)
 com:∀d e,d<e->e<P.orders.length->b d≠[]->b e≠[]->∃c,R c/\T P (d+1) c/\∀K,Sub P K->K (b e)->K c->K (rConj P (b e) (b d))
structure TailSub (P:Pr) (b:Nat->List Int) (R:List Int->Prop) (d:Nat) (K:List Int->Prop):Prop where
 sub:Sub P K
 deep:∀x,K x->T P d x
 mem:∀e,d<=e->e<P.orders.length->b e≠[]->K (b e)
 res:∀q,R q->T P d q->K q
 piv:∀x,K x->∀e,d<=e->e<P.orders.length->T P e x->gt x e≠0->b e≠[]
 min:∀K',Sub P K'->(∀e,d<=e->e<P.orders.length->b e≠[]->K' (b e))->∀x,K x->K' x
theorem Grp.conj_hom {x y z:List Int}(hx:Vec P.orders x) (hy:Vec P.orders y) (a:Vec P.orders z):rConj P (rMul P x y) z=rMul P (rConj P x z) (rConj P y z):=by
 unfold rConj;have b:=G.invV a;have c1:=G.mulV hx a;have c2:=G.mulV hy a;rw[G.ass b c1 (G.mulV b c2),G.ass hx a (G.mulV b c2),<-G.ass a b c2,G.mul_inv a,G.grp.el _ c2,G.ass hx hy a]
theorem Grp.tailSub {b:Nat->List Int}{R:List Int->Prop}(C:Closed P b R) (f:Nat):∀d,d+f=P.orders.length->∃K,TailSub P b R d K:=by
 induction f with
 | zero=>
  intro d hd;have:d=P.orders.length:=by omega
  subst this
  have J:Sub P (λx=>x=zeros P.orders.length):=by
   refine G.sub_of_mul (λx h=>by rw[h];exact G.oneV) rfl (λx y hx hy => ?_);rw[hx,hy];exact G.grp.el _ G.oneV
  exact⟨_,J,λx h=>by rw[h];exact T.zeros G.v _,λe a n=>by omega,λq _ B=>B.top G.v,λx _ e a n=>by omega,λK' S _ x hx=>by rw[hx];exact S.one⟩
 | succ f ih=>
  intro d hd;obtain⟨K',t⟩:=ih (d+1) (by omega);have m:d<P.orders.length:=by omega
  have L:=Nat.le_of_lt m;by_cases D:b d=[]
  ·refine ⟨K',t.sub,λx hx=>(t.deep x hx).down (Nat.le_succ d),λe a n i => ?_,λq B A => ?_,λx hx e a n A E => ?_,λQ S h x hx=>t.min Q S (λe a n i=>h e (by omega) n i) x hx⟩
   ·by_cases r:e=d
    ·subst r;exact absurd D i
    ·exact t.mem e (by omega) n i
   ·rcases C.step q B with h|⟨u,h1,F,h3,h4,_⟩
    ·rw[h];exact t.sub.one
    ·have U:d<=u:=by
      have:¬u<d:=λh=>h3 (A.2 u h);omega
     have ah:u≠d:=λe=>h4 (by rw[e];exact D);exact t.res q B (F.down (by omega))
   ·by_cases r:e=d
    ·subst r
     exact absurd ((t.deep x hx).2 e (by omega)) E
    ·exact t.piv x hx e (by omega) n A E
  ·obtain ⟨w,hb1⟩:=C.tab d m D
   have ho:=G.v.ord7 d m;have g:=w.1;-- conjugation by the new entry keeps K'
   have hN:Sub P (λy=>K' y/\K' (rConj P y (b d))):=by
    refine G.sub_of_mul (λx h=>t.sub.vec x h.1) ⟨t.sub.one,?_⟩ (λx y hx hy=>⟨t.sub.mul _ _ hx.1 hy.1,?_⟩)
    ·have:rConj P (zeros P.orders.length) (b d)=zeros P.orders.length:=by
      unfold rConj;rw[G.grp.el _ g,G.inv_mul g]
     rw[this];exact t.sub.one
    ·rw[G.conj_hom (t.sub.vec x hx.1) (t.sub.vec y hy.1) g];exact t.sub.mul _ _ hx.2 hy.2
   have V:∀y,K' y->K' (rConj P y (b d)):=λy hy=>(t.min _ hN (λe a n i=>by
    have hm:=t.mem e a n i;obtain⟨c,W,X,hc3⟩:=C.com d e (by omega) n D i;exact⟨hm,hc3 K' t.sub hm (t.res c W X)⟩) y hy).2
   have M:∀(k:Nat) y,K' y->K' (rMul P (rInv P (pw P (b d) k)) (rMul P y (pw P (b d) k))):=by
    intro k;induction k with
    | zero=>
     intro y hy;have E:rConj P y (zeros P.orders.length)=y:=G.conj_one (t.sub.vec y hy);show K' (rConj P y (zeros P.orders.length))
     rw[E];exact hy
    | succ k Y=>
     intro y hy;have h1:=V _ (Y y hy);have F:rConj P (rConj P y (pw P (b d) k)) (b d)=rConj P y (pw P (b d) (k+1)):=G.conj_mul (t.sub.vec y hy) (G.pw_vec g k) g;show K' (rConj P y (pw P (b d) (k+1)))
     rw[<-F];exact h1
   have hw:K' (pw P (b d) (gt P.orders d).toNat):=t.res _ (C.pow d m D) (G.pw_order m w)
   have Z:Sub P (λx=>∃k y,K' y/\x=rMul P (pw P (b d) k) y):=by
    refine G.sub_of_mul ?_ ⟨0,_,t.sub.one,(G.grp.el _ G.oneV).symm⟩ ?_
    ·rintro x ⟨k,y,hy,rfl⟩;exact G.mulV (G.pw_vec g k) (t.sub.vec y hy)
    ·rintro x x' ⟨k,y,hy,rfl⟩ ⟨l,z,hz,rfl⟩
     have H:=t.sub.vec y hy;have I:=t.sub.vec z hz;have pk:=G.pw_vec g k;have pl:=G.pw_vec g l;refine⟨k+l,_,t.sub.mul _ _ (M l y hy) hz,?_⟩;rw[G.pw_add g,G.ass pk H (G.mulV pl I),<-G.ass H pl I,G.ass (G.invV pl) (G.mulV H pl) I,G.ass pk pl (G.mulV (G.invV pl) (G.mulV (G.mulV H pl) I)),<-G.ass pl (G.invV pl) (G.mulV (G.mulV H pl) I),G.mul_inv pl,G.grp.el _ (G.mulV (G.mulV H pl) I)]
   have p:∀y,K' y->∃k z,K' z/\y=rMul P (pw P (b d) k) z:=λy hy=>⟨0,y,hy,(G.grp.el y (t.sub.vec y hy)).symm⟩;have N:∃k z,K' z/\b d=rMul P (pw P (b d) k) z:=⟨1,_,t.sub.one,by rw[G.pw_one g,G.grp.er _ g]⟩;refine⟨_,Z,?_,λe a n i => ?_,λq B A => ?_,?_,?_⟩
   ·rintro x ⟨k,y,hy,rfl⟩
    exact G.T_mul L (G.pw_T L w k) ((t.deep y hy).down (Nat.le_succ d))
   ·by_cases r:e=d
    ·subst r;exact N
    ·exact p _ (t.mem e (by omega) n i)
   ·rcases C.step q B with h|⟨u,h1,F,h3,h4,q',h5,h6,h7⟩
    ·rw[h];exact Z.one
    ·have U:d<=u:=by
      have:¬u<d:=λh=>h3 (A.2 u h);omega
     by_cases r:u=d
     ·subst r
      exact h7 _ Z N (p q' (t.res q' h5 h6))
     ·exact p q (t.res q B (F.down (by omega)))
   ·rintro x ⟨k,y,hy,rfl⟩ e a n A E
    by_cases r:e=d
    ·rw[r];exact D
    ·have aa:=t.deep y hy
     have O:gt (rMul P (pw P (b d) k) y) d=0:=A.2 d (by omega);rw[(G.right (Nat.succ_le_of_lt m) (G.pw_vec g k) aa).1 d (by omega),G.pw_at m w,hb1,Int.mul_one] at O;-- the order divides k
     obtain ⟨j,hj⟩:∃j:Nat,k=(gt P.orders d).toNat*j:=by
      refine⟨k/(gt P.orders d).toNat,?_⟩
      have h1:((k%(gt P.orders d).toNat:Nat):Int)=0:=by
       rw[Int.natCast_emod,show(((gt P.orders d).toNat:Nat):Int)=gt P.orders d by omega];exact O
      have F:=Nat.div_add_mod k (gt P.orders d).toNat;omega
     have ab:K' (pw P (b d) k):=by rw[hj,G.pw_mul g];exact t.sub.pw hw j
     exact t.piv _ (t.sub.mul _ _ ab hy) e (by omega) n A E
   ·rintro Q S h x ⟨k,y,hy,rfl⟩
    exact S.mul _ _ (S.pw (h d (Nat.le_refl d) m D) k) (t.min Q S (λe a n i=>h e (by omega) n i) y hy)
structure Ind (P:Pr) (H:List Int->Prop) (b:Nat->List Int):Prop where
 sub:Sub P H
 mem:∀d,d<P.orders.length->b d≠[]->H (b d)/\T P d (b d)/\gt (b d) d=1
 piv:∀x,H x->∀d,d<P.orders.length->T P d x->gt x d≠0->b d≠[]
end
theorem depth_ex {P:Pr}{x:List Int}(hx:Vec P.orders x) (h:x≠zeros P.orders.length):∃d,d<P.orders.length/\T P d x/\gt x d≠0:=by
 have key:∀f d,d+f=P.orders.length->T P d x->∃d,d<P.orders.length/\T P d x/\gt x d≠0:=by
  intro f;induction f with
  | zero=>
   intro d e a;exfalso;apply h
   have:d=P.orders.length:=by omega
   subst this
   exact ext_gt (by rw[hx.1];simp[zeros]) (λk hk=>by
    rw[hx.1] at hk;rw[a.2 k hk];exact(gt_replicate _ _).symm)
  | succ f g=>
   intro d e a;by_cases b:gt x d=0
   ·exact g (d+1) (by omega) (a.up b)
   ·exact⟨d,by omega,a,b⟩
 exact key P.orders.length 0 (by omega) (T_zero.2 hx)
structure Red (P:Pr) (H:List Int->Prop) (r:Nat->List Int):Prop extends Ind P H r where
 red:∀d e,d<e->e<P.orders.length->r d≠[]->r e≠[]->gt (r d) e=0
def seqOf (n:Nat) (r:Nat->List Int):List (List Int):=(List.range n).filterMap (λd=>if r d=[] then none else some (r d))
section
variable {P:Pr}(G:Grp P)
include G
def Rep (P:Pr) (H:List Int->Prop) (r:Nat->List Int) (x y:List Int):Prop:=Vec P.orders y/\H (rMul P (rInv P x) y)/\∀e,e<P.orders.length->r e≠[]->gt y e=0
theorem Grp.coset_one {H:List Int->Prop}{b:Nat->List Int}(I:Ind P H b) {x y:List Int}(hx:Vec P.orders x) (hy:Vec P.orders y) (h:H (rMul P (rInv P x) y))
  (i:∀e,e<P.orders.length->b e≠[]->gt x e=0) (j:∀e,e<P.orders.length->b e≠[]->gt y e=0):x=y:=by
 have k:=G.invV hx;have l:rMul P x (rMul P (rInv P x) y)=y:=by rw[<-G.ass hx k hy,G.mul_inv hx,G.grp.el _ hy]
 by_cases n:rMul P (rInv P x) y=zeros P.orders.length
 ·rw[n,G.grp.er _ hx] at l;exact l
 ·exfalso
  have g:=I.sub.vec _ h;obtain⟨e,a,p,h0⟩:=depth_ex g n;have q:=I.piv _ h e a p h0;have m:=(G.right (Nat.le_of_lt a) hx p).2 a;rw[l,i e a q,j e a q,Int.zero_add] at m;have r:=g.2 e a;rw[Int.emod_eq_of_lt r.1 r.2] at m;exact h0 m.symm
theorem Grp.rep_one {H:List Int->Prop}{b:Nat->List Int}(I:Ind P H b) {x y g:List Int}(hx:Vec P.orders x) (h:Rep P H b x y) (a:Rep P H b x g):y=g:=by
 refine G.coset_one I h.1 a.1 ?_ h.2.2 a.2.2;have i:=G.invV hx;have j:=G.invV h.1
 have e:rMul P (rInv P y) g=rMul P (rInv P (rMul P (rInv P x) y)) (rMul P (rInv P x) g):=by
  rw[G.inv_mulR i h.1,G.inv_inv hx,G.ass j hx (G.mulV i a.1),<-G.ass hx i a.1,G.mul_inv hx,G.grp.el _ a.1]
 rw[e];exact I.sub.mul _ _ (I.sub.inv _ h.2.1) a.2.1
theorem Grp.red_one {H:List Int->Prop}{r g:Nat->List Int}(A:Red P H r) (B:Red P H g):∀d,d<P.orders.length->r d=g d:=by
 intro d i
 have a:∀ {s w:Nat->List Int},Ind P H s->Ind P H w->∀e,e<P.orders.length->s e≠[]->w e≠[]:=λI J e b h=>by
  obtain⟨h1,j,D⟩:=I.mem e b h;exact J.piv _ h1 e b j (by rw[D];decide)
 by_cases h:r d=[]
 ·by_cases k:g d=[]
  ·rw[h,k]
  ·exact absurd h (a B.toInd A.toInd d i k)
 ·have k:=a A.toInd B.toInd d i h
  obtain⟨a1,a2,E⟩:=A.mem d i h;obtain⟨b1,b2,b3⟩:=B.mem d i k;-- the quotient lies deeper; compare by representatives
  have n:=G.diff i a2 b2 (by rw[E,b3]);have p:=A.sub.mul _ _ (A.sub.inv _ a1) b1;have q:=G.invV a2.1;have u:rMul P (r d) (rMul P (rInv P (r d)) (g d))=g d:=by rw[<-G.ass a2.1 q b2.1,G.mul_inv a2.1,G.grp.el _ b2.1]
  by_cases l:rMul P (rInv P (r d)) (g d)=zeros P.orders.length
  ·rw[l,G.grp.er _ a2.1] at u;exact u
  ·exfalso
   obtain⟨e,b,y,h0⟩:=depth_ex n.1 l
   have m:d<e:=by
    have:¬e<d+1:=λh=>h0 (n.2 e h);omega
   have z:=A.piv _ p e b y h0;have v:=a A.toInd B.toInd e b z;have j:=(G.right (Nat.le_of_lt b) a2.1 y).2 b;rw[u,A.red d e m b h z,B.red d e m b k v,Int.zero_add] at j;have C:=n.1.2 e b;rw[Int.emod_eq_of_lt C.1 C.2] at j;exact h0 j.symm
omit G in
theorem seqOf_congr {n:Nat}{r a:Nat->List Int}(h:∀d,d<n->r d=a d):seqOf n r=seqOf n a:=by
 unfold seqOf;induction n with
 | zero=>rfl
 | succ n b=>
  have e:=h n (by omega);rw[List.range_succ,List.filterMap_append,List.filterMap_append,b (λd g=>h d (by omega))];simp only[List.filterMap_cons,List.filterMap_nil,e]
theorem Grp.seq_one {H:List Int->Prop}{r a:Nat->List Int}(A:Red P H r) (B:Red P H a):seqOf P.orders.length r=seqOf P.orders.length a:=
 seqOf_congr (G.red_one A B)
end
def genP (P:Pr) (Q:List Int->Prop) (x:List Int):Prop:=∀H,Sub P H->(∀y,Q y->H y)->H x
structure AddInv (P:Pr) (Q:List Int->Prop) (b:Nat->List Int) (q:List (List Int)) (R:List Int->Prop):Prop where
 tab:∀d,d<P.orders.length->b d≠[]->R (b d)/\T P d (b d)/\gt (b d) d=1
 vec:∀x,R x->Vec P.orders x
 que:∀x∈q,R x
 src:∀x,Q x->R x
 step:∀x,R x->x=zeros P.orders.length\/x∈q\/∃d,d<P.orders.length/\T P d x/\gt x d≠0/\b d≠[]/\∃x',R x'/\T P (d+1) x'/\∀K,Sub P K->K (b d)->K x'->K x
 pow:∀d,d<P.orders.length->b d≠[]->R (pw P (b d) (gt P.orders d).toNat)
 com:∀d e,d<e->e<P.orders.length->b d≠[]->b e≠[]->∃c,R c/\T P (d+1) c/\∀K,Sub P K->K (b e)->K c->K (rConj P (b e) (b d))
 gen:∀x,R x->genP P Q x
section
variable {P:Pr}(G:Grp P)
include G
theorem Grp.genP_sub {Q:List Int->Prop}(a:∀y,Q y->Vec P.orders y):Sub P (genP P Q):=
 ⟨λ_ h=>h _ G.sub_all a,λ_ S _=>S.one,λ_ _ h k _ S hH=>S.mul _ _ (h _ S hH) (k _ S hH),λ_ h _ S hH=>S.inv _ (h _ S hH)⟩
omit G in
theorem genP_mem {Q:List Int->Prop}{y:List Int}(hy:Q y):genP P Q y:=λ_ _ hH=>hH y hy
omit G in
theorem genP_le {Q:List Int->Prop}{H:List Int->Prop}(S:Sub P H) (h:∀y,Q y->H y) {x:List Int}(hx:genP P Q x):H x:=hx _ S h
theorem Grp.addInv_start {H:List Int->Prop}{b:Nat->List Int}(I:Ind P H b) {a:List (List Int)}(A:∀x∈a,Vec P.orders x) :
  AddInv P (λx=>H x\/x∈a) b a (λx=>H x\/x∈a):=by
 have S:=I.sub;refine⟨λd g k => ?_,?_,λx hx => .inr hx,λx hx=>hx,?_,λd g k => .inl (S.pw (I.mem d g k).1 _),λd e B C p q => ?_,λx hx=>genP_mem hx⟩
 ·obtain ⟨h1,l,r⟩:=I.mem d g k
  exact⟨.inl h1,l,r⟩
 ·rintro x (h|h)
  ·exact S.vec x h
  ·exact A x h
 ·rintro x (h|h)
  ·by_cases w:x=zeros P.orders.length
   ·exact .inl w
   ·obtain ⟨d,g,j,hx0⟩:=depth_ex (S.vec x h) w
    have k:=I.piv x h d g j hx0;obtain⟨n,i,m3⟩:=I.mem d g k;have E:=G.v.ord7 d g;have D:=j.1.2 d g;refine .inr (.inr ⟨d,g,j,hx0,k,rMul P (pw P (b d) (gt P.orders d-gt x d).toNat) x,.inl (S.mul _ _ (S.pw n _) h),?_,λK m h1 l => ?_⟩)
    ·refine (G.T_mul (Nat.le_of_lt g) (G.pw_T (Nat.le_of_lt g) i _) j).up ?_
     rw[(G.right (Nat.le_of_lt g) (G.pw_vec i.1 _) j).2 g,G.pw_at g i,m3,Int.mul_one,Int.emod_add_emod,show(((gt P.orders d-gt x d).toNat:Nat):Int)+gt x d=gt P.orders d by omega,Int.emod_self]
    ·have r:=m.mul _ _ (m.inv _ (m.pw h1 (gt P.orders d-gt x d).toNat)) l
     rwa [<-G.ass (G.invV (G.pw_vec i.1 _)) (G.pw_vec i.1 _) j.1,G.inv_mul (G.pw_vec i.1 _),G.grp.el _ j.1] at r
  ·exact .inr (.inl h)
 ·obtain ⟨n,i,m3⟩:=I.mem d (by omega) p
  obtain⟨y,z,k3⟩:=I.mem e C q;have u:=z.down (show d+1<=e by omega);refine⟨_,.inl (S.mul _ _ (S.inv _ (S.mul _ _ n y)) (S.mul _ _ y n)),(G.comm_deep (by omega) i u).2,λK m h1 l => ?_⟩;rw[G.conj_of_comm z.1 i.1];exact m.mul _ _ h1 l
omit G in
theorem addInv_sift {Q:List Int->Prop}{b:Nat->List Int}{q:List (List Int)}{R:List Int->Prop}{y i:List Int}(A:AddInv P Q b (y :: q) R) {d:Nat}(n:d<P.orders.length) (u:T P d y) (v:gt y d≠0) (p:b d≠[])
  (k:T P (d+1) i) (w:∀K,Sub P K->K (b d)->K i->K y) (l:∀K,Sub P K->K (b d)->K y->K i):AddInv P Q b (i :: q) (λx=>R x\/x=i):=by
 refine⟨λe j a=>⟨.inl (A.tab e j a).1,(A.tab e j a).2⟩,?_,?_,λx hx => .inl (A.src x hx),?_,λe j a => .inl (A.pow e j a),λd e m j h1 g => ?_,?_⟩
 ·rintro x (h|h)
  ·exact A.vec x h
  ·rw[h];exact k.1
 ·intro x hx
  rcases List.mem_cons.1 hx with h|h
  ·exact .inr h
  ·exact .inl (A.que x (List.mem_cons_of_mem _ h))
 ·rintro x (h|h)
  ·rcases A.step x h with h1|h1|⟨e,g,h3,h4,h5,x',h6,h7,h8⟩
   ·exact .inl h1
   ·rcases List.mem_cons.1 h1 with g|g
    ·rw[g];exact .inr (.inr ⟨d,n,u,v,p,i,.inr rfl,k,w⟩)
    ·exact .inr (.inl (List.mem_cons_of_mem _ g))
   ·exact .inr (.inr ⟨e,g,h3,h4,h5,x',.inl h6,h7,h8⟩)
  ·exact .inr (.inl (by rw[h];exact List.mem_cons_self))
 ·obtain ⟨c,c1,c2⟩:=A.com d e m j h1 g
  exact⟨c,.inl c1,c2⟩
 ·rintro x (h|h)
  ·exact A.gen x h
  ·rw [h]
   intro K S r;exact l K S (A.gen _ (A.tab d n p).1 K S r) (A.gen _ (A.que y List.mem_cons_self) K S r)
omit G in
theorem addInv_drop {Q:List Int->Prop}{b:Nat->List Int}{q:List (List Int)}{R:List Int->Prop}{y:List Int}(A:AddInv P Q b (y :: q) R) (hy:y=zeros P.orders.length):AddInv P Q b q R:=by
 refine⟨A.tab,A.vec,λx hx=>A.que x (List.mem_cons_of_mem _ hx),A.src,λx hx => ?_,A.pow,A.com,A.gen⟩;rcases A.step x hx with h1|h1|h1
 ·exact .inl h1
 ·rcases List.mem_cons.1 h1 with a|a
  ·exact .inl (a.trans hy)
  ·exact .inr (.inl a)
 ·exact .inr (.inr h1)
theorem Grp.addInv_insert {Q:List Int->Prop}{b E:Nat->List Int}{q q':List (List Int)}{R:List Int->Prop}{y z:List Int}(A:AddInv P Q b (y :: q) R) {d:Nat}(U:d<P.orders.length) (hT:T P d y) (hb:b d=[])
  (N:T P d z) (V:gt z d=1) (W:∀K,Sub P K->K y->K z) (w:∀e,e<P.orders.length->E e=if e=d then z else b e)
  (ac:∀x∈q',x∈q\/x=y\/x=z\/x=pw P z (gt P.orders d).toNat\/∃e,e<P.orders.length/\b e≠[]/\(x=rMul P (rInv P (rMul P z (b e))) (rMul P (b e) z)\/x=rMul P (rInv P (rMul P (b e) z)) (rMul P z (b e))))
  (B:∀x,x∈q\/x=y\/x=pw P z (gt P.orders d).toNat->x∈q')
  (X:∀e,e<P.orders.length->b e≠[]->rMul P (rInv P (rMul P z (b e))) (rMul P (b e) z)∈q'\/rMul P (rInv P (rMul P (b e) z)) (rMul P z (b e))∈q') :
  AddInv P Q E q' (λx=>R x\/x=z\/x∈q'):=by
 have ho:=G.v.ord7 d U;have a:=N.1
 have F:∀e,e<P.orders.length->b e≠[]->E e=b e:=λe l g=>by
  rw[w e l,if_neg (λh=>g (by rw[h];exact hb))]
 have i:∀e,e<P.orders.length->E e≠[]->(e=d/\E e=z)\/(e≠d/\b e≠[]/\E e=b e):=λe l g=>by
  by_cases h:e=d
  ·exact .inl ⟨h,by rw[w e l,if_pos h]⟩
  ·have j:E e=b e:=by rw[w e l,if_neg h]
   exact .inr ⟨h,by rw[<-j];exact g,j⟩
 have H:E d=z:=by rw[w d U,if_pos rfl]
 have Y:z≠[]:=by
  intro h;have:=a.1;rw[h] at this;simp at this;omega
 have Z:∀x∈q',Vec P.orders x/\genP P Q x:=by
  have aa:=A.gen y (A.que y List.mem_cons_self);have k:genP P Q z:=λK S m=>W K S (aa K S m);intro x hx;rcases ac x hx with h|h|h|h|⟨e,l,g,h|h⟩
  ·have:=A.que x (List.mem_cons_of_mem _ h);exact⟨A.vec x this,A.gen x this⟩
  ·rw[h];exact⟨hT.1,aa⟩
  ·rw[h];exact⟨a,k⟩
  ·rw[h];exact⟨G.pw_vec a _,λK S m=>S.pw (k K S m) _⟩
  ·have n:=(A.tab e l g).2.1.1
   have p:=A.gen _ (A.tab e l g).1;rw[h];exact⟨G.mulV (G.invV (G.mulV a n)) (G.mulV n a),λK S m=>S.mul _ _ (S.inv _ (S.mul _ _ (k K S m) (p K S m))) (S.mul _ _ (p K S m) (k K S m))⟩
  ·have n:=(A.tab e l g).2.1.1
   have p:=A.gen _ (A.tab e l g).1;rw[h];exact⟨G.mulV (G.invV (G.mulV n a)) (G.mulV a n),λK S m=>S.mul _ _ (S.inv _ (S.mul _ _ (p K S m) (k K S m))) (S.mul _ _ (k K S m) (p K S m))⟩
 have ad:T P (d+1) (pw P z (gt P.orders d).toNat):=G.pw_order U N;refine⟨λe l g => ?_,?_,λx hx => .inr (.inr hx),λx hx => .inl (A.src x hx),?_,λe l g => ?_,λO I ae r h1 j => ?_,?_⟩
 ·rcases i e l g with⟨h1,j⟩|⟨h1,j,h3⟩
  ·subst h1;rw[j];exact⟨.inr (.inl rfl),N,V⟩
  ·rw[h3];exact⟨.inl (A.tab e l j).1,(A.tab e l j).2⟩
 ·rintro x (h|h|h)
  ·exact A.vec x h
  ·rw[h];exact a
  ·exact(Z x h).1
 ·rintro x (h|h|h)
  ·rcases A.step x h with h1|h1|⟨e,j,h3,h4,h5,x',h6,h7,h8⟩
   ·exact .inl h1
   ·rcases List.mem_cons.1 h1 with j|j
    ·exact .inr (.inl (B x (.inr (.inl j))))
    ·exact .inr (.inl (B x (.inl j)))
   ·refine .inr (.inr ⟨e,j,h3,h4,by rw[F e j h5];exact h5,x',.inl h6,h7,?_⟩)
    rw[F e j h5];exact h8
  ·-- the new entry itself: its power with the order, times its inverse
   subst h;refine .inr (.inr ⟨d,U,N,by rw[V];decide,by rw[H];exact Y,pw P x (gt P.orders d).toNat,.inr (.inr (B _ (.inr (.inr rfl)))),ad,λK _ hk _=>by rw[H] at hk;exact hk⟩)
  ·exact .inr (.inl h)
 ·rcases i e l g with⟨h1,j⟩|⟨h1,j,h3⟩
  ·subst h1;rw[j];exact .inr (.inr (B _ (.inr (.inr rfl))))
  ·rw[h3];exact .inl (A.pow e l j)
 ·rcases i O (by omega) h1 with⟨a1,a2⟩|⟨a1,a2,a3⟩
  ·rcases i I r j with⟨b1,b2⟩|⟨b1,b2,b3⟩
   ·omega
   ·subst a1
    rw[a2,b3];obtain⟨k1,C,k3⟩:=A.tab I r b2;have ag:=C.down (show O+1<=I by omega);have u:=G.comm_deep U N ag;rcases X I r b2 with J|J
    ·refine ⟨_,.inr (.inr J),u.2,λK D L M => ?_⟩
     rw[G.conj_of_comm C.1 a];exact D.mul _ _ L M
    ·refine ⟨_,.inr (.inr J),u.1,λK D L M => ?_⟩
     rw[G.conj_of_comm C.1 a,<-G.comm_inv C.1 a];exact D.mul _ _ L (D.inv _ M)
  ·rcases i I r j with⟨b1,b2⟩|⟨b1,b2,b3⟩
   ·subst b1
    rw[a3,b2];obtain⟨k1,C,k3⟩:=A.tab O (by omega) a2;have ah:=N.down (show O+1<=I by omega);have u:=G.comm_deep (by omega) C ah;rcases X O (by omega) a2 with J|J
    ·refine ⟨_,.inr (.inr J),u.1,λK D L M => ?_⟩
     rw[G.conj_of_comm a C.1,<-G.comm_inv a C.1];exact D.mul _ _ L (D.inv _ M)
    ·refine ⟨_,.inr (.inr J),u.2,λK D L M => ?_⟩
     rw[G.conj_of_comm a C.1];exact D.mul _ _ L M
   ·rw [a3,b3]
    obtain⟨c,c1,c2⟩:=A.com O I ae r a2 b2;exact⟨c,.inl c1,c2⟩
 ·rintro x (h|h|h)
  ·exact A.gen x h
  ·rw[h];intro K S m;exact W K S (A.gen _ (A.que y List.mem_cons_self) K S m)
  ·exact(Z x h).2
theorem Grp.addInv_end {Q:List Int->Prop}{b:Nat->List Int}{R:List Int->Prop}(A:AddInv P Q b [] R):Ind P (genP P Q) b:=by
 have C:Closed P b R:=by
  refine⟨λd a j=>(A.tab d a j).2,A.vec,λq k => ?_,A.pow,A.com⟩;rcases A.step q k with h|h|h
  ·exact .inl h
  ·cases h
  ·exact .inr h
 obtain⟨K,t⟩:=G.tailSub C P.orders.length 0 (by omega);have g:=G.genP_sub (Q:=Q) (λy hy=>A.vec y (A.src y hy));have i:∀x,genP P Q x->K x:=λx hx=>genP_le t.sub (λy hy=>t.res y (A.src y hy) (T_zero.2 (A.vec y (A.src y hy)))) hx;exact⟨g,λd a e=>⟨A.gen _ (A.tab d a e).1,(A.tab d a e).2⟩,λx hx d a l m=>t.piv x (i x hx) d (by omega) a l m⟩
end
def dep (x:List Int):Nat:=x.findIdx (λe=>e != 0)
theorem dep_le (x:List Int):dep x<=x.length:=List.findIdx_le_length
theorem dep_zero {x:List Int}{k:Nat}(h:k<dep x):gt x k=0:=by
 have a:k<x.length:=Nat.lt_of_lt_of_le h (dep_le x);have:=List.not_of_lt_findIdx h;rw[gt_eq x k a];simpa using this
theorem dep_ne {x:List Int}(h:dep x<x.length):gt x (dep x)≠0:=by
 have a:=List.findIdx_getElem (xs:=x) (p:=λe=>e != 0) (w:=h);rw[gt_eq x _ h];show ¬(x[List.findIdx (λe=>e != 0) x]=0)
 simpa using a
theorem dep_eq {x:List Int}{d:Nat}(e:d<x.length) (a:∀k,k<d->gt x k=0) (b:gt x d≠0):dep x=d:=by
 rcases Nat.lt_trichotomy (dep x) d with h|h|h
 ·exact absurd (a _ h) (dep_ne (by omega))
 ·exact h
 ·exact absurd (dep_zero h) b
theorem dep_T {P:Pr}{x:List Int}(hx:Vec P.orders x):T P (dep x) x:=⟨hx,λ_ hk=>dep_zero hk⟩
theorem dep_top {P:Pr}{x:List Int}(hP:Valid P) (hx:Vec P.orders x):dep x=P.orders.length↔x=zeros P.orders.length:=by
 constructor
 ·intro h
  have:=dep_T hx;rw[h] at this;exact this.top hP
 ·intro h
  rcases Nat.lt_or_ge (dep x) x.length with h1|h1
  ·exfalso
   apply dep_ne h1;have:∀k,gt (zeros P.orders.length) k=0:=λk=>gt_replicate _ _;rw[h];exact this _
  ·have:=dep_le x
   rw[<-hx.1];omega
theorem dep_lead {P:Pr}{x:List Int}{d:Nat}(b:d<P.orders.length) (a:T P d x) (e:gt x d≠0):dep x=d:=dep_eq (by rw[a.1.1];exact b) a.2 e
section
variable {P:Pr}(G:Grp P)
include G
theorem Grp.clear {d:Nat}(a:d<P.orders.length) {x z:List Int}(hx:Vec P.orders x) (e:T P d z) (b:gt z d=1) (k:Nat) (hk:((k:Int)+gt x d)%gt P.orders d=0) :
  gt (rMul P x (pw P z k)) d=0/\∀j,j<d->gt (rMul P x (pw P z k)) j=gt x j:=by
 have g:=G.pw_T (Nat.le_of_lt a) e k;have h:=G.right (Nat.le_of_lt a) hx g;refine⟨?_,h.1⟩;rw[h.2 a,G.pw_at a e,b,Int.mul_one,Int.add_emod_emod,Int.add_comm];exact hk
theorem Grp.rep_from {H:List Int->Prop}{b:Nat->List Int}(I:Ind P H b) (f:Nat):∀d x,d+f=P.orders.length->Vec P.orders x->∃y h,H h/\T P d h/\y=rMul P x h/\Vec P.orders y/\∀e,d<=e->e<P.orders.length->b e≠[]->gt y e=0:=by
 induction f with
 | zero=>
  intro d x w hx;exact⟨x,_,I.sub.one,T.zeros G.v d,(G.grp.er x hx).symm,hx,λe a l=>by omega⟩
 | succ f r=>
  intro d x w hx;have g:d<P.orders.length:=by omega
  by_cases u:b d=[]
  ·obtain ⟨y,h,h1,k,m,h4,h5⟩:=r (d+1) x (by omega) hx
   refine⟨y,h,h1,k.down (Nat.le_succ d),m,h4,λe a l i => ?_⟩;by_cases n:e=d
   ·subst n;exact absurd u i
   ·exact h5 e (by omega) l i
  ·obtain ⟨z,p,m3⟩:=I.mem d g u
   have C:=G.v.ord7 d g;have A:=hx.2 d g;have j:=G.pw_vec p.1 (gt P.orders d-gt x d).toNat;have q:=G.pw_T (Nat.le_of_lt g) p (gt P.orders d-gt x d).toNat
   have B:=G.clear g hx p m3 (gt P.orders d-gt x d).toNat (by
    rw[show(((gt P.orders d-gt x d).toNat:Nat):Int)+gt x d=gt P.orders d by omega,Int.emod_self])
   obtain⟨y,h,h1,k,m,h4,h5⟩:=r (d+1) _ (by omega) (G.mulV hx j);refine⟨y,rMul P (pw P (b d) (gt P.orders d-gt x d).toNat) h,I.sub.mul _ _ (I.sub.pw z _) h1,G.T_mul (Nat.le_of_lt g) q (k.down (Nat.le_succ d)),?_,h4,λe a l i => ?_⟩
   ·rw[m,G.ass hx j k.1]
   ·by_cases n:e=d
    ·subst n
     rw[m,(G.right (Nat.succ_le_of_lt g) (G.mulV hx j) k).1 e (by omega)];exact B.1
    ·exact h5 e (by omega) l i
theorem Grp.red_of_ind {H:List Int->Prop}{b:Nat->List Int}(I:Ind P H b):∃r,Red P H r:=by
 have key:∀d,∃y,(b d=[]->y=[])/\(d<P.orders.length->b d≠[]->y≠[]/\H y/\T P d y/\gt y d=1/\∀e,d<e->e<P.orders.length->b e≠[]->gt y e=0):=by
  intro d;by_cases j:b d=[]
  ·exact⟨[],λ_=>rfl,λ_ h=>absurd j h⟩
  ·by_cases i:d<P.orders.length
   ·obtain ⟨v,l,m3⟩:=I.mem d i j
    obtain⟨y,h,h1,k,m,h4,h5⟩:=G.rep_from I (P.orders.length-(d+1)) (d+1) (b d) (by omega) l.1;have n:T P d y:=by rw[m];exact G.T_mul (Nat.le_of_lt i) l (k.down (Nat.le_succ d))
    refine⟨y,λh=>absurd h j,λ_ _=>⟨?_,?_,n,?_,λe a w p=>h5 e (by omega) w p⟩⟩
    ·intro e
     have:=h4.1;rw[e] at this;simp at this;omega
    ·rw[m];exact I.sub.mul _ _ v h1
    ·rw[m,(G.right (Nat.succ_le_of_lt i) l.1 k).1 d (by omega)];exact m3
   ·exact⟨[],λ_=>rfl,λh=>absurd h i⟩
 have g:=λd=>key d;refine⟨λd=>Classical.choose (g d),⟨⟨I.sub,λd i z => ?_,λx hx d i A B => ?_⟩,λd e q C h1 k => ?_⟩⟩
 ·have s:=Classical.choose_spec (g d)
  have j:b d≠[]:=λh=>z (s.1 h);have:=s.2 i j;exact⟨this.2.1,this.2.2.1,this.2.2.2.1⟩
 ·have s:=Classical.choose_spec (g d)
  exact(s.2 i (I.piv x hx d i A B)).1
 ·have s:=Classical.choose_spec (g d)
  have D:=Classical.choose_spec (g e);have j:b d≠[]:=λh=>h1 (s.1 h);have u:b e≠[]:=λh=>k (D.1 h);exact(s.2 (by omega) j).2.2.2.2 e q C u
omit G in
theorem unit_ex {o a:Int}(b:o=2\/o=3\/o=5\/o=7) (ha:0<a) (e:a<o):∃k:Nat,((k:Int)*a)%o=1:=by
 rcases b with rfl|rfl|rfl|rfl
 ·exact⟨1,by have:a=1:=(by omega);subst this;rfl⟩
 ·rcases (show a=1\/a=2 by omega) with rfl|rfl
  ·exact⟨1,rfl⟩
  ·exact⟨2,rfl⟩
 ·rcases (show a=1\/a=2\/a=3\/a=4 by omega) with rfl|rfl|rfl|rfl
  ·exact⟨1,rfl⟩
  ·exact⟨3,rfl⟩
  ·exact⟨2,rfl⟩
  ·exact⟨4,rfl⟩
 ·rcases (show a=1\/a=2\/a=3\/a=4\/a=5\/a=6 by omega) with rfl|rfl|rfl|rfl|rfl|rfl
  ·exact⟨1,rfl⟩
  ·exact⟨4,rfl⟩
  ·exact⟨5,rfl⟩
  ·exact⟨2,rfl⟩
  ·exact⟨3,rfl⟩
  ·exact⟨6,rfl⟩
open Classical in
theorem Grp.ind_ex {H:List Int->Prop}(S:Sub P H):∃b,Ind P H b:=by
 refine⟨λd=>if h:∃y,d<P.orders.length/\H y/\T P d y/\gt y d=1 then Classical.choose h else [],S,λd _ g => ?_,λx hx d a i m => ?_⟩
 ·by_cases h:∃y,d<P.orders.length/\H y/\T P d y/\gt y d=1
  ·simp only[dif_pos h] at g ⊢
   exact(Classical.choose_spec h).2
  ·simp only[dif_neg h] at g;exact absurd rfl g
 ·have j:=i.1.2 d a
  obtain⟨k,hk⟩:=unit_ex (G.v.ord d a) (by omega) j.2;have h:∃y,d<P.orders.length/\H y/\T P d y/\gt y d=1:=⟨pw P x k,a,S.pw hx k,G.pw_T (Nat.le_of_lt a) i k,by rw[G.pw_at a i];exact hk⟩;simp only[dif_pos h];have l:=(Classical.choose_spec h).2.2.1.1.1;intro e;rw[e] at l;simp at l;omega
open Classical in
noncomputable def cseq (P:Pr) (H:List Int->Prop):List (List Int):=if h:∃r,Red P H r then seqOf P.orders.length (Classical.choose h) else []
theorem Grp.cseq_red {H:List Int->Prop}{r:Nat->List Int}(A:Red P H r):cseq P H=seqOf P.orders.length r:=by
 unfold cseq;have h:∃r,Red P H r:=⟨r,A⟩;rw[dif_pos h];exact G.seq_one (Classical.choose_spec h) A
theorem Grp.cseq_spec {H:List Int->Prop}(S:Sub P H):∃r,Red P H r/\cseq P H=seqOf P.orders.length r:=by
 obtain⟨b,I⟩:=G.ind_ex S;obtain⟨r,A⟩:=G.red_of_ind I;exact⟨r,A,G.cseq_red A⟩
end
/-! ### a sequence as a list -/
section
variable {P:Pr}(G:Grp P)
include G
theorem Grp.left_clear {d:Nat}(b:d<P.orders.length) {x t:List Int}(hx:T P d x) (i:T P d t) (e:gt t d=1) :
  T P (d+1) (rMul P (pw P t (gt P.orders d-gt x d).toNat) x)/\∀K,Sub P K->K t->(K (rMul P (pw P t (gt P.orders d-gt x d).toNat) x)↔K x):=by
 have l:=G.v.ord7 d b;have j:=hx.1.2 d b;have a:=G.pw_T (Nat.le_of_lt b) i (gt P.orders d-gt x d).toNat;refine⟨?_,λK S h1=>⟨λg => ?_,λg=>S.mul _ _ (S.pw h1 _) g⟩⟩
 ·refine (G.T_mul (Nat.le_of_lt b) a hx).up ?_
  rw[(G.right (Nat.le_of_lt b) a.1 hx).2 b,G.pw_at b i,e,Int.mul_one,Int.emod_add_emod,show(((gt P.orders d-gt x d).toNat:Nat):Int)+gt x d=gt P.orders d by omega,Int.emod_self]
 ·have k:=S.mul _ _ (S.inv _ (S.pw h1 (gt P.orders d-gt x d).toNat)) g
  rwa [<-G.ass (G.invV a.1) a.1 hx.1,G.inv_mul a.1,G.grp.el _ hx.1] at k
def pwZ (P:Pr) (x:List Int) (k:Int):List Int:=if k<0 then pw P (rInv P x) (-k).toNat else pw P x k.toNat
theorem Grp.pwZ_vec {x:List Int}(hx:Vec P.orders x) (k:Int):Vec P.orders (pwZ P x k):=by
 unfold pwZ;split
 ·exact G.pw_vec (G.invV hx) _
 ·exact G.pw_vec hx _
omit G in
theorem Sub.pwZ {H:List Int->Prop}(S:Sub P H) {x:List Int}(hx:H x) (k:Int):H (Go.Proofs.YtdcobapnlpeaaaaGreat.pwZ P x k):=by
 unfold Go.Proofs.YtdcobapnlpeaaaaGreat.pwZ;split
 ·exact S.pw (S.inv _ hx) _
 ·exact S.pw hx _
theorem Grp.pwZ_T {x:List Int}{d:Nat}(a:d<=P.orders.length) (hx:T P d x) (k:Int):T P d (pwZ P x k):=by
 unfold pwZ;split
 ·exact G.pw_T a (G.T_inv a hx) _
 ·exact G.pw_T a hx _
theorem Grp.inv_at {x:List Int}{d:Nat}(a:d<P.orders.length) (hx:T P d x):(gt (rInv P x) d+gt x d)%gt P.orders d=0:=by
 have b:=G.T_inv (Nat.le_of_lt a) hx;have h:=(G.right (Nat.le_of_lt a) b.1 hx).2 a;rw[G.inv_mul hx.1] at h;have e:gt (zeros P.orders.length) d=0:=gt_replicate _ _;rw[<-h,e]
theorem Grp.right_clear {d:Nat}(a:d<P.orders.length) {x t:List Int}(hx:Vec P.orders x) (g:T P d t) (i:gt t d=1) :
  gt (rMul P x (pwZ P t (-(gt x d)))) d=0/\(∀k,k<d->gt (rMul P x (pwZ P t (-(gt x d)))) k=gt x k)/\Vec P.orders (rMul P x (pwZ P t (-(gt x d)))):=by
 have u:=G.v.ord7 d a;have m:=hx.2 d a;have b:=G.pwZ_T (Nat.le_of_lt a) g (-(gt x d));have h:=G.right (Nat.le_of_lt a) hx b;refine⟨?_,h.1,G.mulV hx b.1⟩;rw[h.2 a];by_cases j:gt x d=0
 ·have:pwZ P t (-(gt x d))=zeros P.orders.length:=by
   unfold pwZ;rw[j];simp;rfl
  have n:gt (zeros P.orders.length) d=0:=gt_replicate _ _;rw[this,n,j];simp
 ·have e:pwZ P t (-(gt x d))=pw P (rInv P t) (gt x d).toNat:=by
   unfold pwZ;rw[if_pos (by omega),Int.neg_neg]
  rw[e,G.pw_at a (G.T_inv (Nat.le_of_lt a) g)];have l:=G.inv_at a g;rw[i] at l;have p:=(G.invV g.1).2 d a;-- the inverse's entry is one less than the order
  have q:gt (rInv P t) d=gt P.orders d-1:=by
   by_cases h1:gt (rInv P t) d+1<gt P.orders d
   ·rw[Int.emod_eq_of_lt (by omega) h1] at l;omega
   ·omega
  rw[q,show(((gt x d).toNat:Nat):Int)=gt x d by omega,Int.add_emod_emod];have r:gt x d+gt x d*(gt P.orders d-1)=gt x d*gt P.orders d:=by rw[Int.mul_sub,Int.mul_one];omega
  rw[r,Int.mul_emod_left]
theorem Grp.lead_one {d:Nat}(a:d<P.orders.length) {x:List Int}(hx:T P d x) (k:Int) (b:0<=k) (hk:(k*gt x d)%gt P.orders d=1):T P d (pw P x k.toNat)/\gt (pw P x k.toNat) d=1:=by
 refine⟨G.pw_T (Nat.le_of_lt a) hx _,?_⟩;rw[G.pw_at a hx,show((k.toNat:Nat):Int)=k by omega];exact hk
end
end Go.Proofs.YtdcobapnlpeaaaaGreat
namespace Go.Proofs.YtdcobapnlpeaaaaGreat
open Go.RowKit
theorem tmod_residue (a m:Int) (b:0<m):(a.tmod m+m).tmod m=a%m:=by
 have h1 : -m<a.tmod m/\a.tmod m<m:=⟨Int.neg_lt_of_neg_lt (by have:=Int.lt_tmod_of_pos a b;omega),Int.tmod_lt_of_pos a b⟩;rw[Int.tmod_eq_emod_of_nonneg (by omega),Int.add_emod_right];rw[Int.tmod_eq_emod];split
 ·rw[show((0:Nat):Int)=0 from rfl,Int.sub_zero,Int.emod_emod_of_dvd _ (Int.dvd_refl m)]
 ·rw[show a%m-m.natAbs=a%m-m by omega,Int.sub_emod,Int.emod_self,Int.sub_zero,Int.emod_emod_of_dvd _ (Int.dvd_refl m),Int.emod_emod_of_dvd _ (Int.dvd_refl m)]
theorem residue_ok (a m:Int) (w:World) (j:1<=m/\m<=1000000000) :
  Calls Tryz.prog 157 #[.int .i64 a,.int .i64 m] w λe w'=>e=.returned (.int .i64 (a%m))/\w=w':=by
 have h1 : -m<a.tmod m/\a.tmod m<m:=⟨by have:=Int.lt_tmod_of_pos a (show 0<m by omega);omega,Int.tmod_lt_of_pos a (by omega)⟩;have k:=tmod_residue a m (by omega);have l:IntKind.i64.wrap (a.tmod m)=a.tmod m:=IntWalk.i64_in _ (by omega);have n:IntKind.i64.wrap (a.tmod m+m)=a.tmod m+m:=IntWalk.i64_in _ (by omega);have p:0<=a%m/\a%m<m:=⟨Int.emod_nonneg _ (by omega),Int.emod_lt_of_pos _ (by omega)⟩;have q:IntKind.i64.wrap (a%m)=a%m:=IntWalk.i64_in _ (by omega);have b:(m == 0)=false:=by simp;omega
 have g:¬m=0:=by omega
 have i:¬m = -1:=by omega
 go_enter Tryz.func157,Tryz.ntmps157;go_wp2;go_ret;exact⟨rfl,rfl⟩
theorem dep_all {X:List Int}(h:∀k,k<X.length->gt X k=0):dep X=X.length:=by
 have:=dep_le X;rcases Nat.lt_or_ge (dep X) X.length with h1|h1
 ·exact absurd (h _ h1) (dep_ne h1)
 ·omega
theorem depthOf_ok (v:Value) (X:List Int) (w:World) (S:Nat->Prop) (h:Ints S w v X) :
  Calls Tryz.prog 205 #[v] w λe w'=>e=.returned (.int .i64 (dep X))/\w=w':=by
 obtain⟨a,cap,rfl,_,_⟩:=h.shape;go_enter Tryz.func205,Tryz.ntmps205;go_wp2;go_loop [7] (λi=>∃k:Nat,i=.int .i64 k/\k<=X.length/\∀j,j<k->gt X j=0) (λi=>X.length-(intOf i).toNat)
 case atStart=>exact⟨0,rfl,by omega,λj m=>by omega⟩
 case round=>
  obtain⟨k,rfl,hk,hz⟩:=hrel;have n:=Lib.hid hz;clear hz;by_cases g:k<X.length
  ·obtain ⟨b,off,rfl,_,_,hc⟩:=Ints.at h k g
   by_cases hx:gt X k=0
   ·have q:(gt X k != 0)=false:=by simp[hx]
    have r:=Lib.hid hx;clear hx;go_wp2;go_round
    case rel=>exact⟨k+1,by go_num,by omega,λj m=>by
     rcases Nat.lt_succ_iff_lt_or_eq.1 m with h1|h1
     ·exact n.out j h1
     ·rw[h1];exact r.out⟩
    case measure=>simp[intOf];omega
   ·have q:(gt X k != 0)=true:=by simp[hx]
    have l:dep X=k:=dep_eq g n.out hx;have p:=Lib.hid l;clear l hx;go_wp2;go_ret;exact⟨by rw[p.out];rfl,rfl⟩
  ·have u:k=X.length:=by omega
   have l:dep X=X.length:=dep_all (λj m=>n.out j (by omega));have p:=Lib.hid l;clear l;go_wp2;go_ret;exact⟨by rw[p.out];rfl,rfl⟩
theorem Grp.comm_eq {P:Pr}(G:Grp P) {x y:List Int}(hx:Vec P.orders x) (hy:Vec P.orders y):tv P (iInv P x) (iConj P x y)=rMul P (rInv P (rMul P y x)) (rMul P x y):=by
 have b:=G.invV hx;have a:=G.invV hy;have c1:=G.mulV hx hy;rw[G.iInv_eq hx,G.iConj_eq hx hy,G.tv_eq b (G.conjV hx hy),G.inv_mulR hy hx];unfold rConj;rw[G.ass b a c1]
theorem commutator_ok (P:Pr) (G:Grp P) (w:World) (p a b:Value) (A B:List Int) (k l y:Nat->Prop) (n:PresP k w p P) (ha:Ints l w a A) (C:Ints y w b B) (i:Vec P.orders A) (hB:Vec P.orders B) :
  Calls Tryz.prog 134 #[p,a,b] w (Ret w λw' v=>Own w.heap.size w' v (rMul P (rInv P (rMul P B A)) (rMul P A B))):=by
 have hP:=G.v;have D:=hP.n6;have E:(iInv P A).length<=6:=by rw[(iInv_vec hP A i).1];omega
 have j:Vec P.orders (iConj P A B):=by rw[G.iConj_eq i hB];exact G.conjV i hB
 have F:(iConj P A B).length<=6:=by rw[j.1];omega
 go_enter Tryz.func134,Tryz.ntmps134;go_wp2_with fail
 refine Calls.mono (invert_ok P hP w p a A k l n ha i) ?_;rintro L H ⟨r,rfl,e,I⟩;go_wp2_with fail
 refine Calls.mono (conjugate_ok P hP H p a b A B k l y (n.ext e) (ha.ext e) (C.ext e) i hB) ?_;rintro M J ⟨m,rfl,g,K⟩;go_wp2_with fail
 refine Calls.mono (multiply_ok P hP J p r m _ _ k Any Any (n.ext (grown_trans e g)) ((I.ext0 g).ints (by omega)) (K.ints (by omega)) (iInv_vec hP A i) j) ?_;rintro N O ⟨q,rfl,u,z⟩;rw[G.comm_eq i hB] at z;go_wp2;go_ret;exact⟨_,rfl,grown_trans (grown_trans e g) u,z.weak (by have:=e.size;have:=g.size;omega)⟩
def euc (m a:Int):Nat->Int × Int × Int × Int
 | 0=>(m,a,0,1)
 | i+1=>let s:=euc m a i;if s.2.1=0 then s else (s.2.1,s.1-s.1/s.2.1*s.2.1,s.2.2.2,s.2.2.1-s.1/s.2.1*s.2.2.2)
def eucGood (m a:Int):Bool:=
 (List.range 6).all (λi=>let s:=euc m a i;decide (0<=s.1/\s.1<=7/\0<=s.2.1/\s.2.1<=7 /\ -7<=s.2.2.1/\s.2.2.1<=7 /\ -7<=s.2.2.2/\s.2.2.2<=7/\(s.2.1=0\/i<5))) &&
  decide ((euc m a 5).2.1=0/\(euc m a 5).1=1/\((euc m a 5).2.2.1%m*a)%m=1)
theorem euc_good {m a:Int}(b:m=2\/m=3\/m=5\/m=7) (h1:1<=a) (e:a<m):eucGood m a=true:=by
 rcases b with rfl|rfl|rfl|rfl
 ·have:a=1:=by omega
  subst this;decide
 ·rcases(show a=1\/a=2 by omega) with rfl|rfl<;>decide
 ·rcases(show a=1\/a=2\/a=3\/a=4 by omega) with rfl|rfl|rfl|rfl<;>decide
 ·rcases(show a=1\/a=2\/a=3\/a=4\/a=5\/a=6 by omega) with rfl|rfl|rfl|rfl|rfl|rfl<;>decide
theorem euc_stay (m a:Int) (i j:Nat) (h:(euc m a i).2.1=0):euc m a (i+j)=euc m a i:=by
 induction j with
 | zero=>rfl
 | succ j b=>
  show euc m a (i+j+1)=_
  simp only[euc,b,if_pos h]
theorem inverseMod_ok (a m:Int) (w:World) (A:m=2\/m=3\/m=5\/m=7) (h1:1<=a) (M:a<m) :
  Calls Tryz.prog 206 #[.int .i64 a,.int .i64 m] w λe w'=>(∃k:Int,e=.returned (.tuple #[.int .i64 k,.bool true])/\0<=k/\k<m/\(k*a)%m=1)/\w=w':=by
 have B:=euc_good A h1 M;unfold eucGood at B;rw[Bool.and_eq_true,List.all_eq_true] at B;obtain⟨l,hend⟩:=B;have G:∀i,i<6->0<=(euc m a i).1/\(euc m a i).1<=7/\0<=(euc m a i).2.1/\(euc m a i).2.1<=7 /\ -7<=(euc m a i).2.2.1/\(euc m a i).2.2.1<=7 /\ -7<=(euc m a i).2.2.2/\(euc m a i).2.2.2<=7/\((euc m a i).2.1=0\/i<5):=λi N=>of_decide_eq_true (l i (List.mem_range.2 N));have H:=of_decide_eq_true hend;have C:=Lib.hid (And.intro G H);clear G H l hend;have O:2<=m/\m<=7:=by omega
 have Z:=Lib.hid A;clear A;go_enter Tryz.func206,Tryz.ntmps206;go_wp2;go_loopg [6,7,8,9] 5 (λgk P Q R S wr=>∃(i:Nat) (r n x y:Int),gk+i=5/\P=.int .i64 r/\Q=.int .i64 n/\R=.int .i64 x/\S=.int .i64 y/\euc m a i=(r,n,x,y)/\w=wr)
 case atStart=>exact⟨0,m,a,0,1,rfl,rfl,rfl,rfl,rfl,rfl,rfl⟩
 case round=>
  obtain⟨i,r,n,x,y,hgi,rfl,rfl,rfl,rfl,D,rfl⟩:=hrel;have p:=C.out.1 i (by omega);rw[D] at p;simp only at p;obtain⟨b1,b2,b3,b4,b5,b6,b7,b8,I⟩:=p;have z:=Lib.hid (And.intro D I);clear D I;by_cases q:n=0
  ·subst q
   have u:euc m a 5=(r,0,x,y):=by
    have J:=euc_stay m a i (5-i) (by rw[z.out.1]);rw[show i+(5-i)=5 by omega] at J;rw[J,z.out.1]
   have g:=C.out.2;rw[u] at g;simp only at g;obtain⟨_,hr,hk⟩:=g;subst hr;have v:0<=x%m/\x%m<m:=⟨Int.emod_nonneg _ (by omega),Int.emod_lt_of_pos _ (by omega)⟩;have T:=Lib.hid hk;clear hk u;go_wp2_with (go_at_call 157;refine Calls.mono (residue_ok x m w (by omega)) ?_;rintro eR wR ⟨rfl,rfl⟩)
   go_ret2
   exact⟨⟨_,rfl,v.1,v.2,T.out⟩,rfl⟩
  ·have U:(n != 0)=true:=by simp[q]
   have V:i<5:=z.out.2.resolve_left q;have W:0<n:=by omega
   have b:euc m a (i+1)=(n,r-r/n*n,y,x-r/n*y):=by
    simp only[euc,z.out.1];rw[if_neg q]
   have j:=C.out.1 (i+1) (by omega);rw[b] at j;simp only at j;have E:=Lib.hid (And.intro b j);clear b;have F:0<=r/n:=Int.ediv_nonneg b1 (by omega);have X:r/n<=7:=Int.le_trans (Int.ediv_le_self _ b1) b2;have Y:0<=r/n*n:=Int.mul_nonneg F (by omega);have K:r/n*n<=7:=by omega
   have L : -100<=r/n*y/\r/n*y<=100:=by omega
   have e1:r.tdiv n=r/n:=Int.tdiv_eq_ediv_of_nonneg b1;have e2:IntKind.i64.wrap (r/n)=r/n:=IntWalk.i64_in _ (by omega);have e3:IntKind.i64.wrap (r/n*n)=r/n*n:=IntWalk.i64_in _ (by omega);have e4:IntKind.i64.wrap (r-r/n*n)=r-r/n*n:=IntWalk.i64_in _ (by omega);have e5:IntKind.i64.wrap (r/n*y)=r/n*y:=IntWalk.i64_in _ (by omega);have e6:IntKind.i64.wrap (x-r/n*y)=x-r/n*y:=IntWalk.i64_in _ (by omega);clear j q;go_wp2;go_roundg (gk-1)
   case measure=>omega
   case rel=>exact⟨i+1,n,r-r/n*n,y,x-r/n*y,by omega,rfl,rfl,rfl,rfl,E.out.1,rfl⟩
theorem gtMem {α:Type} [Inhabited α] {l:List α}{i:Nat}(h:i<l.length):gt l i∈l:=by rw[gt_eq l i h];exact List.getElem_mem h
theorem nzClosure_ok (x:Int) (w:World):Calls Tryz.prog 229 #[.int .i64 x] w λe w'=>e=.returned (.bool (x != 0))/\w=w':=by
 go_enter Tryz.func229,Tryz.ntmps229;go_wp2;exact bodyPost_ret (v := .bool (x != 0)) (by simp[results,Tryz.results229,go_sem]) rfl ⟨rfl,rfl⟩
theorem idxNz_ok (v:Value) (X:List Int) (w:World) (S:Nat->Prop) (h:Ints S w v X) (n:dep X<X.length) :
  Calls Tryz.prog 228 #[v,.func (.func 229) #[] #[]] w λe w'=>e=.returned (.int .i64 (dep X))/\w=w':=by
 obtain⟨a,cap,rfl,_,_⟩:=h.shape;have p:=Lib.hid n;clear n;go_enter Tryz.func228,Tryz.ntmps228;go_wp2;go_loopw [8] (λv wr=>∃k:Nat,v=.int .i64 k/\k<=dep X/\w=wr) (λv _=>X.length-(intOf v).toNat)
 case atStart=>exact⟨0,rfl,by omega,rfl⟩
 case round=>
  obtain⟨k,rfl,hk,rfl⟩:=hrel;have i:k<X.length:=by have:=p.out;omega
  have q:(k:Int)<X.length:=by omega
  obtain⟨b,off,rfl,_,_,hc⟩:=Ints.at h k i;by_cases hx:gt X k=0
  ·have l:k≠dep X:=λe=>dep_ne p.out (by rw[<-e];exact hx)
   have g:=nzClosure_ok (gt X k) w;rw[show(gt X k != 0)=false by simp[hx]] at g;have m:=Lib.hid (And.intro hx l);clear hx l;go_wp2_with fail
   refine Calls.mono g ?_;rintro u y ⟨rfl,rfl⟩;clear g;go_wp2;go_roundw
   case rel=>exact⟨k+1,by go_num,by have:=m.out.2;omega,trivial⟩
   case measure=>simp[intOf];omega
  ·have r:dep X=k:=dep_eq i (λj z=>dep_zero (by omega)) hx
   have g:=nzClosure_ok (gt X k) w;rw[show(gt X k != 0)=true by simp[hx]] at g;have m:=Lib.hid r;clear hx r;go_wp2_with fail
   refine Calls.mono g ?_;rintro u y ⟨rfl,rfl⟩;clear g;go_wp2;exact bodyPost_ret (v := .int .i64 k) (by simp[results,Tryz.results228,go_sem]) rfl ⟨by rw[m.out],rfl⟩
theorem wp_app_val (T E:Nat) (z:Value) (bytes:Nat) (y:Tryz.prog.underlying T=some (.slice E)) (A:(Tryz.prog.info? E).map (λi=>(i.zero,i.size,i.bytes))=some (some z,1,bytes))
  (m:z.cells.size=1) (n:bytes<=64) {e:Array Oper}{rest:List Oper}{o:Oper}{a:Act}{Q:Exit->Act->World->Prop}{w:World}(p:o.guard=none) (s x:Operand)
  (C:o.op=Op.call { callee:=Callee.builtin Builtin.append,args := #[s,x],argTypes := #[T,T] }) (B:Nat) (v u:Value) (xs:List Value) (D:a.eval s=v) (w0:World) (g:OwnV B E w0 v xs) (F:w=w0.alloc (.cells #[u] E)) (h1:u.oneCell'=true)
  (hx:a.eval x=.slice (some ⟨w0.heap.size,0,none⟩) 1 1) (r:xs.length<=1000000) (q:B<=w0.heap.size)
  (h:∀l w',OwnV B E w' l (xs++[u])->w0.grownBy w' v.ownBlock->wpList Tryz.prog e Q rest (a.put o.dst l) w') :
  wpList Tryz.prog e Q (o :: rest) a w:=by
 subst F;have b:Ext w0 (w0.alloc (.cells #[u] E)):=World.grownBy_alloc _ _ _;refine wp_app T E z bytes y A m n p s x C B v xs D (g.kept b (by cases I:v.ownBlock<;>simp)) (some ⟨w0.heap.size,0,none⟩) 1 1 [u] hx rfl (by simp) ?_ ?_ (by simp;omega) (by have:=b.size;omega) ?_
 ·intro j J
  have:j=0:=by omega
  subst this;exact⟨_,_,rfl,by rw[World.cell?_alloc_at _ _ _ _ rfl];rfl⟩
 ·intro K k
  simp at k;subst k;exact h1
 ·intro l w' G H _ _
  exact h l w' G (grown_trans (grown_of_ext _ b) H)
theorem und_intsG:Tryz.prog.underlying 113=some (.slice 3):=by kernel_rfl
theorem Tryz.infoIntG:(Tryz.prog.info? 3).map (λi=>(i.zero,i.size,i.bytes))=some (some (.int .i64 0),1,8):=by kernel_rfl
def depV (U:List (List Int)):List Value:=U.map (λz => .int .i64 (dep z))
theorem pivots_ok (v:Value) (U:List (List Int)) (w:World) (S:Nat->Prop) (h:Rows2 S w v U) (D:∀z∈U,dep z<z.length) (O:U.length<=100000) :
  Calls Tryz.prog 125 #[v] w (Ret w λw' r=>OwnV w.heap.size 3 w' r (depV U)):=by
 obtain⟨a,cap,rfl,_,_⟩:=Sl.shape h;have G:=Lib.hid D;clear D;go_enter Tryz.func125,Tryz.ntmps125;go_wp2;go_loopw [3,8] (λH n wr=>∃(k:Nat) (v4:Value),v4=H/\n=.int .i64 k/\k<=U.length/\Ext w wr/\OwnV w.heap.size 3 wr v4 (depV (U.take k))) (λ_ n _=>U.length-(intOf n).toNat)
 case atStart=>exact⟨0,_,rfl,rfl,by omega,Ext.refl _,World.ownsRow_nil _ _ _ _⟩
 case round=>
  obtain⟨k,v4,rfl,rfl,hk,m,hO⟩:=hrel;by_cases i:k<U.length
  ·obtain ⟨b,off,a2,cap2,rfl,_,_,hc,I⟩:=Rows2.at (Rows2.ext h m) k i
   have e:depV (U.take (k+1))=depV (U.take k)++[.int .i64 (dep (gt U k))]:=by unfold depV;rw[take_succ_gt U k i,List.map_append];rfl
   have p:(depV (U.take k)).length<=1000000:=by unfold depV;rw[List.length_map,List.length_take];omega
   have J:=Lib.hid e;clear e;have E:(k:Int)<U.length:=by omega
   go_wp2_with fail
   refine Calls.mono (idxNz_ok _ (gt U k) wr _ I (G.out _ (gtMem i))) ?_;rintro P Q ⟨rfl,rfl⟩;go_wp2_with (first|(at_builtin;refine wp_app_val 113 3 (.int .i64 0) 8 und_intsG Tryz.infoIntG rfl (by decide) rfl _ _ rfl w.heap.size v4 _ (depV (U.take k)) rfl wr hO rfl rfl rfl p m.size ?_;intro K L q u)|fail)
   have y:Ext w L:=grown_own m u (λj M i=>by have:=(hO.lt j M).1;omega);go_roundw
   case rel=>exact⟨k+1,K,rfl,by go_num,by omega,y,by rw[J.out];exact q⟩
   case measure=>simp[intOf];omega
  ·have A:k=U.length:=by omega
   subst A;rw[List.take_length] at hO
   have B:∃F l,v4=.slice F U.length l:=by
    rcases hO.form with⟨h1,C⟩|⟨g,cp,h1,_⟩
    ·have N:U.length=0:=by unfold depV at C;rw[List.map_eq_nil_iff] at C;rw[C];rfl
     exact⟨none,0,by rw[h1,N]⟩
    ·exact⟨_,_,by rw[h1];unfold depV;rw[List.length_map]⟩
   obtain⟨F,l,rfl⟩:=B;go_wp2;go_ret;exact⟨_,rfl,m,hO⟩
def QOwn (B E:Nat) (w:World) (v:Value) (b:List Value):Prop:=
 (v=.slice none 0 0/\b=[])\/∃g off cap a,v=.slice (some ⟨g,off,none⟩) b.length cap/\B<=g/\w.heap[g]? = some (.cells a E (0,0))/\b.length<=cap/\cap<=maxLen/\off+cap<=a.size/\∀i,i<b.length->a[off+i]? = some (gt b i)
theorem QOwn.nil (B E:Nat) (w:World):QOwn B E w (.slice none 0 0) [] := .inl ⟨rfl,rfl⟩
theorem QOwn.lt {B E:Nat}{w:World}{v:Value}{a:List Value}(h:QOwn B E w v a) (k:Nat) (hk:v.ownBlock=some k):B<=k/\k<w.heap.size:=by
 rcases h with⟨rfl,_⟩|⟨g,off,cap,cur,rfl,hb,b,_⟩
 ·simp[Value.ownBlock] at hk
 ·simp [Value.ownBlock] at hk
  subst hk;exact⟨hb,(Array.getElem?_eq_some_iff.1 b).1⟩
theorem QOwn.of {B E:Nat}{w:World}{v:Value}{b:List Value}(h:OwnV B E w v b):QOwn B E w v b:=by
 obtain⟨h1,h|⟨g,cap,a,hv,hg,hb,hnc,hcm,hsz,hx⟩⟩:=h
 ·exact .inl ⟨h.1,List.eq_nil_of_length_eq_zero h.2⟩
 ·refine .inr ⟨g,0,cap,a,hv,hg,hb,hnc,hcm,by omega,λi j => ?_⟩
  have e:(a.toList.take (b.length*1))[i]? = b[i]? :=by rw[hx]
  rw[List.getElem?_take_of_lt (by omega)] at e;rw[Nat.zero_add,<-Array.getElem?_toList,e];simp[gt,j]
theorem QOwn.kept {B E:Nat}{w w':World}{v:Value}{a:List Value}(h:QOwn B E w v a) (b:∀k,v.ownBlock=some k->w'.heap[k]? = w.heap[k]?):QOwn B E w' v a:=by
 rcases h with h|⟨g,off,cap,cur,rfl,h1,h2,r⟩
 ·exact .inl h
 ·exact .inr ⟨g,off,cap,cur,rfl,h1,by rw[b g rfl];exact h2,r⟩
theorem QOwn.weak {B B' E:Nat}{w:World}{v:Value}{a:List Value}(h:QOwn B E w v a) (b:B'<=B):QOwn B' E w v a:=by
 rcases h with h|⟨g,off,cap,cur,hv,h1,r⟩
 ·exact .inl h
 ·exact .inr ⟨g,off,cap,cur,hv,Nat.le_trans b h1,r⟩
theorem QOwn.shape {B E:Nat}{w:World}{v:Value}{b:List Value}(h:QOwn B E w v b):∃a cap,v=.slice a b.length cap/\b.length<=maxLen:=by
 rcases h with⟨rfl,rfl⟩|⟨g,off,cap,cur,rfl,_,_,h1,h2,_⟩
 ·exact⟨none,0,rfl,by simp⟩
 ·exact⟨_,_,rfl,Nat.le_trans h1 h2⟩
theorem QOwn.at {B E n cap:Nat}{w:World}{a:Option Addr}{b:List Value}(h:QOwn B E w (.slice a n cap) b) (i:Nat) (e:i<b.length):∃g off,a=some ⟨g,off,none⟩/\B<=g/\g<w.heap.size/\w.cell? ⟨g,off+i,none⟩=some (gt b i):=by
 rcases h with⟨_,rfl⟩|⟨g,off,cap',cur,hv,hb,j,h1,h2,h3,h4⟩
 ·simp at e
 ·cases hv
  refine⟨g,off,rfl,hb,(Array.getElem?_eq_some_iff.1 j).1,?_⟩;simp only[World.cell?,j,Option.isSome_none,Bool.false_eq_true,if_false];exact h4 i e
theorem QOwn.tail {B E n cap:Nat}{w:World}{a:Option Addr}{x:Value}{b:List Value}(h:QOwn B E w (.slice a n cap) (x :: b)):QOwn B E w (subSl (.slice a n cap) 1 n) b:=by
 rcases h with⟨_,h⟩|⟨g,off,cap',cur,j,hb,hg,h1,h2,h3,k⟩
 ·cases h
 ·simp only[Value.slice.injEq] at j
  obtain⟨rfl,rfl,rfl⟩:=j;simp only[List.length_cons] at h1 k ⊢;unfold subSl;simp only[Nat.add_sub_cancel];by_cases e:cap=1
  ·have l:b=[]:=List.eq_nil_of_length_eq_zero (by omega)
   subst l;rw[if_pos e];refine .inr ⟨g,off,0,cur,?_,hb,hg,by simp,by simp,by omega,by simp⟩;subst e;rfl
  ·rw [if_neg e]
   refine .inr ⟨g,off+1,cap-1,cur,by simp[Addr.add],hb,hg,by omega,by omega,by omega,λi m => ?_⟩;have:=k (i+1) (by omega);rw[show off+1+i=off+(i+1) by omega,this];simp[gt]
theorem QOwn.own_tail {a:Option Addr}{n cap:Nat}(k:Nat) (h:(subSl (.slice a n cap) 1 n).ownBlock=some k):(Value.slice a n cap).ownBlock=some k:=by
 unfold subSl at h;cases a with
 | none=>simp[Value.ownBlock] at h
 | some a=>
  by_cases e:cap=1
  ·simp only[if_pos e] at h;exact h
  ·simp only[if_neg e,Option.map_some,Value.ownBlock] at h ⊢
   unfold Addr.add at h;simpa using h
theorem wp_q_app (T E:Nat) (z:Value) (bytes:Nat) (R:Tryz.prog.underlying T=some (.slice E)) (S:(Tryz.prog.info? E).map (λi=>(i.zero,i.size,i.bytes))=some (some z,1,bytes))
  (A:z.cells.size=1) (B:bytes<=64) {C:Array Oper}{rest:List Oper}{o:Oper}{a:Act}{Q:Exit->Act->World->Prop}{w:World}(D:o.guard=none) (s x:Operand)
  (U:o.op=Op.call { callee:=Callee.builtin Builtin.append,args := #[s,x],argTypes := #[T,T] }) (base:Nat) (v:Value) (xs:List Value) (V:a.eval s=v) (F:QOwn base E w v xs)
  (H:Nat) (u:Value) (hx:a.eval x=.slice (some ⟨H,0,none⟩) 1 1) (W:w.cell? ⟨H,0,none⟩=some u) (h1:u.oneCell'=true) (X:xs.length<=1000000) (q:base<=w.heap.size)
  (h:∀p w',QOwn base E w' p (xs++[u])->w.grownBy w' v.ownBlock->(p.ownBlock=v.ownBlock\/∀k,p.ownBlock=some k->w.heap.size<=k)->wpList Tryz.prog C Q rest (a.put o.dst p) w') :
  wpList Tryz.prog C Q (o :: rest) a w:=by
 rcases F with⟨rfl,rfl⟩|⟨g,off,cap,cur,rfl,hb,G,hnc,hcm,hsz,hc⟩
 ·refine wp_app T E z bytes R S A B D s x U base (.slice none 0 0) [] V (World.ownsRow_nil _ _ _ _) (some ⟨H,0,none⟩) 1 1 [u] hx rfl (by simp) ?_ ?_ (by simp) q ?_
  ·intro j b
   have:j=0:=by omega
   subst this;exact⟨H,0,rfl,W⟩
  ·intro J l
   simp at l;subst l;exact h1
  ·intro p w' I K _ Z
   exact h p w' (QOwn.of I) K (Z.imp id (λe k hk=>by rw[e] at hk;cases hk;exact Nat.le_refl _))
 ·obtain ⟨i0,L,hz0,hz1,hz2⟩:=info_parts S
  have ab:g<w.heap.size:=(Array.getElem?_eq_some_iff.1 G).1
  have m:∀i,i<cur.size->w.cell? ⟨g,i,none⟩=cur[i]? :=λi _=>by
   simp only[World.cell?,G,Option.isSome_none,Bool.false_eq_true,if_false]
  refine wpList_append_arg w D s x T U E i0 z 1 bytes R L hz0 hz1 hz2 A (by decide) g off xs.length cap xs V (by omega) ?_ ⟨H,0,none⟩ 1 1 [u] hx rfl ?_ ?_ ?_ (by unfold maxLen;omega) (by have:=Nat.mul_le_mul (show xs.length+1<=1000001 by omega) B;omega) ?_ ?_
  ·intro j J b
   have M:j<xs.length:=by
    rcases Nat.lt_or_ge j xs.length with h|h
    ·exact h
    ·rw[List.getElem?_eq_none h] at b;cases b
   rw[m _ (by omega),hc j M];simp[gt,b]
  ·intro j J b
   match j,b with
   | 0,b=>
    simp at b;subst b
    simpa [Addr.add] using W
  ·intro J l
   simp at l;subst l;exact h1
  ·intro n j b
   have:j=0:=by simpa using b
   subst this;refine⟨?_,?_⟩
   ·rw[m _ (by omega),Array.getElem?_eq_getElem (by omega)];rfl
   ·simp[World.frozen?,G]
  ·intro n
   have e:w.setCells g (off+xs.length*1) [u]=w.setCell ⟨g,off+xs.length,none⟩ u:=by
    simp[World.setCells]
   rw[e];refine h _ _ (.inr ⟨g,off,cap,cur.setIfInBounds (off+xs.length) u,by simp,hb,?_,by simpa using n,hcm,by simpa using hsz,λi L => ?_⟩) ?_ (.inl rfl)
   ·simp only[World.setCell,Array.getElem?_modify,if_true,G,Option.map_some]
    simp
   ·simp only[List.length_append,List.length_singleton] at L
    by_cases ei:i=xs.length
    ·subst ei
     rw[gt_concat,Array.getElem?_setIfInBounds_self];simp;omega
    ·rw [gt_append_left _ _ _ (by omega),Array.getElem?_setIfInBounds_ne (by omega)]
     exact hc i (by omega)
   ·exact⟨rfl,rfl,rfl,by simp[World.setCell],λk hk N=>Below.heap_setCell _ _ _ _ (by intro e2;exact N (by rw[e2];rfl))⟩
  ·intro O p w' I K
   have k3:OwnV base E w' p (xs++[u]):=by
    unfold OwnV;rw[List.length_append];obtain⟨P,y⟩:=I;refine⟨P,?_⟩;rcases y with h|⟨Y,cap',cur',hv,hg',r⟩
    ·exact .inl h
    ·exact .inr ⟨Y,cap',cur',hv,by omega,r⟩
   refine h p w' (QOwn.of k3) (grown_of_ext _ K) (.inr (λk hk => ?_));obtain⟨_,y⟩:=I;rcases y with h|⟨Y,cap',cur',rfl,hg',r⟩
   ·rw[h.1] at hk;simp[Value.ownBlock] at hk
   ·simp [Value.ownBlock] at hk
    omega
def ShQ (bad:Nat->Prop) (B:Nat) (w:World) (v:Value) (xs:List (List Int)):Prop:=
 ∃a,a.length=xs.length/\QOwn B 24 w v a/\∀i,i<xs.length->Ints (λk=>¬bad k/\v.ownBlock≠some k) w (gt a i) (gt xs i)
theorem ShQ.nil (bad:Nat->Prop) (B:Nat) (w:World):ShQ bad B w (.slice none 0 0) []:=⟨[],rfl,QOwn.nil _ _ _,by simp⟩
theorem ShQ.shape {bad:Nat->Prop}{B:Nat}{w:World}{v:Value}{xs:List (List Int)}(h:ShQ bad B w v xs):∃a cap,v=.slice a xs.length cap/\xs.length<=maxLen:=by
 obtain⟨e,b,hq,_⟩:=h;obtain⟨a,cap,rfl,hm⟩:=hq.shape;exact⟨a,cap,by rw[b],by omega⟩
theorem ShQ.lt {bad:Nat->Prop}{B:Nat}{w:World}{v:Value}{xs:List (List Int)}(h:ShQ bad B w v xs) (k:Nat) (hk:v.ownBlock=some k):B<=k/\k<w.heap.size:=by
 obtain⟨a,_,hq,_⟩:=h;exact hq.lt k hk
theorem ShQ.kept {bad b:Nat->Prop}{B:Nat}{w w':World}{v:Value}{xs:List (List Int)}(h:ShQ bad B w v xs) (j:w.heap.size<=w'.heap.size) (g:∀k,k<w.heap.size->(v.ownBlock=some k\/¬bad k)->w'.heap[k]? = w.heap[k]?)
  (e:∀k,k<w.heap.size->b k->bad k):ShQ b B w' v xs:=by
 obtain⟨l,hl,hq,m⟩:=h;have a:=hq.lt;refine⟨l,hl,hq.kept (λk hk=>g k (a k hk).2 (.inl hk)),λi n=>Ints.mono (m i n) (λk hk a=>⟨⟨λh=>hk.1 (e k a h),hk.2⟩,Nat.lt_of_lt_of_le a j,g k a (.inr hk.1)⟩)⟩
theorem ShQ.ext {bad:Nat->Prop}{B:Nat}{w w':World}{v:Value}{xs:List (List Int)}(h:ShQ bad B w v xs) (a:Ext w w'):ShQ bad B w' v xs:=
 h.kept a.size (λk hk _=>a.block k hk (by simp)) (λ_ _ h=>h)
theorem ShQ.head {bad:Nat->Prop}{B n cap:Nat}{w:World}{a:Option Addr}{xs:List (List Int)}(h:ShQ bad B w (.slice a n cap) xs) (i:Nat) (b:i<xs.length) :
  ∃g off u,a=some ⟨g,off,none⟩/\B<=g/\g<w.heap.size/\w.cell? ⟨g,off+i,none⟩=some u/\Ints (λk=>¬bad k/\k≠g) w u (gt xs i):=by
 obtain⟨l,hl,hq,j⟩:=h;obtain⟨g,off,rfl,h1,h2,h3⟩:=hq.at i (by omega);exact⟨g,off,_,rfl,h1,h2,h3,Ints.sub (j i b) (λk hk _=>⟨hk.1,λe=>hk.2 (by rw[e];rfl)⟩)⟩
theorem ShQ.tail {bad:Nat->Prop}{B n cap:Nat}{w:World}{a:Option Addr}{x:List Int}{xs:List (List Int)}(h:ShQ bad B w (.slice a n cap) (x :: xs)):ShQ bad B w (subSl (.slice a n cap) 1 n) xs:=by
 obtain⟨b,hl,hq,hr⟩:=h;cases b with
 | nil=>simp at hl
 | cons u b=>
  refine⟨b,by simpa using hl,hq.tail,λi g => ?_⟩;have j:=hr (i+1) (by simpa using g);have l:Ints (λk=>¬bad k/\(Value.slice a n cap).ownBlock≠some k) w (gt b i) (gt xs i):=by simpa [gt] using j
  exact Ints.sub l (λk hk _=>⟨hk.1,λe=>hk.2 (QOwn.own_tail k e)⟩)
theorem wp_shq_app {m:Array Oper}{rest:List Oper}{o:Oper}{a:Act}{Q:Exit->Act->World->Prop}{w:World}(z:o.guard=none) (s x:Operand)
  (J:o.op=Op.call { callee:=Callee.builtin Builtin.append,args := #[s,x],argTypes := #[25,25] }) (bad:Nat->Prop) (B:Nat) (v u:Value) (xs:List (List Int)) (y:List Int) (K:a.eval s=v) (w0:World) (n:ShQ bad B w0 v xs)
  (L:w=w0.alloc (.cells #[u] 24)) (F:Ints (λk=>¬bad k/\v.ownBlock≠some k) w0 u y) (hx:a.eval x=.slice (some ⟨w0.heap.size,0,none⟩) 1 1) (G:xs.length<=1000000) (A:B<=w0.heap.size)
  (h:∀g w',ShQ bad B w' g (xs++[y])->w0.grownBy w' v.ownBlock->(g.ownBlock=v.ownBlock\/∀k,g.ownBlock=some k->w0.heap.size<=k)->wpList Tryz.prog m Q rest (a.put o.dst g) w') :
  wpList Tryz.prog m Q (o :: rest) a w:=by
 subst L;obtain⟨C,H,hq,M⟩:=n;have j:Ext w0 (w0.alloc (.cells #[u] 24)):=World.grownBy_alloc _ _ _;have b:=hq.lt;have D:QOwn B 24 (w0.alloc (.cells #[u] 24)) v C:=hq.kept (λk hk=>j.block k (b k hk).2 (by simp));have p:u.oneCell'=true:=rdInts.one F;refine wp_q_app 25 24 (.slice none 0 0) 24 und_rows Tryz.infoRow rfl (by decide) z s x J B v C K D w0.heap.size u hx (by rw[World.cell?_alloc_at _ _ _ _ rfl];rfl) p (by omega) (by have:=j.size;omega) ?_;intro g w' h1 N I;have l:w0.grownBy w' v.ownBlock:=grown_trans (grown_of_ext _ j) N
 have q:∀k,k<w0.heap.size->g.ownBlock=some k->v.ownBlock=some k:=λk hk e=>by
  rcases I with h|h
  ·rw[<-h];exact e
  ·have:=h k e;simp at this;omega
 refine h g w' ⟨C++[u],by simp[H],h1,λi O => ?_⟩ l (I.imp id (λh k hk=>by have:=h k hk;simp at this;omega));simp only[List.length_append,List.length_singleton] at O
 have r:∀k,(¬bad k/\v.ownBlock≠some k)->k<w0.heap.size->(¬bad k/\g.ownBlock≠some k)/\k<w'.heap.size/\w'.heap[k]? = w0.heap[k]? :=λk hk b=>
  ⟨⟨hk.1,λe=>hk.2 (q k b e)⟩,Nat.lt_of_lt_of_le b l.size,l.block k b (λe=>hk.2 e.symm)⟩
 by_cases b:i<xs.length
 ·rw [gt_append_left _ _ _ (by omega),gt_append_left _ _ _ b]
  exact Ints.mono (M i b) r
 ·have E:i=xs.length:=by omega
  subst E;rw[gt_concat,<-H,gt_concat];exact Ints.mono F r
def TabAt (B:Nat) (bad:Nat->Prop) (w:World) (gb n:Nat) (b:List (List Int)):Prop:=
 ∃ a,a.length=n/\b.length=n/\OwnV B 24 w (.slice (some ⟨gb,0,none⟩) n n) a /\
  ∀i,i<n->(gt b i=[]/\gt a i=.slice none 0 0)\/(gt b i≠[]/\Ints (λk=>k≠gb/\¬bad k) w (gt a i) (gt b i))
theorem TabAt.lt {B gb n:Nat}{bad:Nat->Prop}{w:World}{b:List (List Int)}(h:TabAt B bad w gb n b):B<=gb/\gb<w.heap.size:=by
 obtain⟨a,_,_,hO,_⟩:=h;exact hO.lt gb rfl
theorem TabAt.len {B gb n:Nat}{bad:Nat->Prop}{w:World}{b:List (List Int)}(h:TabAt B bad w gb n b):b.length=n:=by
 obtain⟨a,_,h2,_⟩:=h;exact h2
theorem TabAt.kept {B gb n:Nat}{bad j:Nat->Prop}{w w':World}{b:List (List Int)}(h:TabAt B bad w gb n b) (p:w.heap.size<=w'.heap.size) (m:∀k,k<w.heap.size->(k=gb\/¬bad k)->w'.heap[k]? = w.heap[k]?)
  (l:∀k,k<w.heap.size->j k->bad k):TabAt B j w' gb n b:=by
 obtain⟨q,h1,h2,h3,r⟩:=h;have g:=h3.lt gb rfl;refine⟨q,h1,h2,?_,λi u=>(r i u).imp id (λ⟨a,b⟩=>⟨a,Ints.mono b (λk hk g=>⟨⟨hk.1,λe=>hk.2 (l k g e)⟩,Nat.lt_of_lt_of_le g p,m k g (.inr hk.2)⟩)⟩)⟩
 exact ownsRow_move h3 (λk hk=>by
  have:gb=k:=by simpa [Value.ownBlock] using hk
  subst this;exact⟨m _ g.2 (.inl rfl),g.1⟩)
theorem TabAt.ext {B gb n:Nat}{bad:Nat->Prop}{w w':World}{b:List (List Int)}(h:TabAt B bad w gb n b) (a:Ext w w'):TabAt B bad w' gb n b:=
 h.kept a.size (λk hk _=>a.block k hk (by simp)) (λ_ _ h=>h)
theorem TabAt.at {B gb n:Nat}{bad:Nat->Prop}{w:World}{b:List (List Int)}(h:TabAt B bad w gb n b) (i:Nat) (l:i<n) :
  w.frozen? ⟨gb,i,none⟩=false/\((gt b i=[]/\w.cell? ⟨gb,i,none⟩=some (.slice none 0 0))\/(gt b i≠[]/\∃a cap,w.cell? ⟨gb,i,none⟩=some (.slice (some a) (gt b i).length cap)/\Ints (λk=>k≠gb/\¬bad k) w (.slice (some a) (gt b i).length cap) (gt b i))):=by
 obtain⟨m,h1,h2,h3,p⟩:=h;have g:=h3.cell i (by omega);refine⟨?_,?_⟩
 ·have q:n=m.length:=h1.symm
  subst q;exact World.ownsRow.frozenAt h3 i
 ·rcases p i l with⟨a,e⟩|⟨a,e⟩
  ·exact .inl ⟨a,by rw[g,e]⟩
  ·obtain ⟨j,cap,r,_,_⟩:=e.shape
   rw[r] at g e;cases j with
   | none=>exact absurd e.nil_of_none.1 a
   | some j=>exact .inr ⟨a,j,cap,g,e⟩
theorem TabAt.put {B gb n:Nat}{bad:Nat->Prop}{w:World}{b:List (List Int)}{u:Value}{y:List Int}(h:TabAt B bad w gb n b) (j:Nat) (q:Ints (λk=>k≠gb/\¬bad k) w u y) (hy:y≠[]) :
  TabAt B bad (w.setCell ⟨gb,j,none⟩ u) gb n (b.set j y)/\w.grownBy (w.setCell ⟨gb,j,none⟩ u) (some gb):=by
 obtain⟨m,h1,r,h3,v⟩:=h;have z:n=m.length:=h1.symm;subst z;obtain⟨A,g2⟩:=World.ownsRow.stored h3 j u
 have g:∀k,(k≠gb/\¬bad k)->k<w.heap.size->(k≠gb/\¬bad k)/\k<(w.setCell ⟨gb,j,none⟩ u).heap.size/\(w.setCell ⟨gb,j,none⟩ u).heap[k]? = w.heap[k]? :=λk hk l=>
  ⟨hk,by simpa [World.setCell] using l,Below.heap_setCell _ _ _ _ (by simpa using hk.1)⟩
 refine⟨⟨m.set j u,by simp,by simp[r],?_,λi p => ?_⟩,g2⟩
 ·unfold OwnV;rw[List.length_set];exact A
 ·by_cases e:j=i
  ·subst e
   rw[gt_set_eq _ _ _ (by omega),gt_set_eq _ _ _ p];exact .inr ⟨hy,Ints.mono q g⟩
  ·rw [gt_set_ne _ _ _ _ e,gt_set_ne _ _ _ _ e]
   exact(v i p).imp id (λ⟨a,b⟩=>⟨a,Ints.mono b g⟩)
structure SeqAt (B:Nat) (bad:Nat->Prop) (w:World) (sb gb:Nat) (pv:Value) (n:Nat) (b:List (List Int)):Prop where
 sB:B<=sb
 ne:sb≠gb
 slt:sb<w.heap.size
 c0:w.cell? ⟨sb,0,none⟩=some pv
 c1:w.cell? ⟨sb,1,none⟩=some (.slice (some ⟨gb,0,none⟩) n n)
 tab:TabAt B (λk=>k=sb\/bad k) w gb n b
theorem SeqAt.kept {B sb gb n:Nat}{pv:Value}{bad a:Nat->Prop}{w w':World}{b:List (List Int)}(h:SeqAt B bad w sb gb pv n b) (j:w.heap.size<=w'.heap.size) (l:∀k,k<w.heap.size->(k=gb\/k=sb\/¬bad k)->w'.heap[k]? = w.heap[k]?)
  (g:∀k,k<w.heap.size->a k->bad k):SeqAt B a w' sb gb pv n b:=by
 have e:=l sb h.slt (.inr (.inl rfl))
 exact ⟨h.sB,h.ne,Nat.lt_of_lt_of_le h.slt j,(World.cell?_of_block (w:=w) e).trans h.c0,(World.cell?_of_block (w:=w) e).trans h.c1,
  h.tab.kept j (λk hk i=>l k hk (i.elim .inl (λm => .inr (.inr (λp=>m (.inr p)))))) (λk hk i=>i.imp id (g k hk))⟩
theorem SeqAt.ext {B sb gb n:Nat}{pv:Value}{bad:Nat->Prop}{w w':World}{b:List (List Int)}(h:SeqAt B bad w sb gb pv n b) (a:Ext w w'):SeqAt B bad w' sb gb pv n b:=
 h.kept a.size (λk hk _=>a.block k hk (by simp)) (λ_ _ h=>h)
theorem SeqAt.put {B sb gb n:Nat}{pv:Value}{bad:Nat->Prop}{w:World}{b:List (List Int)}{u:Value}{y:List Int}(h:SeqAt B bad w sb gb pv n b) (j:Nat) (a:Ints (λk=>k≠gb/\¬(k=sb\/bad k)) w u y) (hy:y≠[]) :
  SeqAt B bad (w.setCell ⟨gb,j,none⟩ u) sb gb pv n (b.set j y)/\w.grownBy (w.setCell ⟨gb,j,none⟩ u) (some gb):=by
 obtain⟨h1,h2⟩:=h.tab.put j a hy;have e:(w.setCell ⟨gb,j,none⟩ u).heap[sb]? = w.heap[sb]? := Below.heap_setCell _ _ _ _ (by simpa using h.ne);exact⟨⟨h.sB,h.ne,by simpa [World.setCell] using h.slt,(World.cell?_of_block (w:=w) e).trans h.c0,(World.cell?_of_block (w:=w) e).trans h.c1,h1⟩,h2⟩
theorem wp_make_tab {g:Array Oper}{rest:List Oper}{o:Oper}{a:Act}{Q:Exit->Act->World->Prop}{w:World}(j:o.guard=none) (l c:Operand)
  (u:o.op=Op.makeSlice 25 l c) (base n H:Nat) (hH:w.heap.size=H) (L:Int) (v:a.eval l=.int .i64 L) (y:a.eval c=.int .i64 L) (r:L=n) (B:n<=2147483648) (b:base<=H)
  (h:∀w',(∀bad,TabAt base bad w' H n (List.replicate n []))->Ext w w'->H<w'.heap.size->wpList Tryz.prog g Q rest (a.put o.dst (.slice (some ⟨H,0,none⟩) n n)) w') :
  wpList Tryz.prog g Q (o :: rest) a w:=by
 subst hH;obtain⟨z,k,m,p,q⟩:=info_parts Tryz.infoRow;refine wpList_make_full w j l c 25 u base 24 z (.slice none 0 0) 1 und_rows k m p .i64 .i64 L L n v y r r (by rw[q];omega) (by unfold maxLen;omega) b ?_;intro w' h1 A;refine h w' ?_ A (h1.lt w.heap.size rfl).2
 have e:(madeCells (Value.cells (.slice none 0 0)) (n*1)).toList=List.replicate n (Value.slice none 0 0):=by
  rw[show Value.cells (.slice none 0 0) = #[.slice none 0 0] from rfl,toList_madeCells_one];simp
 rw[e] at h1;refine λbad=>⟨List.replicate n (.slice none 0 0),by simp,by simp,?_,λi k => .inl ?_⟩
 ·unfold OwnV;rw[List.length_replicate];exact h1
 ·simp[gt,k]
theorem newSequence_ok (P:Pr) (w:World) (p:Value) (k:Nat->Prop) (bad:Nat->Prop) (i:PresP k w p P) (l:P.orders.length<=6) :
  Calls Tryz.prog 98 #[p] w (Ret w λw' v=>∃sb gb,v=.pointer (some ⟨sb,0,none⟩)/\SeqAt w.heap.size bad w' sb gb p P.orders.length (List.replicate P.orders.length [])):=by
 obtain⟨pb,po,rfl⟩:=i.shape;obtain⟨m,capo,fI,hoi⟩:=i.ordAt;go_enter Tryz.func98,Tryz.ntmps98;go_wp2_with (at_make;refine wp_make_tab rfl _ _ rfl w.heap.size P.orders.length w.heap.size rfl _ rfl rfl rfl (by omega) (Nat.le_refl _) ?_;intro b e g j)
 go_ret;have a:Ext b (b.alloc (.cells #[.pointer (some ⟨pb,po,none⟩),.slice (some ⟨w.heap.size,0,none⟩) P.orders.length P.orders.length] 174)):=World.grownBy_alloc _ _ _;refine⟨_,rfl,grown_trans g a,b.heap.size,w.heap.size,rfl,by omega,by omega,by simp,?_,?_,(e _).ext a⟩
 ·rw[World.cell?_alloc_at _ _ _ _ rfl];rfl
 ·rw[World.cell?_alloc_at _ _ _ _ rfl];rfl
def SiftΦ (P:Pr) (b:List (List Int)) (Φ : List Int->Prop):Prop:=
 ∀d y,d<P.orders.length->T P d y->gt y d≠0->gt b d≠[] -> Φ y -> Φ (rMul P (pw P (gt b d) (gt P.orders d-gt y d).toNat) y)
theorem sift_ok (P:Pr) (G:Grp P) (w:World) (sb gb B:Nat) (p K:Value) (X:List Int) (b:List (List Int)) (Sp L bad:Nat->Prop) (hp:PresP Sp w p P) (hs:SeqAt B bad w sb gb p P.orders.length b)
  (r:∀d,d<P.orders.length->gt b d≠[]->T P d (gt b d)/\gt (gt b d) d=1) (hx:Ints L w K X) (hX:Vec P.orders X) :
  Calls Tryz.prog 204 #[.pointer (some ⟨sb,0,none⟩),K] w (Ret w λw' v=>∃Y,Ints (λk=>L k\/w.heap.size<=k) w' v Y/\Vec P.orders Y/\(dep Y<P.orders.length->gt b (dep Y)=[])/\∀ Φ,SiftΦ P b Φ -> Φ X -> Φ Y):=by
 have hP:=G.v;have aJ:=hP.n6;have aK:X.length=P.orders.length:=hX.1;obtain⟨pb,po,rfl⟩:=hp.shape;obtain⟨ao,capo,fI,an⟩:=hp.ordAt;have ap:=Lib.hid fI;clear fI;have HT:=Lib.hid r;clear r;go_enter Tryz.func204,Tryz.ntmps204;go_wp2_with fail
 refine Calls.mono (depthOf_ok K X w L hx) ?_;rintro e0 w0 ⟨rfl,rfl⟩;go_wp2;go_loopw [1,5] (λK dv wr=>∃Y,dv=.int .i64 (dep Y)/\Vec P.orders Y/\Ext w wr/\Ints (λk=>L k\/w.heap.size<=k) wr K Y/\Hid (∀ Φ,SiftΦ P b Φ -> Φ X -> Φ Y)) (λ_ dv _=>P.orders.length-(intOf dv).toNat)
 case atStart=>exact⟨X,rfl,hX,Ext.refl _,Ints.sub hx (λk hk _ => .inl hk),Lib.hid (λ_ _ h=>h)⟩
 case round=>
  obtain⟨Y,rfl,hY,u,M,z⟩:=hrel;have aq:Y.length=P.orders.length:=hY.1;obtain⟨ay,capy,N,_,_⟩:=M.shape;rw[aq] at N;subst N;have A:=hs.ext u;have O:=A.c0;have Q:=A.c1;have J:=Lib.hid hY;clear hY;by_cases a:dep Y<P.orders.length
  ·have R:(dep Y:Int)<P.orders.length:=by omega
   obtain⟨_,ar⟩:=A.tab.at (dep Y) a;rcases ar with⟨h0,e⟩|⟨m,ab,S,e,U⟩
   ·have H0:=Lib.hid h0;clear h0
    go_wp2;go_ret;exact⟨_,rfl,u,Y,M,J.out,λ_=>H0.out,z.out⟩
   ·have C:=dep_ne (x:=Y) (by omega)
    have g:=HT.out (dep Y) a m;have ho:=hP.ord7 (dep Y) a;have D:=J.out.2 (dep Y) a;obtain⟨b1,off1,rfl,_,_,E⟩:=Ints.at M (dep Y) (by omega);obtain⟨b2,off2,hao,_,_,i⟩:=Ints.at (an.ext u) (dep Y) a;subst hao;have V:=u.cell ap.out (by simp);have av:IntKind.i64.wrap (gt P.orders (dep Y)-gt Y (dep Y))=gt P.orders (dep Y)-gt Y (dep Y):=IntWalk.i64_in _ (by omega);obtain⟨d,W⟩:∃d,d=dep Y:=⟨_,rfl⟩;rw[<-W] at a R e U C g ho D E i av m ⊢;have F:T P d Y:=by rw[W];exact dep_T J.out
    have n:=G.left_clear a F g.1 g.2;have e1:iPow P (gt b d) (gt P.orders d-gt Y d)=pw P (gt b d) (gt P.orders d-gt Y d).toNat:=G.iPow_eq g.1.1 _;have H:=G.pw_vec g.1.1 (gt P.orders d-gt Y d).toNat;have e2:=G.tv_eq H J.out;have aa:=n.1.1;have ac:gt (rMul P (pw P (gt b d) (gt P.orders d-gt Y d).toNat) Y) d=0:=n.1.2 d (by omega);have y:∀ Φ,SiftΦ P b Φ -> Φ X -> Φ (rMul P (pw P (gt b d) (gt P.orders d-gt Y d).toNat) Y):=fun Φ h1 h2=>h1 d Y a F C m (z.out Φ h1 h2);have j:=Lib.hid (And.intro e1 (And.intro e2 (And.intro aa (And.intro ac (And.intro y (And.intro H n))))));clear e1 e2 aa ac y H n F C;have HD:=Lib.hid W;clear W m;have ad:(iPow P (gt b d) (gt P.orders d-gt Y d)).length<=6:=by rw[j.out.1,j.out.2.2.2.2.2.1.1];omega
    have ae:Vec P.orders (iPow P (gt b d) (gt P.orders d-gt Y d)):=by rw[j.out.1];exact j.out.2.2.2.2.2.1
    have HL:=Lib.hid (And.intro ad (And.intro ae (And.intro g (And.intro ho D))));clear ad ae g ho D;have ag:=hp.ext u;have e1:∀w',Ext wr w'->w'.cell? ⟨sb,0,none⟩=some (.pointer (some ⟨pb,po,none⟩)):=λw' h=>h.cell O (by simp);have e2:∀w',Ext wr w'->w'.cell? ⟨sb,1,none⟩=some (.slice (some ⟨gb,0,none⟩) P.orders.length P.orders.length):=λw' h=>h.cell Q (by simp);have e3:∀w',Ext wr w'->w'.cell? ⟨gb,d,none⟩=some (.slice (some ab) (gt b d).length S):=λw' h=>h.cell e (by simp);have e4:∀w',Ext wr w'->w'.cell? ⟨pb,po,none⟩=some (.slice (some ⟨b2,off2,none⟩) P.orders.length capo):=λw' h=>h.cell V (by simp);have e5:∀w',Ext wr w'->w'.cell? ⟨b2,off2+d,none⟩=some (.int .i64 (gt P.orders d)):=λw' h=>h.cell i (by simp);have e6:∀w',Ext wr w'->w'.cell? ⟨b1,off1+d,none⟩=some (.int .i64 (gt Y d)):=λw' h=>h.cell E (by simp);have q1:(d:Int)<P.orders.length:=by omega
    have q2:(0:Int)<=d:=by omega
    go_wp2
    go_region_held3 (λw'=>Ext wr w') (first|exact grown_drew _ _|assumption)
     (first
      | (go_at_call 101;refine Calls.mono (Calls.rel (w0:=wr) (by assumption) (power_ok P hP _ _ _ (gt b d) _ Any Any (PresP.sub (PresP.ext ag (by assumption)) (λ_ _ _=>trivial)) (Ints.sub (Ints.ext U (by assumption)) (λ_ _ _=>trivial)) HL.out.2.2.1.1.1 (by have:=HL.out.2.2.2.1;have:=HL.out.2.2.2.2;omega))) ?_;rintro eA wA ⟨vA,rfl,dR,eW,gw⟩;have ah:=gw.ints (by have:=HL.out.1;omega))
      | (go_at_call 152;refine Calls.mono (Calls.rel (w0:=wr) (by assumption) (multiply_ok P hP _ _ _ _ _ Y Any Any Any (PresP.sub (PresP.ext ag (by assumption)) (λ_ _ _=>trivial)) ah (Ints.sub (Ints.ext M (by assumption)) (λ_ _ _=>trivial)) HL.out.2.1 J.out)) ?_;rintro eB wB ⟨vB,rfl,hgB,hsB,q⟩))
    rw[j.out.1,j.out.2.1] at q;have aw:w.heap.size<=wA.heap.size:=Nat.le_trans u.size hsB;have l:Ints (λk=>L k\/w.heap.size<=k) wB vB (rMul P (pw P (gt b d) (gt P.orders d-gt Y d).toNat) Y):=ints_of_own q (by rw[j.out.2.2.1.1];omega) (λk hk => .inr (Nat.le_trans aw (q.lt k hk).1));obtain⟨Z,hZ⟩:∃Z,Z=rMul P (pw P (gt b d) (gt P.orders d-gt Y d).toNat) Y:=⟨_,rfl⟩;rw[<-hZ] at l;have HZ:=Lib.hid hZ;clear hZ q;have aA:Z.length=P.orders.length:=by rw[HZ.out];exact j.out.2.2.1.1
    obtain⟨az,capz,N,_,_⟩:=l.shape;rw[aA] at N;subst N;obtain⟨b3,wJ,rfl,_,_,aB⟩:=Ints.at l d (by omega);have I:gt Z d=0:=by rw[HZ.out];exact j.out.2.2.2.1
    rw[I] at aB
    have aj:dep Y<dep Z:=by
     have aC:T P (d+1) Z:=by rw[HZ.out];exact j.out.2.2.2.2.2.2.1
     have:=HD.out;rcases Nat.lt_or_ge (dep Y) (dep Z) with h|h
     ·exact h
     ·exact absurd (aC.2 (dep Z) (by omega)) (dep_ne (by omega))
    have HF:=Lib.hid (And.intro I aj);clear I aj;clear e1 e2 e3 e4 e5 e6 E i V e O Q;go_wp2_with (go_at_call 205;refine Calls.mono (depthOf_ok _ Z wB _ l) ?_;rintro eD wD ⟨rfl,rfl⟩)
    go_roundw
    case rel=>exact⟨Z,rfl,by rw[HZ.out];exact j.out.2.2.1,grown_trans u hgB,l,by rw[HZ.out];exact Lib.hid j.out.2.2.2.2.1⟩
    case measure=>have:=HF.out.2;have:=HD.out;simp[intOf];omega
  ·have W:dep Y=P.orders.length:=by have:=dep_le Y;omega
   go_wp2;go_ret;exact⟨_,rfl,u,Y,M,J.out,λh=>absurd h a,z.out⟩
end Go.Proofs.YtdcobapnlpeaaaaGreat
namespace Go.Proofs.YtdcobapnlpeaaaaGreat
def miss (b:List (List Int)):Nat->Nat
 | 0=>0
 | k+1=>miss b k+(if gt b k=[] then 1 else 0)
theorem miss_le (b:List (List Int)) (k:Nat):miss b k<=k:=by
 induction k with
 | zero=>exact Nat.le_refl _
 | succ k a=>simp only[miss];split<;>omega
theorem miss_set {b:List (List Int)}{d:Nat}{z:List Int}(g:gt b d=[]) (i:z≠[]):∀k,k<=b.length->miss (b.set d z) k+(if d<k then 1 else 0)=miss b k:=by
 intro k;induction k with
 | zero=>intro _;simp[miss]
 | succ k a=>
  intro hk;have a:=a (by omega);simp only[miss];by_cases e:d=k
  ·subst e
   rw[gt_set_eq _ _ _ (by omega),if_neg i,g];simp at a ⊢
   exact a
  ·rw [gt_set_ne _ _ _ _ e]
   by_cases h1:d<k
   ·rw[if_pos h1] at a;rw[if_pos (show d<k+1 by omega)];omega
   ·rw[if_neg h1] at a;rw[if_neg (show ¬d<k+1 by omega)];omega
def comR (P:Pr) (x z:List Int):List Int:=rMul P (rInv P (rMul P z x)) (rMul P x z)
def coms (P:Pr) (b:List (List Int)) (z:List Int):Nat->List (List Int)
 | 0=>[]
 | k+1=>coms P b z k++(if gt b k=[] then [] else [comR P (gt b k) z])
theorem coms_len (P:Pr) (b:List (List Int)) (z:List Int) (k:Nat):(coms P b z k).length<=k:=by
 induction k with
 | zero=>exact Nat.le_refl _
 | succ k a=>simp only[coms];split<;>simp<;>omega
theorem mem_coms {P:Pr}{b:List (List Int)}{z x:List Int}{k:Nat} : x∈coms P b z k↔∃e,e<k/\gt b e≠[]/\x=comR P (gt b e) z:=by
 induction k with
 | zero=>simp[coms]
 | succ k i=>
  simp only[coms,List.mem_append,i];constructor
  ·rintro (⟨e,h1,a,g⟩|h)
   ·exact⟨e,by omega,a,g⟩
   ·split at h
    ·simp at h
    ·rename_i hk
     simp at h
     exact⟨k,by omega,hk,h⟩
  ·rintro ⟨e,h1,a,g⟩
   rcases Nat.lt_succ_iff_lt_or_eq.1 h1 with h|h
   ·exact .inl ⟨e,h,a,g⟩
   ·subst h;right;rw[if_neg a];simp[g]
section
variable {P:Pr}(G:Grp P)
include G
theorem Grp.sift_add {Q:List Int->Prop}{b:List (List Int)}{q:List (List Int)}{R:List Int->Prop}{X Y:List Int}(A:AddInv P Q (gt b) (X :: q) R) (e : ∀ Φ,SiftΦ P b Φ -> Φ X -> Φ Y):∃R',AddInv P Q (gt b) (Y :: q) R':=by
 refine e (λy=>∃R,AddInv P Q (gt b) (y :: q) R) ?_ ⟨R,A⟩;rintro d y g k m l ⟨R,A⟩;obtain⟨_,h1,h2⟩:=A.tab d g l;have a:=G.left_clear g k h1 h2;exact⟨_,addInv_sift A g k m l a.1 (λK S i j=>(a.2 K S i).1 j) (λK S i j=>(a.2 K S i).2 j)⟩
theorem Grp.add_step {Q:List Int->Prop}{b:List (List Int)}{q:List (List Int)}{R:List Int->Prop}{y:List Int}(A:AddInv P Q (gt b) (y :: q) R) {d:Nat}(j:d<P.orders.length) (l:T P d y) (p:gt b d=[]) (m:b.length=P.orders.length)
  (k:Int) (a:0<=k) (hk:(k*gt y d)%gt P.orders d=1) :
  ∃R',AddInv P Q (gt (b.set d (pw P y k.toNat))) (q++[y]++[pw P (pw P y k.toNat) (gt P.orders d).toNat]++coms P b (pw P y k.toNat) P.orders.length) R':=by
 obtain⟨r,hz1⟩:=G.lead_one j l k a hk;refine⟨_,G.addInv_insert A j l p r hz1 (λK S h=>S.pw h _) (λe n => ?_) (λx hx => ?_) (λx hx => ?_) (λe n g => .inl ?_)⟩
 ·by_cases h:e=d
  ·subst h;rw[if_pos rfl,gt_set_eq _ _ _ (by omega)]
  ·rw[if_neg h,gt_set_ne _ _ _ _ (λi=>h i.symm)]
 ·simp only[List.mem_append,List.mem_singleton] at hx
  rcases hx with((h|h)|h)|h
  ·exact .inl h
  ·exact .inr (.inl h)
  ·exact .inr (.inr (.inr (.inl h)))
  ·obtain ⟨e,h1,i,h3⟩:=mem_coms.1 h
   exact .inr (.inr (.inr (.inr ⟨e,h1,i,.inl h3⟩)))
 ·simp only[List.mem_append,List.mem_singleton]
  rcases hx with h|h|h
  ·exact .inl (.inl (.inl h))
  ·exact .inl (.inl (.inr h))
  ·exact .inl (.inr h)
 ·simp only[List.mem_append]
  exact .inr (mem_coms.2 ⟨e,n,g,rfl⟩)
end
end Go.Proofs.YtdcobapnlpeaaaaGreat
namespace Go.Proofs.YtdcobapnlpeaaaaGreat
open Go.RowKit
def SeqOk (P:Pr) (U:List (List Int)):Prop:=
 (∀z∈U,Vec P.orders z/\dep z<P.orders.length/\gt z (dep z)=1)/\∀i j,i<j->j<U.length->dep (gt U i)<dep (gt U j)
structure RepTo (P:Pr) (U:List (List Int)) (X:List Int) (i:Nat) (y:List Int):Prop where
 vec:Vec P.orders y
 zer:∀j,j<i->gt y (dep (gt U j))=0
 cos:∀K,Sub P K->(∀z∈U,K z)->K (rMul P (rInv P X) y)
 old:∀k,(∀z∈U,k<dep z)->gt y k=gt X k
section
variable {P:Pr}(G:Grp P)
include G
theorem Grp.repTo_zero {U:List (List Int)}{X:List Int}(a:Vec P.orders X):RepTo P U X 0 X:=
 ⟨a,λj b=>by omega,λK S _=>by rw[G.inv_mul a];exact S.one,λ_ _=>rfl⟩
theorem Grp.repTo_step {U:List (List Int)}{X y:List Int}{i:Nat}(e:SeqOk P U) (n:Vec P.orders X) (a:i<U.length) (h:RepTo P U X i y) :
  RepTo P U X i (rMul P y (gt U i))/\gt (rMul P y (gt U i)) (dep (gt U i))=(gt y (dep (gt U i))+1)%gt P.orders (dep (gt U i)):=by
 obtain⟨h1,g,h3⟩:=e.1 _ (gtMem a);have b:=G.right (Nat.le_of_lt g) h.vec (dep_T h1);refine⟨⟨G.mulV h.vec h1,λj l => ?_,λK S m => ?_,λk hk => ?_⟩,?_⟩
 ·rw[b.1 _ (e.2 j i l a)];exact h.zer j l
 ·rw[<-G.ass (G.invV n) h.vec h1];exact S.mul _ _ (h.cos K S m) (m _ (gtMem a))
 ·rw[b.1 k (hk _ (gtMem a))];exact h.old k hk
 ·rw[b.2 g,h3]
omit G in
theorem repTo_next {U:List (List Int)}{X y:List Int}{i:Nat}(h:RepTo P U X i y) (a:gt y (dep (gt U i))=0):RepTo P U X (i+1) y:=
 ⟨h.vec,λj b=>by
  rcases Nat.lt_succ_iff_lt_or_eq.1 b with h1|h1
  ·exact h.zer j h1
  ·rw[h1];exact a,h.cos,h.old⟩
end
def lft (o e:Int):Nat:=if e=0 then 0 else (o-e).toNat
theorem lft_step {o e:Int}(b:0<=e) (h1:e<o) (a:e≠0):lft o ((e+1)%o)<lft o e:=by
 unfold lft;rw[if_neg a];by_cases h:e+1=o
 ·rw[h,Int.emod_self,if_pos rfl];omega
 ·rw[Int.emod_eq_of_lt (by omega) (by omega),if_neg (by omega)];omega
theorem representative_ok (P:Pr) (G:Grp P) (w:World) (p uv xv:Value) (U:List (List Int)) (X:List Int) (Sp Su Sx:Nat->Prop) (hp:PresP Sp w p P) (hu:Rows2 Su w uv U) (hU:SeqOk P U) (hl:U.length<=100) (hx:Ints Sx w xv X) (hX:Vec P.orders X) :
  Calls Tryz.prog 117 #[p,uv,xv] w (Ret w λw' v=>∃Y,Own w.heap.size w' v Y/\RepTo P U X U.length Y):=by
 have hP:=G.v;have aG:=hP.n6;have aH:X.length<=6:=by rw[hX.1];omega
 obtain⟨pb,po,rfl⟩:=hp.shape;obtain⟨au,capu,rfl,_,_⟩:=Sl.shape hu;have ai:∀z∈U,dep z<z.length:=λz hz=>by have:=hU.1 z hz;rw[this.1.1];exact this.2.1
 have E:=Lib.hid (And.intro hU hX);clear hU hX;go_enter Tryz.func117,Tryz.ntmps117;go_wp2_with fail
 refine Calls.mono (clone_ok w xv X Sx hx (by omega)) ?_;rintro e0 w0 ⟨ov,rfl,F,m⟩;go_wp2_with fail
 refine Calls.mono (pivots_ok _ U w0 Su (Rows2.ext hu F) ai (by omega)) ?_;rintro e1 w1 ⟨pv,rfl,hg1,y⟩;have H:=grown_trans F hg1;have I:=m.ext0 hg1;have J:∀k,ov.ownBlock=some k->w.heap.size<=k/\k<w0.heap.size:=λk hk=>⟨(m.lt k hk).1,(m.lt k hk).2⟩
 have K:∃az L,pv=.slice az U.length L:=by
  rcases y.form with⟨h1,n⟩|⟨g,cp,h1,_⟩
  ·have h3:U.length=0:=by unfold depV at n;rw[List.map_eq_nil_iff] at n;rw[n];rfl
   exact⟨none,0,by rw[h1,h3]⟩
  ·exact⟨_,_,by rw[h1];unfold depV;rw[List.length_map]⟩
 obtain⟨ap,q,rfl⟩:=K;have A:=Lib.hid J;clear J;go_wp2;go_loopw [15] (λiv wr=>∃(i:Nat) (Y:List Int),iv=.int .i64 i/\i<=U.length/\Ext w wr/\Own w.heap.size wr ov Y/\OwnV w0.heap.size 3 wr (.slice ap U.length q) (depV U)/\Hid (RepTo P U X i Y)) (λiv _=>U.length-(intOf iv).toNat)
 case atStart=>exact⟨0,X,rfl,by omega,H,I,y,Lib.hid (G.repTo_zero E.out.2)⟩
 case round=>
  obtain⟨i,Y,rfl,hi,hg,hO,r,B⟩:=hrel;clear m I y;by_cases a:i<U.length
  ·have aC:(i:Int)<U.length:=by omega
   have M:gt (depV U) i=.int .i64 (dep (gt U i)):=by unfold depV;rw[gt_map _ _ _ a]
   have al:∃g,ap=some ⟨g,0,none⟩:=by
    rcases r.form with⟨h1,n⟩|⟨g,cp,h1,_⟩
    ·unfold depV at n;rw[List.map_eq_nil_iff] at n;rw[n] at a;simp at a
    ·simp only[Value.slice.injEq] at h1;exact⟨g,h1.1⟩
   obtain⟨gp,rfl⟩:=al;have N:=r.cell i (by unfold depV;rw[List.length_map];exact a);rw[M] at N;clear M;obtain⟨d,hd⟩:∃d,d=dep (gt U i):=⟨_,rfl⟩;rw[<-hd] at N;have C:d<P.orders.length:=by rw[hd];exact(E.out.1.1 _ (gtMem a)).2.1
   have ho:=hP.ord7 d C;have HD:=Lib.hid hd;clear hd;go_wp2;go_loopg [20] (lft (gt P.orders d) (gt Y d)) (λgk _ wr=>∃Y,gk=lft (gt P.orders d) (gt Y d)/\Ext w wr/\Own w.heap.size wr ov Y/\OwnV w0.heap.size 3 wr (.slice (some ⟨gp,0,none⟩) U.length q) (depV U)/\Hid (RepTo P U X i Y))
   case atStart=>exact⟨Y,rfl,hg,hO,r,B⟩
   case round=>
    clear hO r B hg;obtain⟨Y,hgk,hg,hO,r,B⟩:=hrel;have b:=B.out.vec;have O:=b.2 d C;have Q:=hO.ints (by rw[b.1];omega);obtain⟨ax,capx,R,_,_⟩:=Q.shape;rw[b.1] at R;subst R;obtain⟨bx,ox,rfl,_,_,hcx⟩:=Ints.at Q d (by rw[b.1];exact C);have aE:(d:Int)<P.orders.length:=by omega
    by_cases hy:gt Y d=0
    ·have an:Hid (RepTo P U X (i+1) Y):=Lib.hid (repTo_next B.out (by rw[<-HD.out];exact hy))
     have hb:(gt Y d != 0)=false:=by simp[hy]
     have HY:=Lib.hid b;clear b hy hgk;go_wp2;go_roundw
     case rel=>exact⟨i+1,Y,by go_num,by omega,hg,hO,r,an⟩
     case measure=>simp[intOf];omega
    ·have hb:(gt Y d != 0)=true:=by simp[hy]
     obtain⟨u,l⟩:=G.repTo_step E.out.1 E.out.2 a B.out;rw[<-HD.out] at l;have D:=lft_step O.1 O.2 hy;rw[<-l,<-hgk] at D;have T:=(E.out.1.1 _ (gtMem a)).1;have V:tv P Y (gt U i)=rMul P Y (gt U i):=G.tv_eq b T;obtain⟨bu,ou,a2,cap2,qV,EL,EM,xG,ao⟩:=Rows2.at hu i a;subst qV;have aF:=hg.cell xG (by simp);have HS:=Lib.hid (And.intro u (And.intro D V));clear u D V l hgk hy xG;have W:=Lib.hid b;have Z:∀(S:Nat->Prop) k,S k->k<w.heap.size->Off (Value.slice (some ⟨bx,ox,none⟩) P.orders.length capx).ownBlock k/\k<wr.heap.size/\wr.heap[k]? = w.heap[k]? :=λS k _ a=>⟨λe=>by have:=(A.out k e).1;omega,Nat.lt_of_lt_of_le a hg.size,hg.block k a (by simp)⟩;go_wp2_with fail
     refine Calls.mono (timesVector_ok P hP w.heap.size wr _ _ _ Y (gt U i) (hp.mono (Z Sp)) hO W.out (Ints.mono ao (Z Su)) T) ?_;rintro eM wM ⟨vM,rfl,rO,rfl,aa⟩;rw[HS.out.2.2] at aa;have ab:Ext w wM:=grown_own hg rO (λj hj a=>by have:=(A.out j hj).1;omega)
     have ar:=r.kept rO (.inr (λe=>by
      have h1:=(A.out gp (by rw[<-e];rfl)).2;have n:=(r.lt gp rfl).1;omega))
     go_wp2;go_roundg (lft (gt P.orders d) (gt (rMul P Y (gt U i)) d))
     case measure=>exact HS.out.2.1
     case rel=>exact⟨_,rfl,ab,aa,ar,Lib.hid HS.out.1⟩
  ·have av:i=U.length:=by omega
   subst av;go_wp2;go_ret;exact⟨_,rfl,hg,Y,hO,B.out⟩
end Go.Proofs.YtdcobapnlpeaaaaGreat
