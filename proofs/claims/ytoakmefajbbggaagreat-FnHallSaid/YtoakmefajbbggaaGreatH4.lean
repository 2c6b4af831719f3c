/- Merged from templates. -/
import Derived.Test.YtoakmefajbbggaaGreatH3
namespace Go.Proofs.YtoakmefajbbggaaGreat
def T (P:Pr) (i:Nat) (x:List Int):Prop:=Vec P.orders x/\∀k,k<i->gt x k=0
theorem T.up {P:Pr}{i:Nat}{x:List Int}(h:T P i x) (a:gt x i=0):T P (i+1) x:=⟨h.1,λk hk=>by
 rcases Nat.lt_succ_iff_lt_or_eq.1 hk with h1|h1
 ·exact h.2 k h1
 ·rw[h1];exact a⟩
theorem T.down {P:Pr}{i j:Nat}{x:List Int}(h:T P j x) (a:i<=j):T P i x:=⟨h.1,λk hk=>h.2 k (by omega)⟩
theorem T.of_zeroTo {P:Pr}{i:Nat}{x:List Int}(h:Vec P.orders x) (a:ZeroTo i x):T P (i+1) x:=⟨h,λk hk=>a k (by omega)⟩
theorem T.zeros {P:Pr}(hP:Valid P) (i:Nat):T P i (zeros P.orders.length):=⟨zeros_vec hP,λ_ _=>gt_replicate _ _⟩
theorem T.drop {P:Pr}(hP:Valid P) {i:Nat}(a:i<P.orders.length) {x:List Int}(h:T P i x):T P (i+1) (x.set i 0):=by
 have b:=hP.ord7 i a;refine⟨h.1.set i 0 ⟨by omega,λ_=>by omega⟩,λk hk => ?_⟩;by_cases e:i=k
 ·subst e;rw[gt_set_eq _ _ _ (by rw[h.1.1];exact a)]
 ·rw[gt_set_ne _ _ _ _ e];exact h.2 k (by omega)
theorem T.put {P:Pr}{i:Nat}{x:List Int}(h:T P (i+1) x) {a:Int}(ha:0<=a/\(i<P.orders.length->a<gt P.orders i)):T P i (x.set i a):=
 ⟨h.1.set i a ha,λk hk=>by rw[gt_set_ne _ _ _ _ (by omega)];exact h.2 k (by omega)⟩
theorem gt_set_if {α:Type} [Inhabited α] (l:List α) (i j:Nat) (x:α) (a:j<l.length):gt (l.set i x) j=if i=j then x else gt l j:=by
 by_cases h:i=j
 ·subst h;rw[gt_set_eq _ _ _ a,if_pos rfl]
 ·rw[gt_set_ne _ _ _ _ h,if_neg h]
theorem gt_unit (n j k:Nat) (hk:k<n):gt (unitV n j) k=if j=k then 1 else 0:=by
 unfold unitV;rw[gt_set_if _ _ _ _ (by simpa using hk),gt_replicate]
theorem T.unit {P:Pr}(hP:Valid P) {i j:Nat}(a:i<=j) (b:j<P.orders.length):T P i (unitV P.orders.length j):=
 ⟨unitV_vec hP j,λk hk=>by rw[gt_unit _ _ _ (by omega),if_neg (by omega)]⟩
theorem Vec.ext {o x y:List Int}(hx:Vec o x) (hy:Vec o y) (h:∀k,k<o.length->gt x k=gt y k):x=y:=
 ext_gt (by rw[hx.1,hy.1]) (λk hk=>h k (by rw[<-hx.1];exact hk))
theorem T.top {P:Pr}(hP:Valid P) {x:List Int}(h:T P P.orders.length x):x=Go.Proofs.YtoakmefajbbggaaGreat.zeros P.orders.length:=
 Vec.ext h.1 (zeros_vec hP) (λk hk=>by rw[h.2 k hk];exact(gt_replicate _ _).symm)
theorem rAt_T {P:Pr}(hP:Valid P) (f:Nat):∀i A B,i+f=P.orders.length->Vec P.orders A->Vec P.orders B->T P i (rAt P f i A B):=by
 induction f with
 | zero=>intro i A B _ _ _;exact T.zeros hP i
 | succ f b=>
  intro i A B e a hB;refine⟨rAt_vec hP _ i A B e a hB,λk hk => ?_⟩;have u:=hP.ord7 i (by omega);have m:=a.2 i (by omega);have p:=hB.2 i (by omega)
  have q:Vec P.orders (iter (gt B i).toNat (λl=>rImgTo (rAt P f (i+1)) (gt P.conj i) i l (zeros P.orders.length) f) (A.set i 0)):=
   iter_inv (Vec P.orders) _ (λy hy=>rImgTo_vec hP f i e (rAt_vec hP f) _ _ (zeros_vec hP) f (Nat.le_refl _)) _ _ (a.set i 0 ⟨by omega,λ_=>by omega⟩)
  have r:Vec P.orders (B.set i 0):=hB.set i 0 ⟨by omega,λ_=>by omega⟩;have j:=b (i+1) _ _ (by omega) q r;simp only[rAt];split
  ·rw [gt_set_ne _ _ _ _ (by omega)]
   exact(b (i+1) _ _ (by omega) (hP.pv i (by omega)).1 j.1).2 k (by omega)
  ·rw [gt_set_ne _ _ _ _ (by omega)]
   exact j.2 k (by omega)
theorem tg_T {P:Pr}(hP:Valid P) {i:Nat}{E:List Int}(a:T P i E) {j:Nat}(e:i<=j) (b:j<P.orders.length):T P i (tg P E j):=
 ⟨tg_vec hP E j a.1 b,λk hk=>by
  have:=(tgen_entries hP P.orders.length E j a.1 b (by omega)).1 k (by omega);have l:gt (tg P E j) k=gt E k:=this;rw[l];exact a.2 k hk⟩
theorem tv_T {P:Pr}(hP:Valid P) {i:Nat}{E F:List Int}(a:T P i E) (hF:T P i F):T P i (tv P E F):=by
 unfold tv tvec;rw[tvecTo_acc,hF.1.1];refine acc_inv (T P i) _ _ _ _ _ a (λy j hy _ e b=>tg_T hP hy ?_ (by omega));have:¬j<i:=λh=>b (hF.2 j h);omega
structure Lvl (P:Pr) (f i:Nat):Prop where
 grp:GrpOn (T P i) (rAt P f i) (zeros P.orders.length)
 nf:∀x,T P i x->npr (rAt P f i) (unitV P.orders.length) x i (zeros P.orders.length) f=x
 rel:Holds P (T P i) (rAt P f i) (zeros P.orders.length) (unitV P.orders.length) i
theorem Lvl.top {P:Pr}(hP:Valid P):Lvl P 0 P.orders.length:=by
 have e:=T.zeros hP P.orders.length;refine⟨⟨⟨λ_ _ _ _=>e,e,λ_ _ _ _ _ _=>rfl,λx hx=>(hx.top hP).symm,λx hx=>(hx.top hP).symm⟩,λx _=>⟨_,e,rfl,rfl⟩⟩,λx hx => ?_,⟨λj a b=>by omega,λj a b=>by omega,λj k a b c=>by omega⟩⟩;exact(hx.top hP).symm
section
variable {P:Pr}{f i:Nat}
theorem Lvl.tv_eq (hP:Valid P) (b:i+f=P.orders.length) (L:Lvl P f i) {E F:List Int}(a:T P i E) (hF:T P i F):tv P E F=rAt P f i E F:=by
 have h:=vd_tv hP L.grp.toMonOn (by omega) L.rel E F a.1 hF.1 hF.2;rw[show P.orders.length-i=f by omega,L.nf _ a,L.nf _ hF,L.nf _ (tv_T hP a hF)] at h;exact h
theorem Lvl.tg_eq (hP:Valid P) (k:i+f=P.orders.length) (L:Lvl P f i) {E:List Int}(b:T P i E) {j:Nat}(a:i<=j) (e:j<P.orders.length):tg P E j=rAt P f i E (unitV P.orders.length j):=by
 have h:=vd_tg hP L.grp.toMonOn L.rel E j b.1 a e;rw[show P.orders.length-i=f by omega,L.nf _ b,L.nf _ (tg_T hP b a e)] at h;exact h
theorem Lvl.iPow_eq (hP:Valid P) (b:i+f=P.orders.length) (L:Lvl P f i) {a:List Int}(ha:T P i a) (k:Int):iPow P a k=iter k.toNat (λy=>rAt P f i y a) (zeros P.orders.length):=by
 unfold iPow;rw[ha.1.1];exact iter_congr (T P i) _ _ (λx hx=>tv_T hP hx ha) (λx hx=>L.tv_eq hP b hx ha) _ _ (T.zeros hP i)
theorem rRepF_pow {S:List Int->Prop}{m:List Int->List Int->List Int}{e:List Int}(M:MonOn S m e):∀(f:Nat) (out base:List Int) (k:Nat),S out->S base->k<=f ->
  rRepF m f out base k=m out (iter k (λy=>m y base) e):=by
 intro f;induction f with
 | zero=>
  intro out base k i a hk;have:k=0:=by omega
  subst this;exact(M.er out i).symm
 | succ f r=>
  intro out base k i a hk;simp only[rRepF];split
  ·rename_i h;subst h;exact(M.er out i).symm
  ·rename_i h
   have j:=M.cl _ _ a a
   have l:∀q,iter q (λy=>m y (m base base)) e=iter (2*q) (λy=>m y base) e:=by
    intro q;induction q with
    | zero=>rfl
    | succ q p=>
     show m (iter q (λy=>m y (m base base)) e) (m base base)=m (m (iter (2*q) (λy=>m y base) e) base) base
     rw[p,M.ass _ _ _ (M.pow_cl a M.one _) a a]
   by_cases b:k%2=1
   ·rw [if_pos b,r _ _ _ (M.cl _ _ i a) j (by omega),l,M.ass _ _ _ i a (M.pow_cl a M.one _)]
    congr 1
    have h1:=M.pow_add a 1 (2*(k/2));rw[show 1+2*(k/2)=k by omega] at h1;rw[h1];show m base _=m (m e base) _
    rw[M.el base a]
   ·rw[if_neg b,r _ _ _ i j (by omega),l,show 2*(k/2)=k by omega]
theorem Lvl.rRep_eq (L:Lvl P f i) {a:List Int}(ha:T P i a) (k:Nat):rRep (rAt P f i) (zeros P.orders.length) a k=iter k (λy=>rAt P f i y a) (zeros P.orders.length):=by
 unfold rRep;rw[rRepF_pow L.grp.toMonOn k _ _ k L.grp.one ha (Nat.le_refl _)];exact L.grp.el _ (L.grp.toMonOn.pow_cl ha L.grp.one k)
theorem Lvl.iInv_eq (hP:Valid P) (r:i+f=P.orders.length) (L:Lvl P f i) {a:List Int}(ha:T P i a):T P i (iInv P a)/\rAt P f i a (iInv P a)=zeros P.orders.length:=by
 have key:∀k,k<=P.orders.length->T P i (invTo P a k).1/\T P i (invTo P a k).2/\(invTo P a k).1=rAt P f i a (invTo P a k).2/\∀l,l<k->gt (invTo P a k).1 l=0:=by
  intro k;induction k with
  | zero=>
   intro _;refine⟨ha,by simp only[invTo];rw[ha.1.1];exact T.zeros hP i,?_,λl j=>by omega⟩;simp only[invTo];rw[ha.1.1];exact(L.grp.er a ha).symm
  | succ k w=>
   intro hk;obtain⟨h1,h2,p,h4⟩:=w (by omega);simp only[invTo];by_cases q:gt (invTo P a k).1 k=0
   ·have z:left_ (gt P.orders k) (gt (invTo P a k).1 k)=0:=by unfold left_;rw[if_pos q]
    rw[z];refine⟨h1,h2,p,λl j => ?_⟩;rcases Nat.lt_succ_iff_lt_or_eq.1 j with h|h
    ·exact h4 l h
    ·rw[h];exact q
   ·have b:i<=k:=by
     have:¬k<i:=λh=>q (h1.2 k h);omega
    have A:=iter_rel (λ(x y:List Int)=>T P i x/\T P i y/\x=rAt P f i a y/\∀l,l<k->gt x l=0) (λe=>tg P e k) (λe=>tg P e k) (by
     rintro x y ⟨m,g2,g3,g4⟩;refine⟨tg_T hP m b (by omega),tg_T hP g2 b (by omega),?_,λl j => ?_⟩
     ·show tg P x k=rAt P f i a (tg P y k)
      rw[L.tg_eq hP r m b (by omega),L.tg_eq hP r g2 b (by omega),g3,L.grp.ass _ _ _ ha g2 (T.unit hP b (by omega))]
     ·have B:=(tgen_entries hP P.orders.length x k m.1 (by omega) (by omega)).1 l j
      have C:gt (tg P x k) l=gt x l:=B;show gt (tg P x k) l=0
      rw[C];exact g4 l j) (left_ (gt P.orders k) (gt (invTo P a k).1 k)) _ _ ⟨h1,h2,p,h4⟩
    obtain⟨m,g2,g3,g4⟩:=A;refine⟨m,g2,g3,λl j => ?_⟩;rcases Nat.lt_succ_iff_lt_or_eq.1 j with h|h
    ·exact g4 l h
    ·have u:=(iter_tg hP (invTo P a k).1 k (by omega) h1.1 q _ (Nat.le_refl _)).2
     rw[if_pos rfl] at u;rw[h];exact u
 obtain⟨h1,h2,p,h4⟩:=key P.orders.length (Nat.le_refl _);have D:iInv P a=(invTo P a P.orders.length).2:=by unfold iInv;rw[ha.1.1]
 rw[D];refine⟨h2,?_⟩;rw[<-p];exact T.top hP ⟨h1.1,h4⟩
theorem Lvl.iConj_iff (hP:Valid P) (j:i+f=P.orders.length) (L:Lvl P f i) {a b z:List Int}(ha:T P i a) (e:T P i b) (l:T P i z):iConj P a b=z↔rAt P f i a b=rAt P f i b z:=by
 obtain⟨h1,m⟩:=L.iInv_eq hP j e;have k:=tv_T hP ha e;unfold iConj;rw[L.tv_eq hP j h1 k,L.tv_eq hP j ha e];exact L.grp.solve e h1 (L.grp.cl _ _ ha e) l m
end
section
variable {P:Pr}{f i:Nat}
theorem rImage_T (hP:Valid P) (e:i+(f+1)=P.orders.length) (x:List Int):T P (i+1) (rImage P f i x):=by
 unfold rImage;rw[rImgTo_acc];refine acc_inv (T P (i+1)) _ _ _ _ _ (T.zeros hP _) (λy j hy a b _ => ?_);exact rAt_T hP f (i+1) _ _ (by omega) hy.1 ((hP.cv i (by omega)).2 (j-i-1) (by omega)).1
theorem cj_T (hP:Valid P) {j:Nat}(a:i<j) (b:j<P.orders.length):T P (i+1) (gt (gt P.conj i) (j-i-1)):=
 T.of_zeroTo ((hP.cv i (by omega)).2 (j-i-1) (by omega)).1 ((hP.cv i (by omega)).2 (j-i-1) (by omega)).2
theorem pw_T (hP:Valid P) (a:i<P.orders.length):T P (i+1) (gt P.powers i):=T.of_zeroTo (hP.pv i a).1 (hP.pv i a).2
theorem Lvl.iImg_eq (hP:Valid P) (k:i+(f+1)=P.orders.length) (L:Lvl P f (i+1)) {x:List Int}(hx:x.length=P.orders.length):iImg P i x=rImage P f i x:=by
 unfold iImg rImage;rw[(hP.cv i (by omega)).1,show P.orders.length-1-i=f by omega,hx,rImgTo_acc,rImgTo_acc]
 exact (acc_rel (λy z:List Int=>y=z/\T P (i+1) y) _ _ x (i+1) _ _ f ⟨rfl,T.zeros hP _⟩ (by
  rintro y z j ⟨rfl,hy⟩ a b _;have e:=cj_T (i:=i) hP (j:=j) (by omega) (by omega);exact⟨L.tv_eq hP (by omega) hy e,tv_T hP hy e⟩)).1
theorem Lvl.iff (hP:Valid P) (k:i+(f+1)=P.orders.length) (L:Lvl P f (i+1)):ILevel P i↔RLevel P f i:=by
 have e:i+1+f=P.orders.length:=by omega
 have p:∀J,i<J->J<P.orders.length->(ICond1 P i J↔RCond1 P f i J):=λJ a b=>by
  unfold ICond1 RCond1;have q:=cj_T (i:=i) hP a b;rw[L.iPow_eq hP e q,L.rRep_eq q,L.iImg_eq hP k (hP.pv J b).1.1]
 have r:∀J K,i<J->J<K->K<P.orders.length->(ICond2 P i J K↔RCond2 P f i J K):=λJ K a b c=>by
  unfold ICond2 RCond2;have h1:=cj_T (i:=i) hP (j:=K) (by omega) c;have l:=cj_T (i:=i) hP (j:=J) a (by omega);rw[L.iImg_eq hP k (((hP.cv J (by omega)).2 (K-J-1) (by omega)).1.1)];exact L.iConj_iff hP e h1 l (rImage_T hP k _)
 have u:ICond3 P i↔RCond3 P f i:=by
  unfold ICond3 RCond3;rw[L.iImg_eq hP k (hP.pv i (by omega)).1.1]
 have w:∀J,i<J->J<P.orders.length->(ICond4 P i J↔RCond4 P f i J):=λJ a b=>by
  unfold ICond4 RCond4;have m:T P (i+1) (unitV P.orders.length J):=T.unit hP (by omega) b
  have h1:iter (gt P.orders i).toNat (λx=>iImg P i x) (unitV P.orders.length J)=iter (gt P.orders i).toNat (λx=>rImage P f i x) (unitV P.orders.length J):=
   iter_congr (Vec P.orders) _ _ (λx hx=>iImg_vec hP i (by omega) x hx) (λx hx=>L.iImg_eq hP k hx.1) _ _ m.1
  have l:T P (i+1) (iter (gt P.orders i).toNat (λx=>rImage P f i x) (unitV P.orders.length J)):=iter_inv (T P (i+1)) _ (λx _=>rImage_T hP k x) _ _ m;rw[h1,eq_comm,L.iConj_iff hP e m (pw_T hP (by omega)) l,eq_comm]
 constructor
 ·intro h
  exact⟨λJ a b=>(p J a b).1 (h.c1 J a b),λJ K a b c=>(r J K a b c).1 (h.c2 J K a b c),u.1 h.c3,λJ a b=>(w J a b).1 (h.c4 J a b)⟩
 ·intro h
  exact⟨λJ a b=>(p J a b).2 (h.c1 J a b),λJ K a b c=>(r J K a b c).2 (h.c2 J K a b c),u.2 h.c3,λJ a b=>(w J a b).2 (h.c4 J a b)⟩
end
section
variable {P:Pr}{f i:Nat}
def prV (i:Nat) (p:Nat × List Int):List Int:=p.2.set i (p.1:Int)
theorem prV_T (hP:Valid P) (b:i<P.orders.length) {p:Nat × List Int}(a:ExS (T P (i+1)) (gt P.orders i).toNat p):T P i (prV i p):=by
 have e:=hP.ord7 i b;have h1:=a.1;exact a.2.put ⟨by omega,λ_=>by omega⟩
theorem prV_sur (hP:Valid P) (a:i<P.orders.length) {x:List Int}(hx:T P i x):∃p,ExS (T P (i+1)) (gt P.orders i).toNat p/\prV i p=x:=by
 have e:=hP.ord7 i a;have b:=hx.1.2 i a;refine⟨((gt x i).toNat,x.set i 0),⟨by show(gt x i).toNat<_;omega,hx.drop hP a⟩,?_⟩;unfold prV;simp only[List.set_set];refine ext_gt (by simp) (λk hk => ?_);rw[List.length_set] at hk;rw[gt_set_if _ _ _ _ hk];split
 ·rename_i h;subst h;omega
 ·rfl
theorem set_zero_of {x:List Int}(h:T P (i+1) x):x.set i 0=x:=by
 refine ext_gt (by simp) (λk hk => ?_);rw[List.length_set] at hk;rw[gt_set_if _ _ _ _ hk];split
 ·rename_i e;subst e;exact(h.2 i (by omega)).symm
 ·rfl
theorem prV_mul (hP:Valid P) (z:i+(f+1)=P.orders.length) (p q:Nat × List Int) (k:ExS (T P (i+1)) (gt P.orders i).toNat p) (m:ExS (T P (i+1)) (gt P.orders i).toNat q) :
  rAt P (f+1) i (prV i p) (prV i q)=prV i (exm (rAt P f (i+1)) (rImage P f i) (gt P.powers i) (gt P.orders i).toNat p q):=by
 obtain⟨a,x⟩:=p;obtain⟨b,y⟩:=q;obtain⟨ha,hx⟩:=k;obtain⟨r,hy⟩:=m;simp only at ha r hx hy;have A:=hP.ord7 i (by omega);have u:gt (prV i (a,x)) i=(a:Int):=gt_set_eq _ _ _ (by show i<x.length;rw[hx.1.1];omega);have gb:gt (prV i (b,y)) i=(b:Int):=gt_set_eq _ _ _ (by show i<y.length;rw[hy.1.1];omega);have w:(prV i (a,x)).set i 0=x:=by unfold prV;rw[List.set_set];exact set_zero_of hx
 have sb:(prV i (b,y)).set i 0=y:=by unfold prV;rw[List.set_set];exact set_zero_of hy
 simp only[rAt,u,gb,w,sb];unfold exm;simp only;have e:(λl=>rImgTo (rAt P f (i+1)) (gt P.conj i) i l (zeros P.orders.length) f)=rImage P f i:=rfl;rw[e,show((b:Int)).toNat=b by omega];by_cases j:(gt P.orders i).toNat<=a+b
 ·rw [if_pos (by omega),if_pos j]
  unfold prV;simp only;congr 1
  omega
 ·rw [if_neg (by omega),if_neg j]
  unfold prV;simp only;congr 1
theorem Lvl.ext (hP:Valid P) (D:i+(f+1)=P.orders.length) (L:Lvl P f (i+1)) (R:RLevel P f i) :
  ExtOk (T P (i+1)) (rAt P f (i+1)) (zeros P.orders.length) (rImage P f i) (gt P.powers i) (gt P.orders i).toNat /\
   ∀j,i<j->j<P.orders.length->rImage P f i (unitV P.orders.length j)=gt (gt P.conj i) (j-i-1):=by
 have M:=L.grp.toMonOn;have K:=hP.ord7 i (by omega);have N:P.orders.length-(i+1)=f:=by omega
 have p:∀j,i+1<=j->j<P.orders.length->T P (i+1) (gt (gt P.conj i) (j-i-1)):=λj a b=>cj_T hP (by omega) b
 have l:∀x,rImage P f i x=npr (rAt P f (i+1)) (λj=>gt (gt P.conj i) (j-i-1)) x (i+1) (zeros P.orders.length) f:=λx=>by
  unfold rImage npr;rw[rImgTo_acc]
 have m:∀(j:Nat) (x:List Int),i<j->j<P.orders.length->ZeroTo j x->rImage P f i x=npr (rAt P f (i+1)) (λj=>gt (gt P.conj i) (j-i-1)) x (j+1) (zeros P.orders.length) (P.orders.length-(j+1)):=λj x a b G=>by
  rw[l];unfold npr;rw[show f=(j-i)+(P.orders.length-(j+1)) by omega,acc_split,acc_zero _ _ _ _ (j-i) (λk _ c=>G k (by omega)),show i+1+(j-i)=j+1 by omega]
 have H:Holds P (T P (i+1)) (rAt P f (i+1)) (zeros P.orders.length) (λj=>gt (gt P.conj i) (j-i-1)) (i+1):=by
  refine⟨p,λj a b => ?_,λj k a b c => ?_⟩
  ·have h:=R.c1 j (by omega) b
   unfold RCond1 at h;rw[L.rRep_eq (p j a b),m j _ (by omega) b (hP.pv j b).2] at h;exact h
  ·have h:=R.c2 j k (by omega) b c
   unfold RCond2 at h;rw[m j _ (by omega) (by omega) ((hP.cv j (by omega)).2 (k-j-1) (by omega)).2] at h;exact h
 have hom:∀A B,Vec P.orders A->Vec P.orders B->rImage P f i (rAt P f (i+1) A B)=rAt P f (i+1) (rImage P f i A) (rImage P f i B):=λA B I hB=>by
  rw[l,l,l];exact vd_at hP M f (i+1) (by omega) H A B I hB
 have q:∀j,i<j->j<P.orders.length->rImage P f i (unitV P.orders.length j)=gt (gt P.conj i) (j-i-1):=λj a b=>by
  rw[l];unfold npr
  rw [show f=(j-(i+1))+((P.orders.length-(j+1))+1) by omega,acc_split,acc_zero _ _ _ _ (j-(i+1)) (λk _ c=>by rw[gt_unit _ _ _ (by omega),if_neg (by omega)]),acc_front,show i+1+(j-(i+1))=j by omega,
   acc_zero _ _ (j+1) _ _ (λk c d=>by rw[gt_unit _ _ _ (by omega),if_neg (by omega)]),gt_unit _ _ _ b,if_pos rfl]
  show rAt P _ (i+1) (zeros P.orders.length) _=_
  rw[show j-(i+1)+(P.orders.length-(j+1)+1)=f by omega];exact M.el _ (p j (by omega) b)
 refine⟨?_,q⟩;have w:=pw_T (i:=i) hP (by omega)
 have ihom:∀(k:Nat) (x y:List Int),T P (i+1) x->T P (i+1) y->iter k (rImage P f i) (rAt P f (i+1) x y)=rAt P f (i+1) (iter k (rImage P f i) x) (iter k (rImage P f i) y):=by
  intro k x y hx hy
  have:=(iter_rel (λ(u:List Int) (v:List Int × List Int)=>T P (i+1) v.1/\T P (i+1) v.2/\u=rAt P f (i+1) v.1 v.2) (rImage P f i) (λv=>(rImage P f i v.1,rImage P f i v.2)) (by
   rintro u ⟨v1,v2⟩ ⟨h1,h2,rfl⟩;exact⟨rImage_T hP D _,rImage_T hP D _,hom _ _ h1.1 h2.1⟩) k (rAt P f (i+1) x y) (x,y) ⟨hx,hy,rfl⟩).2.2
  rw[this]
  have e:∀k,iter k (λv:List Int × List Int=>(rImage P f i v.1,rImage P f i v.2)) (x,y)=(iter k (rImage P f i) x,iter k (rImage P f i) y):=by
   intro k;induction k with
   | zero=>rfl
   | succ k E=>show(λv:List Int × List Int=>(rImage P f i v.1,rImage P f i v.2)) (iter k _ (x,y))=_;rw[E];rfl
  rw[e]
 have icl:∀(k:Nat) (x:List Int),T P (i+1) x->T P (i+1) (iter k (rImage P f i) x):=λk x hx=>iter_inv (T P (i+1)) _ (λy _=>rImage_T hP D y) k x hx;refine⟨by omega,L.grp,λx _=>rImage_T hP D x,λx y hx hy=>hom x y hx.1 hy.1,w,R.c3,?_⟩;intro x hx
 have z:rImage P f i (zeros P.orders.length)=zeros P.orders.length:=by
  rw[l];exact acc_zero _ _ _ _ _ (λj _ _=>gt_replicate _ _)
 have r:∀k,iter k (rImage P f i) (zeros P.orders.length)=zeros P.orders.length:=by
  intro k;induction k with
  | zero=>rfl
  | succ k E=>show rImage P f i (iter k _ _)=_;rw[E,z]
 have key:(λy=>T P (i+1) y/\rAt P f (i+1) (gt P.powers i) (iter (gt P.orders i).toNat (rImage P f i) y)=rAt P f (i+1) y (gt P.powers i)) (npr (rAt P f (i+1)) (unitV P.orders.length) x (i+1) (zeros P.orders.length) f):=by
  unfold npr;refine acc_inv (λy=>T P (i+1) y/\rAt P f (i+1) (gt P.powers i) (iter (gt P.orders i).toNat (rImage P f i) y)=rAt P f (i+1) y (gt P.powers i)) _ _ _ _ _ ⟨L.grp.one,by rw[r,M.er _ w,M.el _ w]⟩ (λy j hy a b _ => ?_);obtain⟨h1,h2⟩:=hy;have C:T P (i+1) (unitV P.orders.length j):=T.unit hP a (by omega);have F:=R.c4 j (by omega) (by omega);unfold RCond4 at F;refine⟨M.cl _ _ h1 C,?_⟩;rw[ihom _ _ _ h1 C,<-M.ass _ _ _ w (icl _ _ h1) (icl _ _ C),h2,M.ass _ _ _ h1 w (icl _ _ C)];have J:rAt P f (i+1) (gt P.powers i) (iter (gt P.orders i).toNat (rImage P f i) (unitV P.orders.length j))=rAt P f (i+1) (unitV P.orders.length j) (gt P.powers i):=F;rw[J,M.ass _ _ _ h1 C w]
 rw[L.nf x hx] at key;exact key.2
theorem Lvl.step (hP:Valid P) (A:i+(f+1)=P.orders.length) (L:Lvl P f (i+1)) (R:RLevel P f i):Lvl P (f+1) i:=by
 obtain⟨E,C⟩:=L.ext hP A R;have e:i<P.orders.length:=by omega
 have ho:=hP.ord7 i e;have u:=L.grp.toMonOn;have K:prV i (0,zeros P.orders.length)=zeros P.orders.length:=set_zero_of (P:=P) (T.zeros hP (i+1))
 have G:GrpOn (T P i) (rAt P (f+1) i) (zeros P.orders.length):=
  E.group.carry (prV i) (λp S=>prV_T hP e S) (λy hy=>prV_sur hP e hy) K (λp q S hq=>prV_mul hP A p q S hq)
 have M:=G.toMonOn;have D:∀x,T P (i+1) x->prV i (0,x)=x:=λx hx=>set_zero_of hx;have N:∀x,T P (i+1) x->ExS (T P (i+1)) (gt P.orders i).toNat (0,x):=λx hx=>⟨by show 0<_;omega,hx⟩;-- the product restricted
 have res:∀x y,T P (i+1) x->T P (i+1) y->rAt P (f+1) i x y=rAt P f (i+1) x y:=λx y hx hy=>by
  have h:=prV_mul hP A (0,x) (0,y) (N x hx) (N y hy);rw[D x hx,D y hy] at h;rw[h];unfold exm;simp only[Nat.add_zero,if_neg (by omega:¬(gt P.orders i).toNat<=0)];exact D _ (u.cl _ _ hx hy)
 have m:∀(x:List Int) (j k:Nat),i+1<=j->j+k=P.orders.length->npr (rAt P (f+1) i) (unitV P.orders.length) x j (zeros P.orders.length) k=npr (rAt P f (i+1)) (unitV P.orders.length) x j (zeros P.orders.length) k /\
   T P (i+1) (npr (rAt P f (i+1)) (unitV P.orders.length) x j (zeros P.orders.length) k):=λx j k hj hk=>by
  have:=acc_rel (λ(y z:List Int)=>T P (i+1) z/\y=z) (λy j=>rAt P (f+1) i y (unitV P.orders.length j)) (λy j=>rAt P f (i+1) y (unitV P.orders.length j)) x j (zeros P.orders.length) (zeros P.orders.length) k ⟨L.grp.one,rfl⟩ (by
   rintro y z l ⟨h1,rfl⟩ a b _;have r:T P (i+1) (unitV P.orders.length l):=T.unit hP (by omega) (by omega);exact⟨u.cl _ _ h1 r,res _ _ h1 r⟩)
  exact⟨this.2,this.1⟩
 have u1:unitV P.orders.length i=prV i (1,zeros P.orders.length):=by
  unfold prV unitV zeros;rfl
 have F:∀a x,a<(gt P.orders i).toNat->T P (i+1) x->ExS (T P (i+1)) (gt P.orders i).toNat (a,x):=λa x ha hx=>⟨ha,hx⟩;have w:T P (i+1) (zeros P.orders.length):=T.zeros hP _;have Y:T P i (unitV P.orders.length i):=T.unit hP (Nat.le_refl _) e;have B:∀j,i<=j->j<P.orders.length->T P i (unitV P.orders.length j):=λj a b=>T.unit hP a b;-- powers of the generator
 have O:∀k,k<(gt P.orders i).toNat->iter k (λy=>rAt P (f+1) i y (unitV P.orders.length i)) (zeros P.orders.length)=prV i (k,zeros P.orders.length):=by
  intro k;induction k with
  | zero=>intro _;exact K.symm
  | succ k ih=>
   intro hk;show rAt P (f+1) i (iter k _ _) (unitV P.orders.length i)=_
   rw[ih (by omega),u1,prV_mul hP A _ _ (F k _ (by omega) w) (F 1 _ (by omega) w)];unfold exm;simp only[if_neg (by omega:¬(gt P.orders i).toNat<=k+1),E.ione,u.el _ w]
 have W:=pw_T (i:=i) hP e
 have H:∀x,T P (i+1) x->npr (rAt P (f+1) i) (unitV P.orders.length) x (i+1) (zeros P.orders.length) f=x:=λx hx=>by
  rw[(m x (i+1) f (by omega) (by omega)).1,L.nf x hx]
 refine⟨G,λx hx => ?_,⟨B,λj a b => ?_,λj k a b c => ?_⟩⟩
 ·-- normal form
  rw[npr_front M (λj a b=>B j a (by omega))];have ad:=hx.1.2 i e;have U:=hx.drop hP e
  have h1:npr (rAt P (f+1) i) (unitV P.orders.length) x (i+1) (zeros P.orders.length) f=x.set i 0:=by
   have V:npr (rAt P (f+1) i) (unitV P.orders.length) x (i+1) (zeros P.orders.length) f=npr (rAt P (f+1) i) (unitV P.orders.length) (x.set i 0) (i+1) (zeros P.orders.length) f:=
    acc_congr _ _ _ _ _ _ (λj a b=>by rw[gt_set_ne _ _ _ _ (by omega)])
   rw[V,H _ U]
  rw[O _ (by omega),h1];obtain⟨p,S,hpx⟩:=prV_sur hP e hx;have Z:=prV_mul hP A ((gt x i).toNat,zeros P.orders.length) (0,x.set i 0) (F _ _ (by omega) w) (N _ U);rw[D _ U] at Z;rw[Z];unfold exm;simp only[Nat.add_zero,if_neg (by omega:¬(gt P.orders i).toNat<=(gt x i).toNat)];show prV i ((gt x i).toNat,rAt P f (i+1) (zeros P.orders.length) (x.set i 0))=x
  rw[u.el _ U];unfold prV;simp only[List.set_set];refine ext_gt (by simp) (λk hk => ?_);rw[List.length_set] at hk;rw[gt_set_if _ _ _ _ hk];split
  ·rename_i h;subst h;omega
  ·rfl
 ·-- power relations
  by_cases I:j=i
  ·subst I
   rw[show P.orders.length-(j+1)=f by omega,H _ W];obtain⟨J,X⟩:∃J,(gt P.orders j).toNat=J+1:=⟨(gt P.orders j).toNat-1,by omega⟩;rw[X];show rAt P (f+1) j (iter J _ _) (unitV P.orders.length j)=_
   rw[O J (by omega),u1,prV_mul hP A _ _ (F J _ (by omega) w) (F 1 _ (by omega) w)];unfold exm;simp only[if_pos (by omega:(gt P.orders j).toNat<=J+1),E.ione,u.el _ w,u.er _ W];rw[show J+1-(gt P.orders j).toNat=0 by omega];exact D _ W
  ·have r:T P (i+1) (unitV P.orders.length j):=T.unit hP (by omega) b
   rw[(m _ (j+1) _ (by omega) (by omega)).1,<-L.rel.pw j (by omega) b]
   have:=iter_rel (λ(y z:List Int)=>T P (i+1) z/\y=z) (λy=>rAt P (f+1) i y (unitV P.orders.length j)) (λy=>rAt P f (i+1) y (unitV P.orders.length j)) (by
    rintro y z ⟨h1,rfl⟩;exact⟨u.cl _ _ h1 r,res _ _ h1 r⟩) (gt P.orders j).toNat _ _ ⟨L.grp.one,rfl⟩
   exact this.2
 ·-- conjugate relations
  by_cases I:j=i
  ·subst I
   have Q:=cj_T (i:=j) hP b c;have r:T P (j+1) (unitV P.orders.length k):=T.unit hP (by omega) c;rw[show P.orders.length-(j+1)=f by omega,H _ Q];have h1:=prV_mul hP A (0,unitV P.orders.length k) (1,zeros P.orders.length) (N _ r) (F 1 _ (by omega) w);have V:=prV_mul hP A (1,zeros P.orders.length) (0,gt (gt P.conj j) (k-j-1)) (F 1 _ (by omega) w) (N _ Q);rw[D _ r,<-u1] at h1;rw[D _ Q,<-u1] at V;rw[h1,V];unfold exm;simp only[Nat.zero_add,Nat.add_zero,if_neg (by omega:¬(gt P.orders j).toNat<=1)];show prV j (1,rAt P f (j+1) (rImage P f j (unitV P.orders.length k)) (zeros P.orders.length))=prV j (1,rAt P f (j+1) (zeros P.orders.length) (gt (gt P.conj j) (k-j-1)))
   rw[C k b c,u.er _ Q,u.el _ Q]
  ·have r:T P (i+1) (unitV P.orders.length j):=T.unit hP (by omega) (by omega)
   have hv:T P (i+1) (unitV P.orders.length k):=T.unit hP (by omega) c;have hr:=m (gt (gt P.conj j) (k-j-1)) (j+1) (P.orders.length-(j+1)) (by omega) (by omega);rw[hr.1,res _ _ hv r,res _ _ r hr.2];exact L.rel.cj j k (by omega) b c
end
theorem lvl_of_R {P:Pr}(hP:Valid P) (f:Nat):∀i,i+f=P.orders.length->(∀k,i<=k->k<P.orders.length->RLevel P (P.orders.length-1-k) k)->Lvl P f i:=by
 induction f with
 | zero=>
  intro i e _;have:i=P.orders.length:=by omega
  subst this;exact Lvl.top hP
 | succ f j=>
  intro i e h;have L:=j (i+1) (by omega) (λk a b=>h k (by omega) b);have R:=h i (by omega) (by omega);rw[show P.orders.length-1-i=f by omega] at R;exact L.step hP e R
theorem lvl_of_I {P:Pr}(hP:Valid P) (f:Nat):∀i,i+f=P.orders.length->(∀k,i<=k->k<P.orders.length->ILevel P k)->Lvl P f i:=by
 induction f with
 | zero=>
  intro i e _;have:i=P.orders.length:=by omega
  subst this;exact Lvl.top hP
 | succ f j=>
  intro i e h;have L:=j (i+1) (by omega) (λk a b=>h k (by omega) b);exact L.step hP e ((L.iff hP e).1 (h i (by omega) (by omega)))
theorem all_iff {P:Pr}(hP:Valid P):IAll P↔RAll P:=by
 constructor
 ·intro h k hk
  have L:=lvl_of_I hP (P.orders.length-1-k) (k+1) (by omega) (λl _ b=>h l b);exact(L.iff hP (by omega)).1 (h k hk)
 ·intro h k hk
  have L:=lvl_of_R hP (P.orders.length-1-k) (k+1) (by omega) (λl _ b=>h l b);exact(L.iff hP (by omega)).2 (h k hk)
theorem icons_eq (P:Pr):iconsB P=rconsB P:=by
 unfold iconsB rconsB;exact decide_eq_decide.2 (and_congr_right (λhP=>all_iff hP))
structure Grp (P:Pr):Prop where
 v:Valid P
 all:RAll P
theorem Grp.tail {P:Pr}(G:Grp P) {f i:Nat}(a:i+f=P.orders.length):Lvl P f i:=lvl_of_R G.v f i a (λk _ b=>G.all k b)
theorem Grp.lvl {P:Pr}(G:Grp P):Lvl P P.orders.length 0:=G.tail (by omega)
theorem grp_of_r {P:Pr}(h:rconsB P=true):Grp P:=by
 unfold rconsB at h;have a := @of_decide_eq_true _ (_) h;exact⟨a.1,a.2⟩
theorem T_zero {P:Pr}{x:List Int} : T P 0 x↔Vec P.orders x:=⟨λh=>h.1,λh=>⟨h,λk hk=>by omega⟩⟩
section
variable {P:Pr}(G:Grp P)
include G
theorem Grp.grp:GrpOn (Vec P.orders) (rMul P) (zeros P.orders.length):=by
 have h:=G.lvl.grp;have e:T P 0=Vec P.orders:=by funext x;exact propext T_zero
 rw[e] at h;exact h
theorem Grp.tv_eq {E F:List Int}(a:Vec P.orders E) (hF:Vec P.orders F):tv P E F=rMul P E F:=G.lvl.tv_eq G.v (by omega) (T_zero.2 a) (T_zero.2 hF)
theorem Grp.iInv_mul {a:List Int}(ha:Vec P.orders a):rMul P a (iInv P a)=zeros P.orders.length:=(G.lvl.iInv_eq G.v (by omega) (T_zero.2 ha)).2
theorem Grp.iPow_eq {a:List Int}(ha:Vec P.orders a) (k:Int):iPow P a k=iter k.toNat (λy=>rMul P y a) (zeros P.orders.length):=G.lvl.iPow_eq G.v (by omega) (T_zero.2 ha) k
end
section
variable {P:Pr}{f i:Nat}
theorem rImage_zeros:rImage P f i (zeros P.orders.length)=zeros P.orders.length:=by
 unfold rImage;rw[rImgTo_acc];exact acc_zero _ _ _ _ _ (λj _ _=>gt_replicate _ _)
theorem rAt_res (hP:Valid P) (b:i+(f+1)=P.orders.length) {x y:List Int}(hx:T P (i+1) x) (hy:T P (i+1) y):rAt P (f+1) i x y=rAt P f (i+1) x y:=by
 have e:=hP.ord7 i (by omega);have h:=prV_mul hP b (0,x) (0,y) ⟨by show 0<_;omega,hx⟩ ⟨by show 0<_;omega,hy⟩;have a:∀x,T P (i+1) x->prV i (0,x)=x:=λx hx=>set_zero_of hx;rw[a x hx,a y hy] at h;rw[h];unfold exm;simp only[Nat.add_zero,if_neg (by omega:¬(gt P.orders i).toNat<=0)];exact a _ (rAt_T hP f (i+1) x y (by omega) hx.1 hy.1)
theorem gen_pow (hP:Valid P) (b:i+(f+1)=P.orders.length) (e:Lvl P f (i+1)) (k:Nat) (hk:k<(gt P.orders i).toNat) :
  iter k (λy=>rAt P (f+1) i y (unitV P.orders.length i)) (zeros P.orders.length)=prV i (k,zeros P.orders.length):=by
 have a:T P (i+1) (zeros P.orders.length):=T.zeros hP _;induction k with
 | zero=>exact(set_zero_of a).symm
 | succ k j=>
  show rAt P (f+1) i (iter k _ _) (unitV P.orders.length i)=_
  have u1:unitV P.orders.length i=prV i (1,zeros P.orders.length):=by unfold prV unitV zeros;rfl
  rw[j (by omega),u1,prV_mul hP b _ _ ⟨by show k<_;omega,a⟩ ⟨by show 1<_;omega,a⟩];unfold exm;simp only[if_neg (by omega:¬(gt P.orders i).toNat<=k+1)];show prV i (k+1,rAt P f (i+1) (rImage P f i (zeros P.orders.length)) (zeros P.orders.length))=_
  rw[rImage_zeros,e.grp.el _ a]
theorem vec_head (hP:Valid P) (j:i+(f+1)=P.orders.length) (l:Lvl P f (i+1)) {x:List Int}(hx:T P i x) :
  rAt P (f+1) i (prV i ((gt x i).toNat,zeros P.orders.length)) (x.set i 0)=x:=by
 have a:i<P.orders.length:=by omega
 have m:=hx.1.2 i a;have b:=hx.drop hP a;have p:T P (i+1) (zeros P.orders.length):=T.zeros hP _;have e:=prV_mul hP j ((gt x i).toNat,zeros P.orders.length) (0,x.set i 0) ⟨by show(gt x i).toNat<_;omega,p⟩ ⟨by show 0<_;omega,b⟩;have q:prV i (0,x.set i 0)=x.set i 0:=set_zero_of b;rw[q] at e;rw[e];unfold exm;simp only[Nat.add_zero,if_neg (by omega:¬(gt P.orders i).toNat<=(gt x i).toNat)];show prV i ((gt x i).toNat,rAt P f (i+1) (zeros P.orders.length) (x.set i 0))=x
 rw[l.grp.el _ b];unfold prV;simp only[List.set_set];refine ext_gt (by simp) (λk hk => ?_);rw[List.length_set] at hk;rw[gt_set_if _ _ _ _ hk];split
 ·rename_i h;subst h;omega
 ·rfl
theorem rFrom_inv (G:Grp P) (f:Nat):∀(i:Nat) (x:List Int),i+f=P.orders.length->T P i x->T P i (rFrom P f i x)/\rAt P f i x (rFrom P f i x)=zeros P.orders.length:=by
 have hP:=G.v;induction f with
 | zero=>intro i x _ _;exact⟨T.zeros hP i,rfl⟩
 | succ f I=>
  intro i x m hx;have e:i<P.orders.length:=by omega
  have L:=G.tail m;have q:=G.tail (f:=f) (i:=i+1) (by omega);have ho:=hP.ord7 i e;have N:=hx.1.2 i e;have C:=hx.drop hP e;obtain⟨h1,D⟩:=I (i+1) _ (by omega) C;have k:T P i (rFrom P f (i+1) (x.set i 0)):=h1.down (by omega);simp only[rFrom];by_cases A:gt x i=0
  ·rw [if_pos A]
   have ex:x.set i 0=x:=set_zero_of (hx.up A);rw[ex] at k D ⊢;rw[ex] at h1;exact⟨k,by rw[rAt_res hP m (hx.up A) h1];exact D⟩
  ·rw [if_neg A]
   have B:=pw_T (i:=i) hP e;obtain⟨J,h4⟩:=I (i+1) _ (by omega) B;have E:T P i (prV i ((gt P.orders i-gt x i).toNat,zeros P.orders.length)):=prV_T hP e ⟨by show(gt P.orders i-gt x i).toNat<_;omega,T.zeros hP _⟩;have r:T P i (prV i ((gt x i).toNat,zeros P.orders.length)):=prV_T hP e ⟨by show(gt x i).toNat<_;omega,T.zeros hP _⟩
   have O:(zeros P.orders.length).set i (gt P.orders i-gt x i)=prV i ((gt P.orders i-gt x i).toNat,zeros P.orders.length):=by
    unfold prV;simp only;rw[show(((gt P.orders i-gt x i).toNat:Nat):Int)=gt P.orders i-gt x i by omega]
   rw[O];have M:=L.grp.toMonOn;have u:T P i (rFrom P f (i+1) (gt P.powers i)):=J.down (by omega);have F:T P i (x.set i 0):=C.down (by omega);have Q:T P i (gt P.powers i):=B.down (by omega);refine⟨M.cl _ _ (M.cl _ _ k E) u,?_⟩;have R:=T.unit hP (Nat.le_refl i) e;have S:rAt P (f+1) i (x.set i 0) (rFrom P f (i+1) (x.set i 0))=zeros P.orders.length:=by rw[rAt_res hP m C h1];exact D
   have U:rAt P (f+1) i (gt P.powers i) (rFrom P f (i+1) (gt P.powers i))=zeros P.orders.length:=by rw[rAt_res hP m B J];exact h4
   have V:rAt P (f+1) i (prV i ((gt x i).toNat,zeros P.orders.length)) (prV i ((gt P.orders i-gt x i).toNat,zeros P.orders.length))=gt P.powers i:=by
    rw[<-gen_pow hP m q _ (by omega),<-gen_pow hP m q _ (by omega),<-M.pow_add R,show(gt x i).toNat+(gt P.orders i-gt x i).toNat=(gt P.orders i).toNat by omega,L.rel.pw i (Nat.le_refl _) e];rw[show P.orders.length-(i+1)=f by omega];have:=q.nf _ B
    have W:=(acc_rel (λ(y z:List Int)=>T P (i+1) z/\y=z) (λy j=>rAt P (f+1) i y (unitV P.orders.length j)) (λy j=>rAt P f (i+1) y (unitV P.orders.length j)) (gt P.powers i) (i+1) (zeros P.orders.length) (zeros P.orders.length) f ⟨q.grp.one,rfl⟩ (by
     rintro y z l ⟨K,rfl⟩ a b _;have w:T P (i+1) (unitV P.orders.length l):=T.unit hP (by omega) (by omega);exact⟨q.grp.cl _ _ K w,rAt_res hP m K w⟩)).2
    exact W.trans this
   have H:=vec_head hP m q hx
   have p:rAt P (f+1) i x (rAt P (f+1) i (rAt P (f+1) i (rFrom P f (i+1) (x.set i 0)) (prV i ((gt P.orders i-gt x i).toNat,zeros P.orders.length))) (rFrom P f (i+1) (gt P.powers i)))=zeros P.orders.length:=by
    have X:=M.cl _ _ k E;rw[<-M.ass _ _ _ hx X u,<-M.ass _ _ _ hx k E]
    have Y:rAt P (f+1) i x (rFrom P f (i+1) (x.set i 0))=prV i ((gt x i).toNat,zeros P.orders.length):=by
     have Z:rAt P (f+1) i x (rFrom P f (i+1) (x.set i 0))=rAt P (f+1) i (rAt P (f+1) i (prV i ((gt x i).toNat,zeros P.orders.length)) (x.set i 0)) (rFrom P f (i+1) (x.set i 0)):=by rw[H]
     rw[Z,M.ass _ _ _ r F k,S,M.er _ r]
    rw[Y,V,U]
   exact p
end
section
variable {P:Pr}(G:Grp P)
include G
theorem Grp.mul_inv {x:List Int}(hx:Vec P.orders x):rMul P x (rInv P x)=zeros P.orders.length:=(rFrom_inv G P.orders.length 0 x (by omega) (T_zero.2 hx)).2
theorem Grp.inv_mul {x:List Int}(hx:Vec P.orders x):rMul P (rInv P x) x=zeros P.orders.length:=G.grp.right_left hx (rInv_vec G.v x hx) (G.mul_inv hx)
theorem Grp.mulV {x y:List Int}(hx:Vec P.orders x) (hy:Vec P.orders y):Vec P.orders (rMul P x y):=G.grp.cl _ _ hx hy
theorem Grp.invV {x:List Int}(hx:Vec P.orders x):Vec P.orders (rInv P x):=rInv_vec G.v x hx
theorem Grp.ass {x y z:List Int}(hx:Vec P.orders x) (hy:Vec P.orders y) (a:Vec P.orders z):rMul P (rMul P x y) z=rMul P x (rMul P y z):=G.grp.ass x y z hx hy a
theorem Grp.oneV:Vec P.orders (zeros P.orders.length):=zeros_vec G.v
theorem Grp.conjV {x y:List Int}(hx:Vec P.orders x) (hy:Vec P.orders y):Vec P.orders (rConj P x y):=G.mulV (G.invV hy) (G.mulV hx hy)
theorem Grp.iInv_eq {x:List Int}(hx:Vec P.orders x):iInv P x=rInv P x:=
 G.grp.cancel hx (iInv_vec G.v x hx) (G.invV hx) (by rw[G.iInv_mul hx,G.mul_inv hx])
theorem Grp.iConj_eq {x y:List Int}(hx:Vec P.orders x) (hy:Vec P.orders y):iConj P x y=rConj P x y:=by
 unfold iConj rConj;rw[G.iInv_eq hy,G.tv_eq hx hy,G.tv_eq (G.invV hy) (G.mulV hx hy)]
theorem Grp.conj_one {x:List Int}(hx:Vec P.orders x):rConj P x (zeros P.orders.length)=x:=by
 unfold rConj
 have h1:rInv P (zeros P.orders.length)=zeros P.orders.length:=by
  have:=G.mul_inv G.oneV;rw[G.grp.el _ (G.invV G.oneV)] at this;exact this
 rw[h1,G.grp.er _ hx,G.grp.el _ hx]
theorem Grp.inv_of {x y:List Int}(hx:Vec P.orders x) (hy:Vec P.orders y) (h:rMul P x y=zeros P.orders.length):y=rInv P x:=
 G.grp.cancel hx hy (G.invV hx) (by rw[h,G.mul_inv hx])
theorem Grp.inv_mulR {x y:List Int}(hx:Vec P.orders x) (hy:Vec P.orders y):rInv P (rMul P x y)=rMul P (rInv P y) (rInv P x):=by
 symm
 refine G.inv_of (G.mulV hx hy) (G.mulV (G.invV hy) (G.invV hx)) ?_;rw[G.ass hx hy (G.mulV (G.invV hy) (G.invV hx)),<-G.ass hy (G.invV hy) (G.invV hx),G.mul_inv hy,G.grp.el _ (G.invV hx),G.mul_inv hx]
theorem Grp.inv_inv {x:List Int}(hx:Vec P.orders x):rInv P (rInv P x)=x:=(G.inv_of (G.invV hx) hx (G.inv_mul hx)).symm
theorem Grp.conj_mul {x y z:List Int}(hx:Vec P.orders x) (hy:Vec P.orders y) (a:Vec P.orders z):rConj P (rConj P x y) z=rConj P x (rMul P y z):=by
 unfold rConj;have c1:=G.mulV hx hy;rw[G.inv_mulR hy a,G.ass (G.invV a) (G.invV hy) (G.mulV hx (G.mulV hy a)),G.ass (G.invV hy) c1 a,G.ass hx hy a]
theorem Grp.conj_back {x y:List Int}(hx:Vec P.orders x) (hy:Vec P.orders y):rConj P (rConj P x y) (rInv P y)=x:=by
 rw[G.conj_mul hx hy (G.invV hy),G.mul_inv hy,G.conj_one hx]
end
theorem rAt_right {P:Pr}(hP:Valid P) (f:Nat):∀(i e:Nat) (x z:List Int),i+f=P.orders.length->i<=e->e<=P.orders.length->Vec P.orders x->T P e z ->
  (∀k,i<=k->k<e->gt (rAt P f i x z) k=gt x k)/\(e<P.orders.length->gt (rAt P f i x z) e=(gt x e+gt z e)%gt P.orders e):=by
 induction f with
 | zero=>intro i e x z A G q _ _;exact⟨λk a b=>by omega,λh=>by omega⟩
 | succ f H=>
  intro i e x z A G q hx p;have j:i<P.orders.length:=by omega
  have N:=hP.ord7 i j;have I:=hx.2 i j;have J:=p.1.2 i j;have O:=rAt_T hP (f+1) i x z A hx p.1;by_cases B:i=e
  ·subst B
   refine⟨λk a b=>by omega,λ_ => ?_⟩;simp only[rAt]
   have C:∀l:List Int,Vec P.orders l->Vec P.orders (iter (gt z i).toNat (λl=>rImgTo (rAt P f (i+1)) (gt P.conj i) i l (zeros P.orders.length) f) l):=λl C=>
    iter_inv (Vec P.orders) _ (λy hy=>rImgTo_vec hP f i A (rAt_vec hP f) _ _ (zeros_vec hP) f (Nat.le_refl _)) _ _ C
   have v1:=C _ (hx.set i 0 ⟨by omega,λ_=>by omega⟩);have K:Vec P.orders (z.set i 0):=p.1.set i 0 ⟨by omega,λ_=>by omega⟩;have w:=rAt_vec hP f (i+1) _ _ (by omega) v1 K;split
   ·rename_i L
    have v4:=rAt_vec hP f (i+1) _ _ (by omega) (hP.pv i j).1 w;rw[gt_set_eq _ _ _ (by rw[v4.1];exact j)];have M:gt x i+gt z i=(gt x i+gt z i-gt P.orders i)+gt P.orders i:=by omega
    rw[M,Int.add_emod_right,Int.emod_eq_of_lt (by omega) (by omega)];omega
   ·rename_i L
    rw[gt_set_eq _ _ _ (by rw[w.1];exact j),Int.emod_eq_of_lt (by omega) (by omega)]
  ·have D:gt z i=0:=p.2 i (by omega)
   have E:z.set i 0=z:=set_zero_of (P:=P) (p.down (by omega));have r:Vec P.orders (x.set i 0):=hx.set i 0 ⟨by omega,λ_=>by omega⟩;have m:=H (i+1) e (x.set i 0) z (by omega) (by omega) q r p;have w:=rAt_vec hP f (i+1) (x.set i 0) z (by omega) r p.1
   have u:rAt P (f+1) i x z=(rAt P f (i+1) (x.set i 0) z).set i (gt x i):=by
    simp only[rAt,D,E];rw[if_neg (by omega),Int.add_zero];rfl
   rw[u];refine⟨λk a b => ?_,λh => ?_⟩
   ·by_cases F:i=k
    ·subst F;rw[gt_set_eq _ _ _ (by rw[w.1];exact j)]
    ·rw[gt_set_ne _ _ _ _ F,m.1 k (by omega) b,gt_set_ne _ _ _ _ F]
   ·rw[gt_set_ne _ _ _ _ (by omega),m.2 h,gt_set_ne _ _ _ _ (by omega)]
def pw (P:Pr) (x:List Int) (k:Nat):List Int:=iter k (λy=>rMul P y x) (zeros P.orders.length)
section
variable {P:Pr}(G:Grp P)
include G
theorem Grp.right {x z:List Int}{e:Nat}(a:e<=P.orders.length) (hx:Vec P.orders x) (b:T P e z) :
  (∀k,k<e->gt (rMul P x z) k=gt x k)/\(e<P.orders.length->gt (rMul P x z) e=(gt x e+gt z e)%gt P.orders e):=by
 have h:=rAt_right G.v P.orders.length 0 e x z (by omega) (by omega) a hx b;exact⟨λk hk=>h.1 k (by omega) hk,h.2⟩
theorem Grp.T_mul {x y:List Int}{d:Nat}(a:d<=P.orders.length) (hx:T P d x) (hy:T P d y):T P d (rMul P x y):=
 ⟨G.mulV hx.1 hy.1,λk hk=>by rw[(G.right a hx.1 hy).1 k hk];exact hx.2 k hk⟩
theorem Grp.pw_vec {x:List Int}(hx:Vec P.orders x) (k:Nat):Vec P.orders (pw P x k):=G.grp.toMonOn.pow_cl hx G.oneV k
theorem Grp.pw_add {x:List Int}(hx:Vec P.orders x) (a b:Nat):pw P x (a+b)=rMul P (pw P x a) (pw P x b):=G.grp.toMonOn.pow_add hx a b
omit G in
theorem pw_zero (P:Pr) (x:List Int):pw P x 0=zeros P.orders.length:=rfl
omit G in
theorem pw_succ (P:Pr) (x:List Int) (k:Nat):pw P x (k+1)=rMul P (pw P x k) x:=rfl
theorem Grp.pw_one {x:List Int}(hx:Vec P.orders x):pw P x 1=x:=G.grp.el x hx
theorem Grp.pw_succ' {x:List Int}(hx:Vec P.orders x) (k:Nat):pw P x (k+1)=rMul P x (pw P x k):=by
 rw[Nat.add_comm,G.pw_add hx,G.pw_one hx]
theorem Grp.pw_mul {x:List Int}(hx:Vec P.orders x) (a b:Nat):pw P x (a*b)=pw P (pw P x a) b:=by
 induction b with
 | zero=>rfl
 | succ b e=>rw[Nat.mul_succ,G.pw_add hx,e];rfl
theorem Grp.pw_T {x:List Int}{d:Nat}(a:d<=P.orders.length) (hx:T P d x) (k:Nat):T P d (pw P x k):=by
 induction k with
 | zero=>exact T.zeros G.v d
 | succ k b=>exact G.T_mul a b hx
theorem Grp.pw_at {x:List Int}{d:Nat}(a:d<P.orders.length) (hx:T P d x) (k:Nat):gt (pw P x k) d=((k:Int)*gt x d)%gt P.orders d:=by
 induction k with
 | zero=>rw[pw_zero];show gt (List.replicate _ (0:Int)) d=_;rw[gt_replicate];simp
 | succ k b=>
  rw[pw_succ,(G.right (Nat.le_of_lt a) (G.pw_vec hx.1 k) hx).2 a,b,Int.emod_add_emod];congr 1
  rw[Int.natCast_add,Int.add_mul];simp
theorem Grp.pw_order {x:List Int}{d:Nat}(a:d<P.orders.length) (hx:T P d x):T P (d+1) (pw P x (gt P.orders d).toNat):=by
 have b:=G.v.ord7 d a;refine(G.pw_T (Nat.le_of_lt a) hx _).up ?_;rw[G.pw_at a hx,show(((gt P.orders d).toNat:Nat):Int)=gt P.orders d by omega,Int.mul_emod_right]
theorem Grp.fin (f:Nat):∀(d:Nat) (x:List Int),d+f=P.orders.length->T P d x->∃M,1<=M/\pw P x M=zeros P.orders.length:=by
 induction f with
 | zero=>
  intro d x a hx;have:d=P.orders.length:=by omega
  subst this;refine⟨1,Nat.le_refl _,?_⟩;rw[G.pw_one hx.1];exact hx.top G.v
 | succ f b=>
  intro d x a hx;have e:=G.v.ord7 d (by omega);obtain⟨M,h1,h2⟩:=b (d+1) _ (by omega) (G.pw_order (by omega) hx);refine⟨(gt P.orders d).toNat*M,Nat.mul_pos (by omega) h1,?_⟩;rw[G.pw_mul hx.1,h2]
theorem Grp.inv_pw {x:List Int}(hx:Vec P.orders x):∃k,rInv P x=pw P x k:=by
 obtain⟨M,h1,h2⟩:=G.fin P.orders.length 0 x (by omega) (T_zero.2 hx);refine⟨M-1,?_⟩;refine(G.inv_of hx (G.pw_vec hx _) ?_).symm;rw[<-G.pw_succ' hx,show M-1+1=M by omega,h2]
theorem Grp.T_inv {x:List Int}{d:Nat}(a:d<=P.orders.length) (hx:T P d x):T P d (rInv P x):=by
 obtain⟨k,hk⟩:=G.inv_pw hx.1;rw[hk];exact G.pw_T a hx k
theorem Grp.diff {u v:List Int}{d:Nat}(a:d<P.orders.length) (b:T P d u) (e:T P d v) (h:gt u d=gt v d):T P (d+1) (rMul P (rInv P u) v):=by
 have l:=G.T_inv (Nat.le_of_lt a) b;have i:=G.T_mul (Nat.le_of_lt a) l e;refine i.up ?_;have m:rMul P u (rMul P (rInv P u) v)=v:=by rw[<-G.ass b.1 l.1 e.1,G.mul_inv b.1,G.grp.el _ e.1]
 have j:=(G.right (Nat.le_of_lt a) b.1 i).2 a;rw[m] at j;have b1:=b.1.2 d a;have b2:=i.1.2 d a;by_cases k:gt u d+gt (rMul P (rInv P u) v) d<gt P.orders d
 ·rw[Int.emod_eq_of_lt (by omega) k] at j;omega
 ·have p:gt u d+gt (rMul P (rInv P u) v) d=(gt u d+gt (rMul P (rInv P u) v) d-gt P.orders d)+gt P.orders d:=by omega
  rw[p,Int.add_emod_right,Int.emod_eq_of_lt (by omega) (by omega)] at j;omega
end
structure Sub (P:Pr) (H:List Int->Prop):Prop where
 vec:∀x,H x->Vec P.orders x
 one:H (zeros P.orders.length)
 mul:∀x y,H x->H y->H (rMul P x y)
 inv:∀x,H x->H (rInv P x)
section
variable {P:Pr}(G:Grp P)
include G
theorem Grp.sub_all:Sub P (Vec P.orders):=⟨λ_ h=>h,G.oneV,λ_ _ h k=>G.mulV h k,λ_ h=>G.invV h⟩
theorem Grp.sub_of_mul {H:List Int->Prop}(b:∀x,H x->Vec P.orders x) (h1:H (zeros P.orders.length)) (e:∀x y,H x->H y->H (rMul P x y)):Sub P H:=by
 refine⟨b,h1,e,λx hx => ?_⟩;obtain⟨k,hk⟩:=G.inv_pw (b x hx);rw[hk];induction k generalizing x with
 | zero=>exact h1
 | succ k _=>
  have:∀j,H (pw P x j):=by
   intro j;induction j with
   | zero=>exact h1
   | succ j a=>exact e _ _ a hx
  exact this _
omit G in
theorem Sub.pw {H:List Int->Prop}(S:Sub P H) {x:List Int}(hx:H x) (k:Nat):H (Go.Proofs.YtoakmefajbbggaaGreat.pw P x k):=by
 induction k with
 | zero=>exact S.one
 | succ k a=>exact S.mul _ _ a hx
theorem Grp.comm_deep {x y:List Int}{d:Nat}(e:d<P.orders.length) (hx:T P d x) (hy:T P (d+1) y) :
  T P (d+1) (rMul P (rInv P (rMul P y x)) (rMul P x y))/\T P (d+1) (rMul P (rInv P (rMul P x y)) (rMul P y x)):=by
 have a:=Nat.le_of_lt e;have b:=hy.down (Nat.le_succ d);have h1:=G.T_mul a hx b;have i:=G.T_mul a b hx;have j:gt (rMul P x y) d=gt x d:=(G.right (Nat.succ_le_of_lt e) hx.1 hy).1 d (by omega)
 have k:gt (rMul P y x) d=gt x d:=by
  rw[(G.right a b.1 hx).2 e,hy.2 d (by omega),Int.zero_add];have:=hx.1.2 d e;exact Int.emod_eq_of_lt this.1 this.2
 exact⟨G.diff e i h1 (by rw[j,k]),G.diff e h1 i (by rw[j,k])⟩
theorem Grp.conj_of_comm {x y:List Int}(hx:Vec P.orders x) (hy:Vec P.orders y):rConj P x y=rMul P x (rMul P (rInv P (rMul P y x)) (rMul P x y)):=by
 unfold rConj;have c1:=G.mulV hx hy;rw[G.inv_mulR hy hx,G.ass (G.invV hx) (G.invV hy) c1,<-G.ass hx (G.invV hx) (G.mulV (G.invV hy) c1),G.mul_inv hx,G.grp.el _ (G.mulV (G.invV hy) c1)]
theorem Grp.comm_inv {x y:List Int}(hx:Vec P.orders x) (hy:Vec P.orders y):rInv P (rMul P (rInv P (rMul P x y)) (rMul P y x))=rMul P (rInv P (rMul P y x)) (rMul P x y):=by
 have c1:=G.mulV hx hy;have c2:=G.mulV hy hx;rw[G.inv_mulR (G.invV c1) c2,G.inv_inv c1]
structure Closed (P:Pr) (b:Nat->List Int) (R:List Int->Prop):Prop where
 tab:∀d,d<P.orders.length->b d≠[]->T P d (b d)/\gt (b d) d=1
 vec:∀q,R q->Vec P.orders q
 step:∀q,R q->q=zeros P.orders.length\/∃d,d<P.orders.length/\T P d q/\gt q d≠0/\b d≠[]/\∃q',R q'/\T P (d+1) q'/\∀K,Sub P K->K (b d)->K q'->K q
 pow:∀d,d<P.orders.length->b d≠[]->R (pw P (b d) (gt P.orders d).toNat)
 com:∀d e,d<e->e<P.orders.length->b d≠[]->b e≠[]->∃c,R c/\T P (d+1) c/\∀K,Sub P K->K (b e)->K c->K (rConj P (b e) (b d))
structure TailSub (P:Pr) (b:Nat->List Int) (R:List Int->Prop) (d:Nat) (K:List Int->Prop):Prop where
 sub:Sub P K
 deep:∀x,K x->T P d x
 mem:∀e,d<=e->e<P.orders.length->b e≠[]->K (b e)
 res:∀q,R q->T P d q->K q
 piv:∀x,K x->∀e,d<=e->e<P.orders.length->T P e x->gt x e≠0->b e≠[]
 min:∀K',Sub P K'->(∀e,d<=e->e<P.orders.length->b e≠[]->K' (b e))->∀x,K x->K' x
theorem Grp.conj_hom {x y z:List Int}(hx:Vec P.orders x) (hy:Vec P.orders y) (a:Vec P.orders z):rConj P (rMul P x y) z=rMul P (rConj P x z) (rConj P y z):=by
 unfold rConj;have b:=G.invV a;have c1:=G.mulV hx a;have c2:=G.mulV hy a;rw[G.ass b c1 (G.mulV b c2),G.ass hx a (G.mulV b c2),<-G.ass a b c2,G.mul_inv a,G.grp.el _ c2,G.ass hx hy a]
theorem Grp.tailSub {b:Nat->List Int}{R:List Int->Prop}(C:Closed P b R) (f:Nat):∀d,d+f=P.orders.length->∃K,TailSub P b R d K:=by
 induction f with
 | zero=>
  intro d hd;have:d=P.orders.length:=by omega
  subst this
  have M:Sub P (λx=>x=zeros P.orders.length):=by
   refine G.sub_of_mul (λx h=>by rw[h];exact G.oneV) rfl (λx y hx hy => ?_);rw[hx,hy];exact G.grp.el _ G.oneV
  exact⟨_,M,λx h=>by rw[h];exact T.zeros G.v _,λe a r=>by omega,λq _ E=>E.top G.v,λx _ e a r=>by omega,λK' S _ x hx=>by rw[hx];exact S.one⟩
 | succ f ih=>
  intro d hd;obtain⟨K',t⟩:=ih (d+1) (by omega);have p:d<P.orders.length:=by omega
  have N:=Nat.le_of_lt p;by_cases F:b d=[]
  ·refine ⟨K',t.sub,λx hx=>(t.deep x hx).down (Nat.le_succ d),λe a r m => ?_,λq E D => ?_,λx hx e a r D H => ?_,λV S h x hx=>t.min V S (λe a r m=>h e (by omega) r m) x hx⟩
   ·by_cases w:e=d
    ·subst w;exact absurd F m
    ·exact t.mem e (by omega) r m
   ·rcases C.step q E with h|⟨A,h1,I,h3,h4,_⟩
    ·rw[h];exact t.sub.one
    ·have W:d<=A:=by
      have:¬A<d:=λh=>h3 (D.2 A h);omega
     have aj:A≠d:=λe=>h4 (by rw[e];exact F);exact t.res q E (I.down (by omega))
   ·by_cases w:e=d
    ·subst w
     exact absurd ((t.deep x hx).2 e (by omega)) H
    ·exact t.piv x hx e (by omega) r D H
  ·obtain ⟨B,hb1⟩:=C.tab d p F
   have ho:=G.v.ord7 d p;have i:=B.1;-- conjugation by the new entry keeps K'
   have hN:Sub P (λy=>K' y/\K' (rConj P y (b d))):=by
    refine G.sub_of_mul (λx h=>t.sub.vec x h.1) ⟨t.sub.one,?_⟩ (λx y hx hy=>⟨t.sub.mul _ _ hx.1 hy.1,?_⟩)
    ·have:rConj P (zeros P.orders.length) (b d)=zeros P.orders.length:=by
      unfold rConj;rw[G.grp.el _ i,G.inv_mul i]
     rw[this];exact t.sub.one
    ·rw[G.conj_hom (t.sub.vec x hx.1) (t.sub.vec y hy.1) i];exact t.sub.mul _ _ hx.2 hy.2
   have X:∀y,K' y->K' (rConj P y (b d)):=λy hy=>(t.min _ hN (λe a r m=>by
    have hm:=t.mem e a r m;obtain⟨c,Y,Z,hc3⟩:=C.com d e (by omega) r F m;exact⟨hm,hc3 K' t.sub hm (t.res c Y Z)⟩) y hy).2
   have O:∀(k:Nat) y,K' y->K' (rMul P (rInv P (pw P (b d) k)) (rMul P y (pw P (b d) k))):=by
    intro k;induction k with
    | zero=>
     intro y hy;have H:rConj P y (zeros P.orders.length)=y:=G.conj_one (t.sub.vec y hy);show K' (rConj P y (zeros P.orders.length))
     rw[H];exact hy
    | succ k aa=>
     intro y hy;have h1:=X _ (aa y hy);have I:rConj P (rConj P y (pw P (b d) k)) (b d)=rConj P y (pw P (b d) (k+1)):=G.conj_mul (t.sub.vec y hy) (G.pw_vec i k) i;show K' (rConj P y (pw P (b d) (k+1)))
     rw[<-I];exact h1
   have hw:K' (pw P (b d) (gt P.orders d).toNat):=t.res _ (C.pow d p F) (G.pw_order p B)
   have hK:Sub P (λx=>∃k y,K' y/\x=rMul P (pw P (b d) k) y):=by
    refine G.sub_of_mul ?_ ⟨0,_,t.sub.one,(G.grp.el _ G.oneV).symm⟩ ?_
    ·rintro x ⟨k,y,hy,rfl⟩;exact G.mulV (G.pw_vec i k) (t.sub.vec y hy)
    ·rintro x x' ⟨k,y,hy,rfl⟩ ⟨l,z,hz,rfl⟩
     have J:=t.sub.vec y hy;have L:=t.sub.vec z hz;have pk:=G.pw_vec i k;have pl:=G.pw_vec i l;refine⟨k+l,_,t.sub.mul _ _ (O l y hy) hz,?_⟩;rw[G.pw_add i,G.ass pk J (G.mulV pl L),<-G.ass J pl L,G.ass (G.invV pl) (G.mulV J pl) L,G.ass pk pl (G.mulV (G.invV pl) (G.mulV (G.mulV J pl) L)),<-G.ass pl (G.invV pl) (G.mulV (G.mulV J pl) L),G.mul_inv pl,G.grp.el _ (G.mulV (G.mulV J pl) L)]
   have u:∀y,K' y->∃k z,K' z/\y=rMul P (pw P (b d) k) z:=λy hy=>⟨0,y,hy,(G.grp.el y (t.sub.vec y hy)).symm⟩;have Q:∃k z,K' z/\b d=rMul P (pw P (b d) k) z:=⟨1,_,t.sub.one,by rw[G.pw_one i,G.grp.er _ i]⟩;refine⟨_,hK,?_,λe a r m => ?_,λq E D => ?_,?_,?_⟩
   ·rintro x ⟨k,y,hy,rfl⟩
    exact G.T_mul N (G.pw_T N B k) ((t.deep y hy).down (Nat.le_succ d))
   ·by_cases w:e=d
    ·subst w;exact Q
    ·exact u _ (t.mem e (by omega) r m)
   ·rcases C.step q E with h|⟨A,h1,I,h3,h4,q',h5,h6,h7⟩
    ·rw[h];exact hK.one
    ·have W:d<=A:=by
      have:¬A<d:=λh=>h3 (D.2 A h);omega
     by_cases w:A=d
     ·subst w
      exact h7 _ hK Q (u q' (t.res q' h5 h6))
     ·exact u q (t.res q E (I.down (by omega)))
   ·rintro x ⟨k,y,hy,rfl⟩ e a r D H
    by_cases w:e=d
    ·rw[w];exact F
    ·have ac:=t.deep y hy
     have U:gt (rMul P (pw P (b d) k) y) d=0:=D.2 d (by omega);rw[(G.right (Nat.succ_le_of_lt p) (G.pw_vec i k) ac).1 d (by omega),G.pw_at p B,hb1,Int.mul_one] at U;-- the order divides k
     obtain ⟨j,hj⟩:∃j:Nat,k=(gt P.orders d).toNat*j:=by
      refine⟨k/(gt P.orders d).toNat,?_⟩
      have h1:((k%(gt P.orders d).toNat:Nat):Int)=0:=by
       rw[Int.natCast_emod,show(((gt P.orders d).toNat:Nat):Int)=gt P.orders d by omega];exact U
      have I:=Nat.div_add_mod k (gt P.orders d).toNat;omega
     have ad:K' (pw P (b d) k):=by rw[hj,G.pw_mul i];exact t.sub.pw hw j
     exact t.piv _ (t.sub.mul _ _ ad hy) e (by omega) r D H
   ·rintro V S h x ⟨k,y,hy,rfl⟩
    exact S.mul _ _ (S.pw (h d (Nat.le_refl d) p F) k) (t.min V S (λe a r m=>h e (by omega) r m) y hy)
structure Ind (P:Pr) (H:List Int->Prop) (b:Nat->List Int):Prop where
 sub:Sub P H
 mem:∀d,d<P.orders.length->b d≠[]->H (b d)/\T P d (b d)/\gt (b d) d=1
 piv:∀x,H x->∀d,d<P.orders.length->T P d x->gt x d≠0->b d≠[]
end
theorem depth_ex {P:Pr}{x:List Int}(hx:Vec P.orders x) (h:x≠zeros P.orders.length):∃d,d<P.orders.length/\T P d x/\gt x d≠0:=by
 have key:∀f d,d+f=P.orders.length->T P d x->∃d,d<P.orders.length/\T P d x/\gt x d≠0:=by
  intro f;induction f with
  | zero=>
   intro d e a;exfalso;apply h
   have:d=P.orders.length:=by omega
   subst this
   exact ext_gt (by rw[hx.1];simp[zeros]) (λk hk=>by
    rw[hx.1] at hk;rw[a.2 k hk];exact(gt_replicate _ _).symm)
  | succ f i=>
   intro d e a;by_cases b:gt x d=0
   ·exact i (d+1) (by omega) (a.up b)
   ·exact⟨d,by omega,a,b⟩
 exact key P.orders.length 0 (by omega) (T_zero.2 hx)
structure Red (P:Pr) (H:List Int->Prop) (r:Nat->List Int):Prop extends Ind P H r where
 red:∀d e,d<e->e<P.orders.length->r d≠[]->r e≠[]->gt (r d) e=0
def seqOf (n:Nat) (r:Nat->List Int):List (List Int):=(List.range n).filterMap (λd=>if r d=[] then none else some (r d))
section
variable {P:Pr}(G:Grp P)
include G
def Rep (P:Pr) (H:List Int->Prop) (r:Nat->List Int) (x y:List Int):Prop:=Vec P.orders y/\H (rMul P (rInv P x) y)/\∀e,e<P.orders.length->r e≠[]->gt y e=0
theorem Grp.coset_one {H:List Int->Prop}{b:Nat->List Int}(I:Ind P H b) {x y:List Int}(hx:Vec P.orders x) (hy:Vec P.orders y) (h:H (rMul P (rInv P x) y))
  (j:∀e,e<P.orders.length->b e≠[]->gt x e=0) (k:∀e,e<P.orders.length->b e≠[]->gt y e=0):x=y:=by
 have l:=G.invV hx;have m:rMul P x (rMul P (rInv P x) y)=y:=by rw[<-G.ass hx l hy,G.mul_inv hx,G.grp.el _ hy]
 by_cases q:rMul P (rInv P x) y=zeros P.orders.length
 ·rw[q,G.grp.er _ hx] at m;exact m
 ·exfalso
  have i:=I.sub.vec _ h;obtain⟨e,a,r,h0⟩:=depth_ex i q;have u:=I.piv _ h e a r h0;have p:=(G.right (Nat.le_of_lt a) hx r).2 a;rw[m,j e a u,k e a u,Int.zero_add] at p;have w:=i.2 e a;rw[Int.emod_eq_of_lt w.1 w.2] at p;exact h0 p.symm
theorem Grp.rep_one {H:List Int->Prop}{b:Nat->List Int}(I:Ind P H b) {x y i:List Int}(hx:Vec P.orders x) (h:Rep P H b x y) (a:Rep P H b x i):y=i:=by
 refine G.coset_one I h.1 a.1 ?_ h.2.2 a.2.2;have j:=G.invV hx;have k:=G.invV h.1
 have e:rMul P (rInv P y) i=rMul P (rInv P (rMul P (rInv P x) y)) (rMul P (rInv P x) i):=by
  rw[G.inv_mulR j h.1,G.inv_inv hx,G.ass k hx (G.mulV j a.1),<-G.ass hx j a.1,G.mul_inv hx,G.grp.el _ a.1]
 rw[e];exact I.sub.mul _ _ (I.sub.inv _ h.2.1) a.2.1
theorem Grp.red_one {H:List Int->Prop}{r i:Nat->List Int}(A:Red P H r) (B:Red P H i):∀d,d<P.orders.length->r d=i d:=by
 intro d j
 have a:∀ {s C:Nat->List Int},Ind P H s->Ind P H C->∀e,e<P.orders.length->s e≠[]->C e≠[]:=λI J e b h=>by
  obtain⟨h1,k,K⟩:=I.mem e b h;exact J.piv _ h1 e b k (by rw[K];decide)
 by_cases h:r d=[]
 ·by_cases l:i d=[]
  ·rw[h,l]
  ·exact absurd h (a B.toInd A.toInd d j l)
 ·have l:=a A.toInd B.toInd d j h
  obtain⟨a1,a2,L⟩:=A.mem d j h;obtain⟨b1,b2,b3⟩:=B.mem d j l;-- the quotient lies deeper; compare by representatives
  have q:=G.diff j a2 b2 (by rw[L,b3]);have u:=A.sub.mul _ _ (A.sub.inv _ a1) b1;have w:=G.invV a2.1;have y:rMul P (r d) (rMul P (rInv P (r d)) (i d))=i d:=by rw[<-G.ass a2.1 w b2.1,G.mul_inv a2.1,G.grp.el _ b2.1]
  by_cases m:rMul P (rInv P (r d)) (i d)=zeros P.orders.length
  ·rw[m,G.grp.er _ a2.1] at y;exact y
  ·exfalso
   obtain⟨e,b,D,h0⟩:=depth_ex q.1 m
   have p:d<e:=by
    have:¬e<d+1:=λh=>h0 (q.2 e h);omega
   have E:=A.piv _ u e b D h0;have z:=a A.toInd B.toInd e b E;have k:=(G.right (Nat.le_of_lt b) a2.1 D).2 b;rw[y,A.red d e p b h E,B.red d e p b l z,Int.zero_add] at k;have F:=q.1.2 e b;rw[Int.emod_eq_of_lt F.1 F.2] at k;exact h0 k.symm
omit G in
theorem seqOf_congr {n:Nat}{r a:Nat->List Int}(h:∀d,d<n->r d=a d):seqOf n r=seqOf n a:=by
 unfold seqOf;induction n with
 | zero=>rfl
 | succ n b=>
  have e:=h n (by omega);rw[List.range_succ,List.filterMap_append,List.filterMap_append,b (λd i=>h d (by omega))];simp only[List.filterMap_cons,List.filterMap_nil,e]
theorem Grp.seq_one {H:List Int->Prop}{r a:Nat->List Int}(A:Red P H r) (B:Red P H a):seqOf P.orders.length r=seqOf P.orders.length a:=
 seqOf_congr (G.red_one A B)
end
def genP (P:Pr) (Q:List Int->Prop) (x:List Int):Prop:=∀H,Sub P H->(∀y,Q y->H y)->H x
structure AddInv (P:Pr) (Q:List Int->Prop) (b:Nat->List Int) (q:List (List Int)) (R:List Int->Prop):Prop where
 tab:∀d,d<P.orders.length->b d≠[]->R (b d)/\T P d (b d)/\gt (b d) d=1
 vec:∀x,R x->Vec P.orders x
 que:∀x∈q,R x
 src:∀x,Q x->R x
 step:∀x,R x->x=zeros P.orders.length\/x∈q\/∃d,d<P.orders.length/\T P d x/\gt x d≠0/\b d≠[]/\∃x',R x'/\T P (d+1) x'/\∀K,Sub P K->K (b d)->K x'->K x
 pow:∀d,d<P.orders.length->b d≠[]->R (pw P (b d) (gt P.orders d).toNat)
 com:∀d e,d<e->e<P.orders.length->b d≠[]->b e≠[]->∃c,R c/\T P (d+1) c/\∀K,Sub P K->K (b e)->K c->K (rConj P (b e) (b d))
 gen:∀x,R x->genP P Q x
section
variable {P:Pr}(G:Grp P)
include G
theorem Grp.genP_sub {Q:List Int->Prop}(a:∀y,Q y->Vec P.orders y):Sub P (genP P Q):=
 ⟨λ_ h=>h _ G.sub_all a,λ_ S _=>S.one,λ_ _ h k _ S hH=>S.mul _ _ (h _ S hH) (k _ S hH),λ_ h _ S hH=>S.inv _ (h _ S hH)⟩
omit G in
theorem genP_mem {Q:List Int->Prop}{y:List Int}(hy:Q y):genP P Q y:=λ_ _ hH=>hH y hy
omit G in
theorem genP_le {Q:List Int->Prop}{H:List Int->Prop}(S:Sub P H) (h:∀y,Q y->H y) {x:List Int}(hx:genP P Q x):H x:=hx _ S h
theorem Grp.addInv_start {H:List Int->Prop}{b:Nat->List Int}(I:Ind P H b) {list:List (List Int)}(B:∀x∈list,Vec P.orders x) :
  AddInv P (λx=>H x\/x∈list) b list (λx=>H x\/x∈list):=by
 have S:=I.sub;refine⟨λd a k => ?_,?_,λx hx => .inr hx,λx hx=>hx,?_,λd a k => .inl (S.pw (I.mem d a k).1 _),λd e C D q r => ?_,λx hx=>genP_mem hx⟩
 ·obtain ⟨h1,l,u⟩:=I.mem d a k
  exact⟨.inl h1,l,u⟩
 ·rintro x (h|h)
  ·exact S.vec x h
  ·exact B x h
 ·rintro x (h|h)
  ·by_cases y:x=zeros P.orders.length
   ·exact .inl y
   ·obtain ⟨d,a,j,hx0⟩:=depth_ex (S.vec x h) y
    have k:=I.piv x h d a j hx0;obtain⟨p,i,m3⟩:=I.mem d a k;have F:=G.v.ord7 d a;have E:=j.1.2 d a;refine .inr (.inr ⟨d,a,j,hx0,k,rMul P (pw P (b d) (gt P.orders d-gt x d).toNat) x,.inl (S.mul _ _ (S.pw p _) h),?_,λK m h1 l => ?_⟩)
    ·refine (G.T_mul (Nat.le_of_lt a) (G.pw_T (Nat.le_of_lt a) i _) j).up ?_
     rw[(G.right (Nat.le_of_lt a) (G.pw_vec i.1 _) j).2 a,G.pw_at a i,m3,Int.mul_one,Int.emod_add_emod,show(((gt P.orders d-gt x d).toNat:Nat):Int)+gt x d=gt P.orders d by omega,Int.emod_self]
    ·have u:=m.mul _ _ (m.inv _ (m.pw h1 (gt P.orders d-gt x d).toNat)) l
     rwa [<-G.ass (G.invV (G.pw_vec i.1 _)) (G.pw_vec i.1 _) j.1,G.inv_mul (G.pw_vec i.1 _),G.grp.el _ j.1] at u
  ·exact .inr (.inl h)
 ·obtain ⟨p,i,m3⟩:=I.mem d (by omega) q
  obtain⟨z,A,k3⟩:=I.mem e D r;have w:=A.down (show d+1<=e by omega);refine⟨_,.inl (S.mul _ _ (S.inv _ (S.mul _ _ p z)) (S.mul _ _ z p)),(G.comm_deep (by omega) i w).2,λK m h1 l => ?_⟩;rw[G.conj_of_comm A.1 i.1];exact m.mul _ _ h1 l
omit G in
theorem addInv_sift {Q:List Int->Prop}{b:Nat->List Int}{q:List (List Int)}{R:List Int->Prop}{y j:List Int}(A:AddInv P Q b (y :: q) R) {d:Nat}(r:d<P.orders.length) (z:T P d y) (B:gt y d≠0) (u:b d≠[])
  (l:T P (d+1) j) (C:∀K,Sub P K->K (b d)->K j->K y) (m:∀K,Sub P K->K (b d)->K y->K j):AddInv P Q b (j :: q) (λx=>R x\/x=j):=by
 refine⟨λe k a=>⟨.inl (A.tab e k a).1,(A.tab e k a).2⟩,?_,?_,λx hx => .inl (A.src x hx),?_,λe k a => .inl (A.pow e k a),λd e p k h1 i => ?_,?_⟩
 ·rintro x (h|h)
  ·exact A.vec x h
  ·rw[h];exact l.1
 ·intro x hx
  rcases List.mem_cons.1 hx with h|h
  ·exact .inr h
  ·exact .inl (A.que x (List.mem_cons_of_mem _ h))
 ·rintro x (h|h)
  ·rcases A.step x h with h1|h1|⟨e,i,h3,h4,h5,x',h6,h7,h8⟩
   ·exact .inl h1
   ·rcases List.mem_cons.1 h1 with i|i
    ·rw[i];exact .inr (.inr ⟨d,r,z,B,u,j,.inr rfl,l,C⟩)
    ·exact .inr (.inl (List.mem_cons_of_mem _ i))
   ·exact .inr (.inr ⟨e,i,h3,h4,h5,x',.inl h6,h7,h8⟩)
  ·exact .inr (.inl (by rw[h];exact List.mem_cons_self))
 ·obtain ⟨c,c1,c2⟩:=A.com d e p k h1 i
  exact⟨c,.inl c1,c2⟩
 ·rintro x (h|h)
  ·exact A.gen x h
  ·rw [h]
   intro K S w;exact m K S (A.gen _ (A.tab d r u).1 K S w) (A.gen _ (A.que y List.mem_cons_self) K S w)
omit G in
theorem addInv_drop {Q:List Int->Prop}{b:Nat->List Int}{q:List (List Int)}{R:List Int->Prop}{y:List Int}(A:AddInv P Q b (y :: q) R) (hy:y=zeros P.orders.length):AddInv P Q b q R:=by
 refine⟨A.tab,A.vec,λx hx=>A.que x (List.mem_cons_of_mem _ hx),A.src,λx hx => ?_,A.pow,A.com,A.gen⟩;rcases A.step x hx with h1|h1|h1
 ·exact .inl h1
 ·rcases List.mem_cons.1 h1 with a|a
  ·exact .inl (a.trans hy)
  ·exact .inr (.inl a)
 ·exact .inr (.inr h1)
theorem Grp.addInv_insert {Q:List Int->Prop}{b H:Nat->List Int}{q q':List (List Int)}{R:List Int->Prop}{y z:List Int}(A:AddInv P Q b (y :: q) R) {d:Nat}(W:d<P.orders.length) (hT:T P d y) (hb:b d=[])
  (U:T P d z) (X:gt z d=1) (Y:∀K,Sub P K->K y->K z) (C:∀e,e<P.orders.length->H e=if e=d then z else b e)
  (ae:∀x∈q',x∈q\/x=y\/x=z\/x=pw P z (gt P.orders d).toNat\/∃e,e<P.orders.length/\b e≠[]/\(x=rMul P (rInv P (rMul P z (b e))) (rMul P (b e) z)\/x=rMul P (rInv P (rMul P (b e) z)) (rMul P z (b e))))
  (D:∀x,x∈q\/x=y\/x=pw P z (gt P.orders d).toNat->x∈q')
  (Z:∀e,e<P.orders.length->b e≠[]->rMul P (rInv P (rMul P z (b e))) (rMul P (b e) z)∈q'\/rMul P (rInv P (rMul P (b e) z)) (rMul P z (b e))∈q') :
  AddInv P Q H q' (λx=>R x\/x=z\/x∈q'):=by
 have ho:=G.v.ord7 d W;have a:=U.1
 have I:∀e,e<P.orders.length->b e≠[]->H e=b e:=λe m i=>by
  rw[C e m,if_neg (λh=>i (by rw[h];exact hb))]
 have j:∀e,e<P.orders.length->H e≠[]->(e=d/\H e=z)\/(e≠d/\b e≠[]/\H e=b e):=λe m i=>by
  by_cases h:e=d
  ·exact .inl ⟨h,by rw[C e m,if_pos h]⟩
  ·have k:H e=b e:=by rw[C e m,if_neg h]
   exact .inr ⟨h,by rw[<-k];exact i,k⟩
 have J:H d=z:=by rw[C d W,if_pos rfl]
 have aa:z≠[]:=by
  intro h;have:=a.1;rw[h] at this;simp at this;omega
 have ab:∀x∈q',Vec P.orders x/\genP P Q x:=by
  have ac:=A.gen y (A.que y List.mem_cons_self);have l:genP P Q z:=λK S p=>Y K S (ac K S p);intro x hx;rcases ae x hx with h|h|h|h|⟨e,m,i,h|h⟩
  ·have:=A.que x (List.mem_cons_of_mem _ h);exact⟨A.vec x this,A.gen x this⟩
  ·rw[h];exact⟨hT.1,ac⟩
  ·rw[h];exact⟨a,l⟩
  ·rw[h];exact⟨G.pw_vec a _,λK S p=>S.pw (l K S p) _⟩
  ·have r:=(A.tab e m i).2.1.1
   have u:=A.gen _ (A.tab e m i).1;rw[h];exact⟨G.mulV (G.invV (G.mulV a r)) (G.mulV r a),λK S p=>S.mul _ _ (S.inv _ (S.mul _ _ (l K S p) (u K S p))) (S.mul _ _ (u K S p) (l K S p))⟩
  ·have r:=(A.tab e m i).2.1.1
   have u:=A.gen _ (A.tab e m i).1;rw[h];exact⟨G.mulV (G.invV (G.mulV r a)) (G.mulV a r),λK S p=>S.mul _ _ (S.inv _ (S.mul _ _ (u K S p) (l K S p))) (S.mul _ _ (l K S p) (u K S p))⟩
 have af:T P (d+1) (pw P z (gt P.orders d).toNat):=G.pw_order W U;refine⟨λe m i => ?_,?_,λx hx => .inr (.inr hx),λx hx => .inl (A.src x hx),?_,λe m i => ?_,λV L ag w h1 k => ?_,?_⟩
 ·rcases j e m i with⟨h1,k⟩|⟨h1,k,h3⟩
  ·subst h1;rw[k];exact⟨.inr (.inl rfl),U,X⟩
  ·rw[h3];exact⟨.inl (A.tab e m k).1,(A.tab e m k).2⟩
 ·rintro x (h|h|h)
  ·exact A.vec x h
  ·rw[h];exact a
  ·exact(ab x h).1
 ·rintro x (h|h|h)
  ·rcases A.step x h with h1|h1|⟨e,k,h3,h4,h5,x',h6,h7,h8⟩
   ·exact .inl h1
   ·rcases List.mem_cons.1 h1 with k|k
    ·exact .inr (.inl (D x (.inr (.inl k))))
    ·exact .inr (.inl (D x (.inl k)))
   ·refine .inr (.inr ⟨e,k,h3,h4,by rw[I e k h5];exact h5,x',.inl h6,h7,?_⟩)
    rw[I e k h5];exact h8
  ·-- the new entry itself: its power with the order, times its inverse
   subst h;refine .inr (.inr ⟨d,W,U,by rw[X];decide,by rw[J];exact aa,pw P x (gt P.orders d).toNat,.inr (.inr (D _ (.inr (.inr rfl)))),af,λK _ hk _=>by rw[J] at hk;exact hk⟩)
  ·exact .inr (.inl h)
 ·rcases j e m i with⟨h1,k⟩|⟨h1,k,h3⟩
  ·subst h1;rw[k];exact .inr (.inr (D _ (.inr (.inr rfl))))
  ·rw[h3];exact .inl (A.pow e m k)
 ·rcases j V (by omega) h1 with⟨a1,a2⟩|⟨a1,a2,a3⟩
  ·rcases j L w k with⟨b1,b2⟩|⟨b1,b2,b3⟩
   ·omega
   ·subst a1
    rw[a2,b3];obtain⟨k1,E,k3⟩:=A.tab L w b2;have ai:=E.down (show V+1<=L by omega);have B:=G.comm_deep W U ai;rcases Z L w b2 with M|M
    ·refine ⟨_,.inr (.inr M),B.2,λK F N O => ?_⟩
     rw[G.conj_of_comm E.1 a];exact F.mul _ _ N O
    ·refine ⟨_,.inr (.inr M),B.1,λK F N O => ?_⟩
     rw[G.conj_of_comm E.1 a,<-G.comm_inv E.1 a];exact F.mul _ _ N (F.inv _ O)
  ·rcases j L w k with⟨b1,b2⟩|⟨b1,b2,b3⟩
   ·subst b1
    rw[a3,b2];obtain⟨k1,E,k3⟩:=A.tab V (by omega) a2;have aj:=U.down (show V+1<=L by omega);have B:=G.comm_deep (by omega) E aj;rcases Z V (by omega) a2 with M|M
    ·refine ⟨_,.inr (.inr M),B.1,λK F N O => ?_⟩
     rw[G.conj_of_comm a E.1,<-G.comm_inv a E.1];exact F.mul _ _ N (F.inv _ O)
    ·refine ⟨_,.inr (.inr M),B.2,λK F N O => ?_⟩
     rw[G.conj_of_comm a E.1];exact F.mul _ _ N O
   ·rw [a3,b3]
    obtain⟨c,c1,c2⟩:=A.com V L ag w a2 b2;exact⟨c,.inl c1,c2⟩
 ·rintro x (h|h|h)
  ·exact A.gen x h
  ·rw[h];intro K S p;exact Y K S (A.gen _ (A.que y List.mem_cons_self) K S p)
  ·exact(ab x h).2
theorem Grp.addInv_end {Q:List Int->Prop}{b:Nat->List Int}{R:List Int->Prop}(A:AddInv P Q b [] R):Ind P (genP P Q) b:=by
 have C:Closed P b R:=by
  refine⟨λd a k=>(A.tab d a k).2,A.vec,λq l => ?_,A.pow,A.com⟩;rcases A.step q l with h|h|h
  ·exact .inl h
  ·cases h
  ·exact .inr h
 obtain⟨K,t⟩:=G.tailSub C P.orders.length 0 (by omega);have i:=G.genP_sub (Q:=Q) (λy hy=>A.vec y (A.src y hy));have j:∀x,genP P Q x->K x:=λx hx=>genP_le t.sub (λy hy=>t.res y (A.src y hy) (T_zero.2 (A.vec y (A.src y hy)))) hx;exact⟨i,λd a e=>⟨A.gen _ (A.tab d a e).1,(A.tab d a e).2⟩,λx hx d a m p=>t.piv x (j x hx) d (by omega) a m p⟩
end
def dep (x:List Int):Nat:=x.findIdx (λe=>e != 0)
theorem dep_le (x:List Int):dep x<=x.length:=List.findIdx_le_length
theorem dep_zero {x:List Int}{k:Nat}(h:k<dep x):gt x k=0:=by
 have a:k<x.length:=Nat.lt_of_lt_of_le h (dep_le x);have:=List.not_of_lt_findIdx h;rw[gt_eq x k a];simpa using this
theorem dep_ne {x:List Int}(h:dep x<x.length):gt x (dep x)≠0:=by
 have a:=List.findIdx_getElem (xs:=x) (p:=λe=>e != 0) (w:=h);rw[gt_eq x _ h];show ¬(x[List.findIdx (λe=>e != 0) x]=0)
 simpa using a
theorem dep_eq {x:List Int}{d:Nat}(e:d<x.length) (a:∀k,k<d->gt x k=0) (b:gt x d≠0):dep x=d:=by
 rcases Nat.lt_trichotomy (dep x) d with h|h|h
 ·exact absurd (a _ h) (dep_ne (by omega))
 ·exact h
 ·exact absurd (dep_zero h) b
theorem dep_T {P:Pr}{x:List Int}(hx:Vec P.orders x):T P (dep x) x:=⟨hx,λ_ hk=>dep_zero hk⟩
theorem dep_top {P:Pr}{x:List Int}(hP:Valid P) (hx:Vec P.orders x):dep x=P.orders.length↔x=zeros P.orders.length:=by
 constructor
 ·intro h
  have:=dep_T hx;rw[h] at this;exact this.top hP
 ·intro h
  rcases Nat.lt_or_ge (dep x) x.length with h1|h1
  ·exfalso
   apply dep_ne h1;have:∀k,gt (zeros P.orders.length) k=0:=λk=>gt_replicate _ _;rw[h];exact this _
  ·have:=dep_le x
   rw[<-hx.1];omega
theorem dep_lead {P:Pr}{x:List Int}{d:Nat}(b:d<P.orders.length) (a:T P d x) (e:gt x d≠0):dep x=d:=dep_eq (by rw[a.1.1];exact b) a.2 e
section
variable {P:Pr}(G:Grp P)
include G
theorem Grp.clear {d:Nat}(a:d<P.orders.length) {x z:List Int}(hx:Vec P.orders x) (e:T P d z) (b:gt z d=1) (k:Nat) (hk:((k:Int)+gt x d)%gt P.orders d=0) :
  gt (rMul P x (pw P z k)) d=0/\∀j,j<d->gt (rMul P x (pw P z k)) j=gt x j:=by
 have i:=G.pw_T (Nat.le_of_lt a) e k;have h:=G.right (Nat.le_of_lt a) hx i;refine⟨?_,h.1⟩;rw[h.2 a,G.pw_at a e,b,Int.mul_one,Int.add_emod_emod,Int.add_comm];exact hk
theorem Grp.rep_from {H:List Int->Prop}{b:Nat->List Int}(I:Ind P H b) (f:Nat):∀d x,d+f=P.orders.length->Vec P.orders x->∃y h,H h/\T P d h/\y=rMul P x h/\Vec P.orders y/\∀e,d<=e->e<P.orders.length->b e≠[]->gt y e=0:=by
 induction f with
 | zero=>
  intro d x A hx;exact⟨x,_,I.sub.one,T.zeros G.v d,(G.grp.er x hx).symm,hx,λe a m=>by omega⟩
 | succ f w=>
  intro d x A hx;have i:d<P.orders.length:=by omega
  by_cases z:b d=[]
  ·obtain ⟨y,h,h1,l,p,h4,h5⟩:=w (d+1) x (by omega) hx
   refine⟨y,h,h1,l.down (Nat.le_succ d),p,h4,λe a m j => ?_⟩;by_cases q:e=d
   ·subst q;exact absurd z j
   ·exact h5 e (by omega) m j
  ·obtain ⟨B,r,m3⟩:=I.mem d i z
   have E:=G.v.ord7 d i;have C:=hx.2 d i;have k:=G.pw_vec r.1 (gt P.orders d-gt x d).toNat;have u:=G.pw_T (Nat.le_of_lt i) r (gt P.orders d-gt x d).toNat
   have D:=G.clear i hx r m3 (gt P.orders d-gt x d).toNat (by
    rw[show(((gt P.orders d-gt x d).toNat:Nat):Int)+gt x d=gt P.orders d by omega,Int.emod_self])
   obtain⟨y,h,h1,l,p,h4,h5⟩:=w (d+1) _ (by omega) (G.mulV hx k);refine⟨y,rMul P (pw P (b d) (gt P.orders d-gt x d).toNat) h,I.sub.mul _ _ (I.sub.pw B _) h1,G.T_mul (Nat.le_of_lt i) u (l.down (Nat.le_succ d)),?_,h4,λe a m j => ?_⟩
   ·rw[p,G.ass hx k l.1]
   ·by_cases q:e=d
    ·subst q
     rw[p,(G.right (Nat.succ_le_of_lt i) (G.mulV hx k) l).1 e (by omega)];exact D.1
    ·exact h5 e (by omega) m j
theorem Grp.red_of_ind {H:List Int->Prop}{b:Nat->List Int}(I:Ind P H b):∃r,Red P H r:=by
 have key:∀d,∃y,(b d=[]->y=[])/\(d<P.orders.length->b d≠[]->y≠[]/\H y/\T P d y/\gt y d=1/\∀e,d<e->e<P.orders.length->b e≠[]->gt y e=0):=by
  intro d;by_cases j:b d=[]
  ·exact⟨[],λ_=>rfl,λ_ h=>absurd j h⟩
  ·by_cases i:d<P.orders.length
   ·obtain ⟨z,l,m3⟩:=I.mem d i j
    obtain⟨y,h,h1,k,m,h4,h5⟩:=G.rep_from I (P.orders.length-(d+1)) (d+1) (b d) (by omega) l.1;have p:T P d y:=by rw[m];exact G.T_mul (Nat.le_of_lt i) l (k.down (Nat.le_succ d))
    refine⟨y,λh=>absurd h j,λ_ _=>⟨?_,?_,p,?_,λe a A q=>h5 e (by omega) A q⟩⟩
    ·intro e
     have:=h4.1;rw[e] at this;simp at this;omega
    ·rw[m];exact I.sub.mul _ _ z h1
    ·rw[m,(G.right (Nat.succ_le_of_lt i) l.1 k).1 d (by omega)];exact m3
   ·exact⟨[],λ_=>rfl,λh=>absurd h i⟩
 have hex:=λd=>key d;refine⟨λd=>Classical.choose (hex d),⟨⟨I.sub,λd i B => ?_,λx hx d i C D => ?_⟩,λd e u E h1 k => ?_⟩⟩
 ·have s:=Classical.choose_spec (hex d)
  have j:b d≠[]:=λh=>B (s.1 h);have:=s.2 i j;exact⟨this.2.1,this.2.2.1,this.2.2.2.1⟩
 ·have s:=Classical.choose_spec (hex d)
  exact(s.2 i (I.piv x hx d i C D)).1
 ·have s:=Classical.choose_spec (hex d)
  have F:=Classical.choose_spec (hex e);have j:b d≠[]:=λh=>h1 (s.1 h);have w:b e≠[]:=λh=>k (F.1 h);exact(s.2 (by omega) j).2.2.2.2 e u E w
omit G in
theorem unit_ex {o a:Int}(b:o=2\/o=3\/o=5\/o=7) (ha:0<a) (e:a<o):∃k:Nat,((k:Int)*a)%o=1:=by
 rcases b with rfl|rfl|rfl|rfl
 ·exact⟨1,by have:a=1:=(by omega);subst this;rfl⟩
 ·rcases (show a=1\/a=2 by omega) with rfl|rfl
  ·exact⟨1,rfl⟩
  ·exact⟨2,rfl⟩
 ·rcases (show a=1\/a=2\/a=3\/a=4 by omega) with rfl|rfl|rfl|rfl
  ·exact⟨1,rfl⟩
  ·exact⟨3,rfl⟩
  ·exact⟨2,rfl⟩
  ·exact⟨4,rfl⟩
 ·rcases (show a=1\/a=2\/a=3\/a=4\/a=5\/a=6 by omega) with rfl|rfl|rfl|rfl|rfl|rfl
  ·exact⟨1,rfl⟩
  ·exact⟨4,rfl⟩
  ·exact⟨5,rfl⟩
  ·exact⟨2,rfl⟩
  ·exact⟨3,rfl⟩
  ·exact⟨6,rfl⟩
open Classical in
theorem Grp.ind_ex {H:List Int->Prop}(S:Sub P H):∃b,Ind P H b:=by
 refine⟨λd=>if h:∃y,d<P.orders.length/\H y/\T P d y/\gt y d=1 then Classical.choose h else [],S,λd _ i => ?_,λx hx d a j p => ?_⟩
 ·by_cases h:∃y,d<P.orders.length/\H y/\T P d y/\gt y d=1
  ·simp only[dif_pos h] at i ⊢
   exact(Classical.choose_spec h).2
  ·simp only[dif_neg h] at i;exact absurd rfl i
 ·have l:=j.1.2 d a
  obtain⟨k,hk⟩:=unit_ex (G.v.ord d a) (by omega) l.2;have h:∃y,d<P.orders.length/\H y/\T P d y/\gt y d=1:=⟨pw P x k,a,S.pw hx k,G.pw_T (Nat.le_of_lt a) j k,by rw[G.pw_at a j];exact hk⟩;simp only[dif_pos h];have m:=(Classical.choose_spec h).2.2.1.1.1;intro e;rw[e] at m;simp at m;omega
open Classical in
noncomputable def cseq (P:Pr) (H:List Int->Prop):List (List Int):=if h:∃r,Red P H r then seqOf P.orders.length (Classical.choose h) else []
theorem Grp.cseq_red {H:List Int->Prop}{r:Nat->List Int}(A:Red P H r):cseq P H=seqOf P.orders.length r:=by
 unfold cseq;have h:∃r,Red P H r:=⟨r,A⟩;rw[dif_pos h];exact G.seq_one (Classical.choose_spec h) A
theorem Grp.cseq_spec {H:List Int->Prop}(S:Sub P H):∃r,Red P H r/\cseq P H=seqOf P.orders.length r:=by
 obtain⟨b,I⟩:=G.ind_ex S;obtain⟨r,A⟩:=G.red_of_ind I;exact⟨r,A,G.cseq_red A⟩
end
/-! ### a sequence as a list -/
section
variable {P:Pr}(G:Grp P)
include G
theorem Grp.left_clear {d:Nat}(b:d<P.orders.length) {x t:List Int}(hx:T P d x) (j:T P d t) (e:gt t d=1) :
  T P (d+1) (rMul P (pw P t (gt P.orders d-gt x d).toNat) x)/\∀K,Sub P K->K t->(K (rMul P (pw P t (gt P.orders d-gt x d).toNat) x)↔K x):=by
 have m:=G.v.ord7 d b;have k:=hx.1.2 d b;have a:=G.pw_T (Nat.le_of_lt b) j (gt P.orders d-gt x d).toNat;refine⟨?_,λK S h1=>⟨λi => ?_,λi=>S.mul _ _ (S.pw h1 _) i⟩⟩
 ·refine (G.T_mul (Nat.le_of_lt b) a hx).up ?_
  rw[(G.right (Nat.le_of_lt b) a.1 hx).2 b,G.pw_at b j,e,Int.mul_one,Int.emod_add_emod,show(((gt P.orders d-gt x d).toNat:Nat):Int)+gt x d=gt P.orders d by omega,Int.emod_self]
 ·have l:=S.mul _ _ (S.inv _ (S.pw h1 (gt P.orders d-gt x d).toNat)) i
  rwa [<-G.ass (G.invV a.1) a.1 hx.1,G.inv_mul a.1,G.grp.el _ hx.1] at l
def pwZ (P:Pr) (x:List Int) (k:Int):List Int:=if k<0 then pw P (rInv P x) (-k).toNat else pw P x k.toNat
theorem Grp.pwZ_vec {x:List Int}(hx:Vec P.orders x) (k:Int):Vec P.orders (pwZ P x k):=by
 unfold pwZ;split
 ·exact G.pw_vec (G.invV hx) _
 ·exact G.pw_vec hx _
omit G in
theorem Sub.pwZ {H:List Int->Prop}(S:Sub P H) {x:List Int}(hx:H x) (k:Int):H (Go.Proofs.YtoakmefajbbggaaGreat.pwZ P x k):=by
 unfold Go.Proofs.YtoakmefajbbggaaGreat.pwZ;split
 ·exact S.pw (S.inv _ hx) _
 ·exact S.pw hx _
theorem Grp.pwZ_T {x:List Int}{d:Nat}(a:d<=P.orders.length) (hx:T P d x) (k:Int):T P d (pwZ P x k):=by
 unfold pwZ;split
 ·exact G.pw_T a (G.T_inv a hx) _
 ·exact G.pw_T a hx _
theorem Grp.inv_at {x:List Int}{d:Nat}(a:d<P.orders.length) (hx:T P d x):(gt (rInv P x) d+gt x d)%gt P.orders d=0:=by
 have b:=G.T_inv (Nat.le_of_lt a) hx;have h:=(G.right (Nat.le_of_lt a) b.1 hx).2 a;rw[G.inv_mul hx.1] at h;have e:gt (zeros P.orders.length) d=0:=gt_replicate _ _;rw[<-h,e]
theorem Grp.right_clear {d:Nat}(a:d<P.orders.length) {x t:List Int}(hx:Vec P.orders x) (i:T P d t) (j:gt t d=1) :
  gt (rMul P x (pwZ P t (-(gt x d)))) d=0/\(∀k,k<d->gt (rMul P x (pwZ P t (-(gt x d)))) k=gt x k)/\Vec P.orders (rMul P x (pwZ P t (-(gt x d)))):=by
 have y:=G.v.ord7 d a;have p:=hx.2 d a;have b:=G.pwZ_T (Nat.le_of_lt a) i (-(gt x d));have h:=G.right (Nat.le_of_lt a) hx b;refine⟨?_,h.1,G.mulV hx b.1⟩;rw[h.2 a];by_cases l:gt x d=0
 ·have:pwZ P t (-(gt x d))=zeros P.orders.length:=by
   unfold pwZ;rw[l];simp;rfl
  have q:gt (zeros P.orders.length) d=0:=gt_replicate _ _;rw[this,q,l];simp
 ·have e:pwZ P t (-(gt x d))=pw P (rInv P t) (gt x d).toNat:=by
   unfold pwZ;rw[if_pos (by omega),Int.neg_neg]
  rw[e,G.pw_at a (G.T_inv (Nat.le_of_lt a) i)];have m:=G.inv_at a i;rw[j] at m;have r:=(G.invV i.1).2 d a;-- the inverse's entry is one less than the order
  have u:gt (rInv P t) d=gt P.orders d-1:=by
   by_cases h1:gt (rInv P t) d+1<gt P.orders d
   ·rw[Int.emod_eq_of_lt (by omega) h1] at m;omega
   ·omega
  rw[u,show(((gt x d).toNat:Nat):Int)=gt x d by omega,Int.add_emod_emod];have w:gt x d+gt x d*(gt P.orders d-1)=gt x d*gt P.orders d:=by rw[Int.mul_sub,Int.mul_one];omega
  rw[w,Int.mul_emod_left]
theorem Grp.lead_one {d:Nat}(a:d<P.orders.length) {x:List Int}(hx:T P d x) (k:Int) (b:0<=k) (hk:(k*gt x d)%gt P.orders d=1):T P d (pw P x k.toNat)/\gt (pw P x k.toNat) d=1:=by
 refine⟨G.pw_T (Nat.le_of_lt a) hx _,?_⟩;rw[G.pw_at a hx,show((k.toNat:Nat):Int)=k by omega];exact hk
end
end Go.Proofs.YtoakmefajbbggaaGreat
namespace Go.Proofs.YtoakmefajbbggaaGreat
open Go.RowKit
theorem tmod_residue (a m:Int) (b:0<m):(a.tmod m+m).tmod m=a%m:=by
 have h1 : -m<a.tmod m/\a.tmod m<m:=⟨Int.neg_lt_of_neg_lt (by have:=Int.lt_tmod_of_pos a b;omega),Int.tmod_lt_of_pos a b⟩;rw[Int.tmod_eq_emod_of_nonneg (by omega),Int.add_emod_right];rw[Int.tmod_eq_emod];split
 ·rw[show((0:Nat):Int)=0 from rfl,Int.sub_zero,Int.emod_emod_of_dvd _ (Int.dvd_refl m)]
 ·rw[show a%m-m.natAbs=a%m-m by omega,Int.sub_emod,Int.emod_self,Int.sub_zero,Int.emod_emod_of_dvd _ (Int.dvd_refl m),Int.emod_emod_of_dvd _ (Int.dvd_refl m)]
theorem residue_ok (a m:Int) (w:World) (k:1<=m/\m<=1000000000) :
  Calls Tryz.prog 238 #[.int .i64 a,.int .i64 m] w λe w'=>e=.returned (.int .i64 (a%m))/\w=w':=by
 have h1 : -m<a.tmod m/\a.tmod m<m:=⟨by have:=Int.lt_tmod_of_pos a (show 0<m by omega);omega,Int.tmod_lt_of_pos a (by omega)⟩;have l:=tmod_residue a m (by omega);have p:IntKind.i64.wrap (a.tmod m)=a.tmod m:=IntWalk.i64_in _ (by omega);have q:IntKind.i64.wrap (a.tmod m+m)=a.tmod m+m:=IntWalk.i64_in _ (by omega);have r:0<=a%m/\a%m<m:=⟨Int.emod_nonneg _ (by omega),Int.emod_lt_of_pos _ (by omega)⟩;have u:IntKind.i64.wrap (a%m)=a%m:=IntWalk.i64_in _ (by omega);have b:(m == 0)=false:=by simp;omega
 have i:¬m=0:=by omega
 have j:¬m = -1:=by omega
 go_enter Tryz.func238,Tryz.ntmps238;go_wp2;go_ret;exact⟨rfl,rfl⟩
theorem dep_all {X:List Int}(h:∀k,k<X.length->gt X k=0):dep X=X.length:=by
 have:=dep_le X;rcases Nat.lt_or_ge (dep X) X.length with h1|h1
 ·exact absurd (h _ h1) (dep_ne h1)
 ·omega
set_option maxHeartbeats 400000 in
theorem depthOf_ok (v:Value) (X:List Int) (w:World) (S:Nat->Prop) (h:Ints S w v X) :
  Calls Tryz.prog 194 #[v] w λe w'=>e=.returned (.int .i64 (dep X))/\w=w':=by
 obtain⟨a,cap,rfl,_,_⟩:=h.shape;go_enter Tryz.func194,Tryz.ntmps194;go_wp2;go_loop [7] (λi=>∃k:Nat,i=.int .i64 k/\k<=X.length/\∀j,j<k->gt X j=0) (λi=>X.length-(intOf i).toNat)
 case atStart=>exact⟨0,rfl,by omega,λj p=>by omega⟩
 case round=>
  obtain⟨k,rfl,hk,hz⟩:=hrel;have q:=Lib.hid hz;clear hz;by_cases l:k<X.length
  ·obtain ⟨b,off,rfl,_,_,hc⟩:=Ints.at h k l
   by_cases hx:gt X k=0
   ·have u:(gt X k != 0)=false:=by simp[hx]
    have y:=Lib.hid hx;clear hx;go_wp2;go_round
    case rel=>exact⟨k+1,by go_num,by omega,λj p=>by
     rcases Nat.lt_succ_iff_lt_or_eq.1 p with h1|h1
     ·exact q.out j h1
     ·rw[h1];exact y.out⟩
    case measure=>simp[intOf];omega
   ·have u:(gt X k != 0)=true:=by simp[hx]
    have m:dep X=k:=dep_eq l q.out hx;have r:=Lib.hid m;clear m hx;go_wp2;go_ret;exact⟨by rw[r.out];rfl,rfl⟩
  ·have z:k=X.length:=by omega
   have m:dep X=X.length:=dep_all (λj p=>q.out j (by omega));have r:=Lib.hid m;clear m;go_wp2;go_ret;exact⟨by rw[r.out];rfl,rfl⟩
theorem Grp.comm_eq {P:Pr}(G:Grp P) {x y:List Int}(hx:Vec P.orders x) (hy:Vec P.orders y):tv P (iInv P x) (iConj P x y)=rMul P (rInv P (rMul P y x)) (rMul P x y):=by
 have b:=G.invV hx;have a:=G.invV hy;have c1:=G.mulV hx hy;rw[G.iInv_eq hx,G.iConj_eq hx hy,G.tv_eq b (G.conjV hx hy),G.inv_mulR hy hx];unfold rConj;rw[G.ass b a c1]
set_option maxHeartbeats 400000 in
theorem commutator_ok (P:Pr) (G:Grp P) (w:World) (p a b:Value) (A B:List Int) (l u C:Nat->Prop) (y:PresP l w p P) (ha:Ints u w a A) (E:Ints C w b B) (j:Vec P.orders A) (hB:Vec P.orders B) :
  Calls Tryz.prog 197 #[p,a,b] w (Ret w λw' v=>Own w.heap.size w' v (rMul P (rInv P (rMul P B A)) (rMul P A B))):=by
 have hP:=G.v;have F:=hP.n6;have H:(iInv P A).length<=6:=by rw[(iInv_vec hP A j).1];omega
 have k:Vec P.orders (iConj P A B):=by rw[G.iConj_eq j hB];exact G.conjV j hB
 have I:(iConj P A B).length<=6:=by rw[k.1];omega
 go_enter Tryz.func197,Tryz.ntmps197;go_wp2_with fail
 refine Calls.mono (invert_ok P hP w p a A l u y ha j) ?_;rintro N J ⟨r,rfl,e,K⟩;go_wp2_with fail
 refine Calls.mono (conjugate_ok P hP J p a b A B l u C (y.ext e) (ha.ext e) (E.ext e) j hB) ?_;rintro O L ⟨m,rfl,i,M⟩;go_wp2_with fail
 refine Calls.mono (multiply_ok P hP L p r m _ _ l Any Any (y.ext (grown_trans e i)) ((K.ext0 i).ints (by omega)) (M.ints (by omega)) (iInv_vec hP A j) k) ?_;rintro Q R ⟨q,rfl,z,D⟩;rw[G.comm_eq j hB] at D;go_wp2;go_ret;exact⟨_,rfl,grown_trans (grown_trans e i) z,D.weak (by have:=e.size;have:=i.size;omega)⟩
def euc (m a:Int):Nat->Int × Int × Int × Int
 | 0=>(m,a,0,1)
 | i+1=>let s:=euc m a i;if s.2.1=0 then s else (s.2.1,s.1-s.1/s.2.1*s.2.1,s.2.2.2,s.2.2.1-s.1/s.2.1*s.2.2.2)
def eucGood (m a:Int):Bool:=
 (List.range 6).all (λi=>let s:=euc m a i;decide (0<=s.1/\s.1<=7/\0<=s.2.1/\s.2.1<=7 /\ -7<=s.2.2.1/\s.2.2.1<=7 /\ -7<=s.2.2.2/\s.2.2.2<=7/\(s.2.1=0\/i<5))) &&
  decide ((euc m a 5).2.1=0/\(euc m a 5).1=1/\((euc m a 5).2.2.1%m*a)%m=1)
theorem euc_good {m a:Int}(b:m=2\/m=3\/m=5\/m=7) (h1:1<=a) (e:a<m):eucGood m a=true:=by
 rcases b with rfl|rfl|rfl|rfl
 ·have:a=1:=by omega
  subst this;decide
 ·rcases(show a=1\/a=2 by omega) with rfl|rfl<;>decide
 ·rcases(show a=1\/a=2\/a=3\/a=4 by omega) with rfl|rfl|rfl|rfl<;>decide
 ·rcases(show a=1\/a=2\/a=3\/a=4\/a=5\/a=6 by omega) with rfl|rfl|rfl|rfl|rfl|rfl<;>decide
theorem euc_stay (m a:Int) (i j:Nat) (h:(euc m a i).2.1=0):euc m a (i+j)=euc m a i:=by
 induction j with
 | zero=>rfl
 | succ j b=>
  show euc m a (i+j+1)=_
  simp only[euc,b,if_pos h]
set_option maxHeartbeats 1000000 in
theorem inverseMod_ok (a m:Int) (w:World) (C:m=2\/m=3\/m=5\/m=7) (h1:1<=a) (O:a<m) :
  Calls Tryz.prog 195 #[.int .i64 a,.int .i64 m] w λe w'=>(∃k:Int,e=.returned (.tuple #[.int .i64 k,.bool true])/\0<=k/\k<m/\(k*a)%m=1)/\w=w':=by
 have D:=euc_good C h1 O;unfold eucGood at D;rw[Bool.and_eq_true,List.all_eq_true] at D;obtain⟨p,hend⟩:=D;have I:∀i,i<6->0<=(euc m a i).1/\(euc m a i).1<=7/\0<=(euc m a i).2.1/\(euc m a i).2.1<=7 /\ -7<=(euc m a i).2.2.1/\(euc m a i).2.2.1<=7 /\ -7<=(euc m a i).2.2.2/\(euc m a i).2.2.2<=7/\((euc m a i).2.1=0\/i<5):=λi Q=>of_decide_eq_true (p i (List.mem_range.2 Q));have J:=of_decide_eq_true hend;have E:=Lib.hid (And.intro I J);clear I J p hend;have R:2<=m/\m<=7:=by omega
 have HM:=Lib.hid C;clear C;go_enter Tryz.func195,Tryz.ntmps195;go_wp2;go_loopg [6,7,8,9] 5 (λgk S T U V wr=>∃(i:Nat) (r n x y:Int),gk+i=5/\S=.int .i64 r/\T=.int .i64 n/\U=.int .i64 x/\V=.int .i64 y/\euc m a i=(r,n,x,y)/\w=wr)
 case atStart=>exact⟨0,m,a,0,1,rfl,rfl,rfl,rfl,rfl,rfl,rfl⟩
 case round=>
  obtain⟨i,r,n,x,y,hgi,rfl,rfl,rfl,rfl,F,rfl⟩:=hrel;have q:=E.out.1 i (by omega);rw[F] at q;simp only at q;obtain⟨b1,b2,b3,b4,b5,b6,b7,b8,K⟩:=q;have B:=Lib.hid (And.intro F K);clear F K;by_cases u:n=0
  ·subst u
   have z:euc m a 5=(r,0,x,y):=by
    have L:=euc_stay m a i (5-i) (by rw[B.out.1]);rw[show i+(5-i)=5 by omega] at L;rw[L,B.out.1]
   have j:=E.out.2;rw[z] at j;simp only at j;obtain⟨_,hr,hk⟩:=j;subst hr;have A:0<=x%m/\x%m<m:=⟨Int.emod_nonneg _ (by omega),Int.emod_lt_of_pos _ (by omega)⟩;have W:=Lib.hid hk;clear hk z;go_wp2_with (go_at_call 238;refine Calls.mono (residue_ok x m w (by omega)) ?_;rintro eR wR ⟨rfl,rfl⟩)
   go_ret2
   exact⟨⟨_,rfl,A.1,A.2,W.out⟩,rfl⟩
  ·have X:(n != 0)=true:=by simp[u]
   have Y:i<5:=B.out.2.resolve_left u;have Z:0<n:=by omega
   have b:euc m a (i+1)=(n,r-r/n*n,y,x-r/n*y):=by
    simp only[euc,B.out.1];rw[if_neg u]
   have l:=E.out.1 (i+1) (by omega);rw[b] at l;simp only at l;have G:=Lib.hid (And.intro b l);clear b;have H:0<=r/n:=Int.ediv_nonneg b1 (by omega);have aa:r/n<=7:=Int.le_trans (Int.ediv_le_self _ b1) b2;have ab:0<=r/n*n:=Int.mul_nonneg H (by omega);have M:r/n*n<=7:=by omega
   have N : -100<=r/n*y/\r/n*y<=100:=by omega
   have e1:r.tdiv n=r/n:=Int.tdiv_eq_ediv_of_nonneg b1;have e2:IntKind.i64.wrap (r/n)=r/n:=IntWalk.i64_in _ (by omega);have e3:IntKind.i64.wrap (r/n*n)=r/n*n:=IntWalk.i64_in _ (by omega);have e4:IntKind.i64.wrap (r-r/n*n)=r-r/n*n:=IntWalk.i64_in _ (by omega);have e5:IntKind.i64.wrap (r/n*y)=r/n*y:=IntWalk.i64_in _ (by omega);have e6:IntKind.i64.wrap (x-r/n*y)=x-r/n*y:=IntWalk.i64_in _ (by omega);clear l u;go_wp2;go_roundg (gk-1)
   case measure=>omega
   case rel=>exact⟨i+1,n,r-r/n*n,y,x-r/n*y,by omega,rfl,rfl,rfl,rfl,G.out.1,rfl⟩
end Go.Proofs.YtoakmefajbbggaaGreat
