/- Merged from templates. -/
import Derived.Test.YtoakmefajbbggaaGreatH1
import Derived.BigRegion
namespace Go.Proofs.YtoakmefajbbggaaGreat
theorem iter_add {α:Type}(f:α->α) (n k:Nat) (x:α):iter (n+k) f x=iter n f (iter k f x):=by
 induction n with
 | zero=>rw[Nat.zero_add];rfl
 | succ n a=>rw[Nat.succ_add];show f (iter (n+k) f x)=f (iter n f (iter k f x));rw[a]
theorem iter_rel {α a:Type}(R:α->a->Prop) (f:α->α) (g:a->a) (h:∀x y,R x y->R (f x) (g y)) (n:Nat) (x:α) (y:a) (b:R x y):R (iter n f x) (iter n g y):=by
 induction n with
 | zero=>exact b
 | succ n e=>exact h _ _ e
theorem iter_congr {α:Type}(Q:α->Prop) (f g:α->α) (a:∀x,Q x->Q (f x)) (h:∀x,Q x->f x=g x) (n:Nat) (x:α) (hx:Q x):iter n f x=iter n g x:=by
 induction n with
 | zero=>rfl
 | succ n b=>
  show f (iter n f x)=g (iter n g x)
  rw[<-b];exact h _ (iter_inv Q f a n x hx)
structure MonOn {α:Type}(S:α->Prop) (m:α->α->α) (e:α):Prop where
 cl:∀x y,S x->S y->S (m x y)
 one:S e
 ass:∀x y z,S x->S y->S z->m (m x y) z=m x (m y z)
 el:∀x,S x->m e x=x
 er:∀x,S x->m x e=x
def acc {α:Type}(g:α->Nat->α) (x:List Int) (i:Nat) (out:α):Nat->α
 | 0=>out
 | k+1=>iter (gt x (i+k)).toNat (λy=>g y (i+k)) (acc g x i out k)
theorem acc_front {α:Type}(g:α->Nat->α) (x:List Int) (i:Nat) (out:α) (k:Nat):acc g x i out (k+1)=acc g x (i+1) (iter (gt x i).toNat (λy=>g y i) out) k:=by
 induction k with
 | zero=>rfl
 | succ k a=>
  rw[acc,a];show _=iter (gt x (i+1+k)).toNat (λy=>g y (i+1+k)) _
  rw[show i+(k+1)=i+1+k by omega]
theorem acc_inv {α:Type}(Q:α->Prop) (g:α->Nat->α) (x:List Int) (i:Nat) (out:α) (k:Nat) (l:Q out) (h:∀y j,Q y->i<=j->j<i+k->gt x j≠0->Q (g y j)):Q (acc g x i out k):=by
 induction k with
 | zero=>exact l
 | succ k m=>
  have h1:=m (λy j hy a b c=>h y j hy a (by omega) c);by_cases e:gt x (i+k)=0
  ·rw[acc,e];exact h1
  ·exact iter_inv Q _ (λy hy=>h y (i+k) hy (by omega) (by omega) e) _ _ h1
theorem acc_rel {α l:Type}(R:α->l->Prop) (g:α->Nat->α) (m:l->Nat->l) (x:List Int) (i:Nat) (out:α) (e:l) (k:Nat) (q:R out e) (h:∀y z j,R y z->i<=j->j<i+k->gt x j≠0->R (g y j) (m z j)) :
  R (acc g x i out k) (acc m x i e k):=by
 induction k with
 | zero=>exact q
 | succ k r=>
  have h1:=r (λy z j hy a b c=>h y z j hy a (by omega) c);by_cases p:gt x (i+k)=0
  ·rw[acc,acc,p];exact h1
  ·exact iter_rel R _ _ (λy z hy=>h y z (i+k) hy (by omega) (by omega) p) _ _ _ h1
theorem acc_congr {α:Type}(g:α->Nat->α) (x x':List Int) (i:Nat) (out:α) (k:Nat) (h:∀j,i<=j->j<i+k->gt x j=gt x' j):acc g x i out k=acc g x' i out k:=by
 induction k with
 | zero=>rfl
 | succ k e=>rw[acc,acc,e (λj a b=>h j a (by omega)),h (i+k) (by omega) (by omega)]
theorem acc_zero {α:Type}(g:α->Nat->α) (x:List Int) (i:Nat) (out:α) (k:Nat) (h:∀j,i<=j->j<i+k->gt x j=0):acc g x i out k=out:=by
 induction k with
 | zero=>rfl
 | succ k e=>rw[acc,e (λj a b=>h j a (by omega)),h (i+k) (by omega) (by omega)];rfl
theorem acc_split {α:Type}(g:α->Nat->α) (x:List Int) (i:Nat) (out:α) (a b:Nat):acc g x i out (a+b)=acc g x (i+a) (acc g x i out a) b:=by
 induction b with
 | zero=>rfl
 | succ b e=>
  show acc g x i out ((a+b)+1)=_
  rw[acc,acc,e,show i+(a+b)=i+a+b by omega]
theorem rImgTo_acc (at_:List Int->List Int->List Int) (a:List (List Int)) (i:Nat) (x out:List Int) (k:Nat) :
  rImgTo at_ a i x out k=acc (λy j=>at_ y (gt a (j-i-1))) x (i+1) out k:=by
 induction k with
 | zero=>rfl
 | succ k b=>rw[rImgTo,acc,b];simp only[show i+1+k-i-1=k by omega]
theorem tvecTo_acc (g:List Int->Nat->List Int) (f e:List Int) (k:Nat):tvecTo g f e k=acc g f 0 e k:=by
 induction k with
 | zero=>rfl
 | succ k a=>rw[tvecTo,acc,a,Nat.zero_add]
theorem tconjTo_acc (g:List Int->Nat->List Int) (a:List (List Int)) (e:List Int) (j:Nat) (out:List Int) (k:Nat) :
  tconjTo g a (e.drop (j+1)) out k=acc (λy l=>tvec g y (gt a (l-j-1))) e (j+1) out k:=by
 induction k with
 | zero=>rfl
 | succ k b=>
  rw[tconjTo,acc,b];have:gt (e.drop (j+1)) k=gt e (j+1+k):=by simp[gt]
  simp only[this,show j+1+k-j-1=k by omega]
section
variable {α:Type}{S:α->Prop}{m:α->α->α}{e:α}
theorem MonOn.pow_cl (M:MonOn S m e) {h y:α}(a:S h) (hy:S y) (k:Nat):S (iter k (λy=>m y h) y):=iter_inv S _ (λy hy=>M.cl y h hy a) k y hy
theorem MonOn.pow_out (M:MonOn S m e) {h y:α}(a:S h) (hy:S y) (k:Nat):iter k (λy=>m y h) y=m y (iter k (λy=>m y h) e):=by
 induction k with
 | zero=>exact(M.er y hy).symm
 | succ k b=>
  show m (iter k (λy=>m y h) y) h=m y (m (iter k (λy=>m y h) e) h)
  rw[b,M.ass y _ h hy (M.pow_cl a M.one k) a]
theorem MonOn.pow_add (M:MonOn S m e) {h:α}(i:S h) (a b:Nat):iter (a+b) (λy=>m y h) e=m (iter a (λy=>m y h) e) (iter b (λy=>m y h) e):=by
 rw[Nat.add_comm,iter_add,M.pow_out i (M.pow_cl i M.one a)]
def npr (m:α->α->α) (h:Nat->α) (x:List Int) (i:Nat) (out:α) (k:Nat):α:=acc (λy j=>m y (h j)) x i out k
theorem npr_cl (M:MonOn S m e) {h:Nat->α}{x:List Int}{i:Nat}{out:α}{k:Nat}(l:S out) (p:∀j,i<=j->j<i+k->S (h j)):S (npr m h x i out k):=
 acc_inv S _ x i out k l (λy j hy a b _=>M.cl y _ hy (p j a b))
theorem npr_out (M:MonOn S m e) {h:Nat->α}{x:List Int}{i:Nat}{out:α}{k:Nat}(p:S out) (q:∀j,i<=j->j<i+k->S (h j)):npr m h x i out k=m out (npr m h x i e k):=by
 induction k with
 | zero=>exact(M.er out p).symm
 | succ k r=>
  have l:∀j,i<=j->j<i+k->S (h j):=λj a b=>q j a (by omega);have h1:=r l;unfold npr at h1 ⊢;rw[acc,acc,h1];have c1:S (npr m h x i e k):=npr_cl M M.one l;have hk:=q (i+k) (by omega) (by omega);unfold npr at c1;rw[M.pow_out hk (M.cl _ _ p c1),M.pow_out hk c1,M.ass _ _ _ p c1 (M.pow_cl hk M.one _)]
theorem npr_front (M:MonOn S m e) {h:Nat->α}{x:List Int}{i:Nat}{k:Nat}(l:∀j,i<=j->j<i+(k+1)->S (h j)) :
  npr m h x i e (k+1)=m (iter (gt x i).toNat (λy=>m y (h i)) e) (npr m h x (i+1) e k):=by
 have h1:npr m h x i e (k+1)=npr m h x (i+1) (iter (gt x i).toNat (λy=>m y (h i)) e) k:=acc_front _ x i e k;rw[h1];exact npr_out M (M.pow_cl (l i (by omega) (by omega)) M.one _) (λj a b=>l j (by omega) (by omega))
structure Holds (P:Pr) (S:α->Prop) (m:α->α->α) (e:α) (h:Nat->α) (i:Nat):Prop where
 mem:∀j,i<=j->j<P.orders.length->S (h j)
 pw:∀j,i<=j->j<P.orders.length->iter (gt P.orders j).toNat (λy=>m y (h j)) e=npr m h (gt P.powers j) (j+1) e (P.orders.length-(j+1))
 cj:∀j k,i<=j->j<k->k<P.orders.length->m (h k) (h j)=m (h j) (npr m h (gt (gt P.conj j) (k-j-1)) (j+1) e (P.orders.length-(j+1)))
theorem Holds.up {P:Pr}{h:Nat->α}{i l:Nat}(H:Holds P S m e h i) (p:i<=l):Holds P S m e h l:=
 ⟨λj a b=>H.mem j (by omega) b,λj a b=>H.pw j (by omega) b,λj k a b c=>H.cj j k (by omega) b c⟩
theorem vd_image {P:Pr}(hP:Valid P) (M:MonOn S m e) {h:Nat->α}{i f:Nat}(I:i+(f+1)=P.orders.length) (H:Holds P S m e h i)
  (D:∀A B,Vec P.orders A->Vec P.orders B->npr m h (rAt P f (i+1) A B) (i+1) e f=m (npr m h A (i+1) e f) (npr m h B (i+1) e f)) (x:List Int) :
  m (npr m h x (i+1) e f) (h i)=m (h i) (npr m h (rImage P f i x) (i+1) e f):=by
 have l:∀j,i<=j->j<P.orders.length->S (h j):=H.mem;have q:∀y,S (npr m h y (i+1) e f):=λy=>npr_cl M M.one (λj a b=>l j (by omega) (by omega));unfold rImage;rw[rImgTo_acc];have k:=l i (by omega) (by omega)
 have E:(λ(y:α) (z:List Int)=>S y/\Vec P.orders z/\m y (h i)=m (h i) (npr m h z (i+1) e f)) (npr m h x (i+1) e f)
   (acc (λy j=>rAt P f (i+1) y (gt (gt P.conj i) (j-i-1))) x (i+1) (zeros P.orders.length) f):=by
  unfold npr;refine acc_rel (λ(y:α) (z:List Int)=>S y/\Vec P.orders z/\m y (h i)=m (h i) (npr m h z (i+1) e f)) _ _ x (i+1) _ _ f ⟨M.one,zeros_vec hP,?_⟩ ?_
  ·have F:npr m h (zeros P.orders.length) (i+1) e f=e:=acc_zero _ _ _ _ _ (λj _ _=>gt_replicate _ _)
   rw[F,M.el _ k,M.er _ k]
  ·rintro y z j ⟨h1,r,h3⟩ a b _
   have u:=(hP.cv i (by omega)).2 (j-i-1) (by omega);have w:=l j (by omega) (by omega);refine⟨M.cl _ _ h1 w,rAt_vec hP f _ _ _ (by omega) r u.1,?_⟩;have C:=D z _ r u.1;have p:=H.cj i j (by omega) (by omega) (by omega);have G:P.orders.length-(i+1)=f:=by omega
   rw[G] at p;have c1:=q z;have c2:=q (gt (gt P.conj i) (j-i-1));unfold npr at h3 C p c1 c2 ⊢;rw[C,M.ass _ _ _ h1 w k,p,<-M.ass _ _ _ h1 k c2,h3,M.ass _ _ _ k c1 c2]
 exact E.2.2
theorem vd_at {P:Pr}(hP:Valid P) (M:MonOn S m e) {h:Nat->α}(f:Nat):∀(i:Nat),i+f=P.orders.length->Holds P S m e h i->∀A B,Vec P.orders A->Vec P.orders B ->
  npr m h (rAt P f i A B) i e f=m (npr m h A i e f) (npr m h B i e f):=by
 induction f with
 | zero=>intro i _ _ A B _ _;exact(M.el e M.one).symm
 | succ f Q=>
  intro i J H A B K hB;have D:=Q (i+1) (by omega) (H.up (by omega));have E:∀j,i<=j->j<P.orders.length->S (h j):=H.mem;have p:∀y,S (npr m h y (i+1) e f):=λy=>npr_cl M M.one (λj a b=>E j (by omega) (by omega));have r:=E i (by omega) (by omega);have w:∀k,S (iter k (λy=>m y (h i)) e):=λk=>M.pow_cl r M.one k;have F:=vd_image hP M J H D
  have q:∀(y:List Int) (c:Int),npr m h (y.set i c) (i+1) e f=npr m h y (i+1) e f:=λy c=>
   acc_congr _ _ _ _ _ _ (λj a _=>gt_set_ne _ _ _ _ (by omega))
  have z:∀y,npr m h y i e (f+1)=m (iter (gt y i).toNat (λy=>m y (h i)) e) (npr m h y (i+1) e f):=λy=>npr_front M (λj a b=>E j a (by omega));have X:=hP.ord7 i (by omega);have R:=K.2 i (by omega);have T:=hB.2 i (by omega);-- the left factor drawn through
  have C:∀b:Nat,Vec P.orders (iter b (λl=>rImgTo (rAt P f (i+1)) (gt P.conj i) i l (zeros P.orders.length) f) (A.set i 0)) /\
    m (npr m h A (i+1) e f) (iter b (λy=>m y (h i)) e)=m (iter b (λy=>m y (h i)) e) (npr m h (iter b (λl=>rImgTo (rAt P f (i+1)) (gt P.conj i) i l (zeros P.orders.length) f) (A.set i 0)) (i+1) e f):=by
   intro b;induction b with
   | zero=>
    refine⟨K.set i 0 ⟨by omega,λ_=>by omega⟩,?_⟩;show m _ e=m e (npr m h (A.set i 0) (i+1) e f)
    rw[q,M.er _ (p A),M.el _ (p A)]
   | succ b G=>
    obtain⟨v1,e1⟩:=G
    have U:Vec P.orders (rImgTo (rAt P f (i+1)) (gt P.conj i) i (iter b (λl=>rImgTo (rAt P f (i+1)) (gt P.conj i) i l (zeros P.orders.length) f) (A.set i 0)) (zeros P.orders.length) f):=
     rImgTo_vec hP f i J (rAt_vec hP f) _ _ (zeros_vec hP) f (Nat.le_refl _)
    refine⟨U,?_⟩;have V:=F (iter b (λl=>rImgTo (rAt P f (i+1)) (gt P.conj i) i l (zeros P.orders.length) f) (A.set i 0));show m _ (m (iter b (λy=>m y (h i)) e) (h i))=m (m (iter b (λy=>m y (h i)) e) (h i)) (npr m h (rImage P f i _) (i+1) e f)
    rw[<-M.ass _ _ _ (p A) (w b) r,e1,M.ass _ _ _ (w b) (p _) r,V,<-M.ass _ _ _ (w b) r (p _)]
  obtain⟨L,el⟩:=C (gt B i).toNat;have N:Vec P.orders (B.set i 0):=hB.set i 0 ⟨by omega,λ_=>by omega⟩;have er:=D _ _ L N;rw[q B 0] at er;have I:=rAt_vec hP f (i+1) _ _ (by omega) L N;rw[z A,z B];-- both sides to one form
  have key:m (m (iter (gt A i).toNat (λy=>m y (h i)) e) (npr m h A (i+1) e f)) (m (iter (gt B i).toNat (λy=>m y (h i)) e) (npr m h B (i+1) e f)) =
    m (iter ((gt A i).toNat+(gt B i).toNat) (λy=>m y (h i)) e) (npr m h (rAt P f (i+1) (iter (gt B i).toNat (λl=>rImgTo (rAt P f (i+1)) (gt P.conj i) i l (zeros P.orders.length) f) (A.set i 0)) (B.set i 0)) (i+1) e f):=by
   rw[er,M.pow_add r,M.ass _ _ _ (w _) (p _) (M.cl _ _ (w _) (p _)),<-M.ass _ _ _ (p A) (w _) (p _),el,M.ass _ _ _ (w _) (p _) (p _),<-M.ass _ _ _ (w _) (w _) (M.cl _ _ (p _) (p _))]
  rw[key,z];simp only[rAt];by_cases O:gt P.orders i<=gt A i+gt B i
  ·rw [if_pos O]
   have vp:=(hP.pv i (by omega)).1;have W:=rAt_vec hP f (i+1) _ _ (by omega) vp I;rw[q,gt_set_eq _ _ _ (by rw[W.1];omega),D _ _ vp I];have u:(gt A i).toNat+(gt B i).toNat=(gt A i+gt B i-gt P.orders i).toNat+(gt P.orders i).toNat:=by omega
   rw[u,M.pow_add r,H.pw i (by omega) (by omega),show P.orders.length-(i+1)=f by omega,M.ass _ _ _ (w _) (p _) (p _)]
  ·rw [if_neg O,q,gt_set_eq _ _ _ (by rw[I.1];omega)]
   have u:(gt A i).toNat+(gt B i).toNat=(gt A i+gt B i).toNat:=by omega
   rw[u]
theorem npr_three (M:MonOn S m e) {h:Nat->α}{y:List Int}{i j n:Nat}(k:i<=j) (q:j<n) (p:∀l,i<=l->l<n->S (h l)) :
  npr m h y i e (n-i)=m (m (npr m h y i e (j-i)) (iter (gt y j).toNat (λy=>m y (h j)) e)) (npr m h y (j+1) e (n-(j+1))):=by
 have h1:npr m h y i e (n-i)=npr m h y (j+1) (iter (gt y j).toNat (λy=>m y (h j)) (npr m h y i e (j-i))) (n-(j+1)):=by
  unfold npr;rw[show n-i=(j-i)+((n-(j+1))+1) by omega,acc_split,acc_front,show i+(j-i)=j by omega]
 have c1:S (npr m h y i e (j-i)):=npr_cl M M.one (λl a b=>p l a (by omega));rw[h1,npr_out M (M.pow_cl (p j k q) c1 _) (λl a b=>p l (by omega) (by omega)),M.pow_out (p j k q) c1]
theorem vd_gen {P:Pr}(hP:Valid P) (M:MonOn S m e) {h:Nat->α}{i:Nat}(H:Holds P S m e h i) (f:Nat):∀(E:List Int) (j:Nat),Vec P.orders E->i<=j->j<P.orders.length->P.orders.length<=f+j ->
  npr m h (tgen P f E j) i e (P.orders.length-i)=m (npr m h E i e (P.orders.length-i)) (h j):=by
 have w:∀j,i<=j->j<P.orders.length->S (h j):=H.mem;have X:∀y,S (npr m h y i e (P.orders.length-i)):=λy=>npr_cl M M.one (λj a b=>w j a (by omega));induction f with
 | zero=>intro E j _ _ q hf;omega
 | succ f ih=>
  intro E j T r q hf;have A:=w j r q;have hT:∀y,S (npr m h y (j+1) e (P.orders.length-(j+1))):=λy=>npr_cl M M.one (λl a b=>w l (by omega) (by omega));have p:∀y,S (npr m h y i e (j-i)):=λy=>npr_cl M M.one (λl a b=>w l a (by omega));have U:∀k,S (iter k (λy=>m y (h j)) e):=λk=>M.pow_cl A M.one k
  have I:∀c,Vec P.orders c->ZeroTo j c->∀x,Vec P.orders x->Vec P.orders (tvec (tgen P f) x c):=λc u F x hx=>
   tvec_vec u (λe i he hi h0=>tgen_vec hP f e i he hi (by
    have:¬i<=j:=λh=>h0 (F i h);omega)) hx
  have J:∀c,Vec P.orders c->ZeroTo j c->∀x,Vec P.orders x ->
    npr m h (tvec (tgen P f) x c) i e (P.orders.length-i)=m (npr m h x i e (P.orders.length-i)) (npr m h c (j+1) e (P.orders.length-(j+1))):=by
   intro c u F x hx;unfold tvec
   rw [tvecTo_acc,u.1,show P.orders.length=(j+1)+(P.orders.length-(j+1)) by omega,acc_split,acc_zero (tgen P f) c 0 x (j+1) (λl _ b=>F l (by omega)),show 0+(j+1)=j+1 by omega,
    show(j+1)+(P.orders.length-(j+1))=P.orders.length by omega]
   have V:=acc_rel (λ(y:α) (z:List Int)=>S y/\Vec P.orders z/\npr m h z i e (P.orders.length-i)=y) (λy l=>m y (h l)) (tgen P f) c (j+1) (npr m h x i e (P.orders.length-i)) x (P.orders.length-(j+1))
    ⟨X x,hx,rfl⟩ (by
     rintro y z l ⟨h1,K,G⟩ a b _;refine⟨M.cl _ _ h1 (w l (by omega) (by omega)),tgen_vec hP f z l K (by omega) (by omega),?_⟩;rw[ih z l K (by omega) (by omega) (by omega),G])
   rw[V.2.2];exact npr_out M (X x) (λl a b=>w l (by omega) (by omega))
  have hl:=T.1;have B:j+1+(E.drop (j+1)).length<=E.length:=by simp;omega
  have F:=T.zeroed j (E.drop (j+1)).length B;have hx:=T.2 j q;have ho:=hP.ord7 j q;have ag:=length_zeroed E j (E.drop (j+1)).length B
  have L:∀c:Int,npr m h ((zeroed E j (E.drop (j+1)).length).set j c) i e (P.orders.length-i)=m (npr m h E i e (j-i)) (iter c.toNat (λy=>m y (h j)) e):=by
   intro c;rw[npr_three M r q w,gt_set_eq _ _ _ (by omega)]
   have e1:npr m h ((zeroed E j (E.drop (j+1)).length).set j c) i e (j-i)=npr m h E i e (j-i):=
    acc_congr _ _ _ _ _ _ (λl a b=>by rw[gt_set_ne _ _ _ _ (by omega),gt_zeroed _ _ _ _ B,if_neg (by omega)])
   have C:npr m h ((zeroed E j (E.drop (j+1)).length).set j c) (j+1) e (P.orders.length-(j+1))=e:=
    acc_zero _ _ _ _ _ (λl a b=>by
     rw[gt_set_ne _ _ _ _ (by omega),gt_zeroed _ _ _ _ B,if_pos ⟨by omega,by simp;omega⟩])
   rw[e1,C,M.er _ (M.cl _ _ (p E) (U _))]
  obtain⟨C,N⟩:∃C,C=(if gt E j+1=gt P.orders j then tvec (tgen P f) (((zeroed E j (E.drop (j+1)).length).set j (gt E j+1)).set j 0) (gt P.powers j) else (zeroed E j (E.drop (j+1)).length).set j (gt E j+1)):=⟨_,rfl⟩
  have K:Vec P.orders C/\npr m h C i e (P.orders.length-i)=m (m (npr m h E i e (j-i)) (iter (gt E j).toNat (λy=>m y (h j)) e)) (h j):=by
   have Y:m (npr m h E i e (j-i)) (iter (gt E j+1).toNat (λy=>m y (h j)) e)=m (m (npr m h E i e (j-i)) (iter (gt E j).toNat (λy=>m y (h j)) e)) (h j):=by
    rw[show(gt E j+1).toNat=(gt E j).toNat+1 by omega];exact(M.ass _ _ _ (p E) (U _) A).symm
   rw[N];split
   ·rename_i u
    rw[List.set_set];have O:Vec P.orders ((zeroed E j (E.drop (j+1)).length).set j 0):=F.set j 0 ⟨by omega,λ_=>by omega⟩;refine⟨I _ (hP.pv j q).1 (hP.pv j q).2 _ O,?_⟩;rw[J _ (hP.pv j q).1 (hP.pv j q).2 _ O,L,<-H.pw j r q,<-Y,u];show m (m _ e) _=_
    rw[M.er _ (p E)]
   ·rename_i u
    exact⟨F.set j _ ⟨by omega,λ_=>by omega⟩,by rw[L,Y]⟩
  have Q:tgen P (f+1) E j=tconjTo (tgen P f) (gt P.conj j) (E.drop (j+1)) C (E.drop (j+1)).length:=by rw[N];rfl
  have W:(E.drop (j+1)).length=P.orders.length-(j+1):=by simp;omega
  rw[Q,tconjTo_acc,W];have R:S (m (npr m h E i e (j-i)) (iter (gt E j).toNat (λy=>m y (h j)) e)):=M.cl _ _ (p E) (U _)
  have V:=acc_rel (λ(y:α) (z:List Int)=>S y/\Vec P.orders z/\npr m h z i e (P.orders.length-i)=m (m (m (npr m h E i e (j-i)) (iter (gt E j).toNat (λy=>m y (h j)) e)) y) (h j))
   (λy l=>m y (h l)) (λy l=>tvec (tgen P f) y (gt (gt P.conj j) (l-j-1))) E (j+1) e C (P.orders.length-(j+1))
   ⟨M.one,K.1,by rw[K.2,M.er _ R]⟩ (by
    rintro y z l ⟨G,Z,h5⟩ a b _;have u:=(hP.cv j q).2 (l-j-1) (by omega);have D:=w l (by omega) (by omega);refine⟨M.cl _ _ G D,I _ u.1 u.2 _ Z,?_⟩;rw[J _ u.1 u.2 _ Z,h5,M.ass _ _ _ (M.cl _ _ R G) A (hT _),<-H.cj j l r (by omega) (by omega),<-M.ass _ _ _ (M.cl _ _ R G) D A,M.ass _ _ _ R G D])
  rw[V.2.2,npr_three M r q w (y:=E)];rfl
theorem vd_tg {P:Pr}(hP:Valid P) (M:MonOn S m e) {h:Nat->α}{i:Nat}(H:Holds P S m e h i) (E:List Int) (j:Nat) (b:Vec P.orders E) (a:i<=j) (k:j<P.orders.length) :
  npr m h (tg P E j) i e (P.orders.length-i)=m (npr m h E i e (P.orders.length-i)) (h j):=vd_gen hP M H _ E j b a k (by omega)
theorem vd_tv {P:Pr}(hP:Valid P) (M:MonOn S m e) {h:Nat->α}{i:Nat}(B:i<=P.orders.length) (H:Holds P S m e h i) (E F:List Int) (u:Vec P.orders E) (hF:Vec P.orders F) (w:∀k,k<i->gt F k=0) :
  npr m h (tv P E F) i e (P.orders.length-i)=m (npr m h E i e (P.orders.length-i)) (npr m h F i e (P.orders.length-i)):=by
 have p:∀j,i<=j->j<P.orders.length->S (h j):=H.mem;have q:∀y,S (npr m h y i e (P.orders.length-i)):=λy=>npr_cl M M.one (λj a b=>p j a (by omega));unfold tv tvec
 rw [tvecTo_acc,hF.1,show P.orders.length=i+(P.orders.length-i) by omega,acc_split,acc_zero (tg P) F 0 E i (λl _ b=>w l (by omega)),show 0+i=i by omega,
  show i+(P.orders.length-i)=P.orders.length by omega]
 have A:=acc_rel (λ(y:α) (z:List Int)=>S y/\Vec P.orders z/\npr m h z i e (P.orders.length-i)=y) (λy l=>m y (h l)) (tg P) F i (npr m h E i e (P.orders.length-i)) E (P.orders.length-i)
  ⟨q E,u,rfl⟩ (by
   rintro y z l ⟨h1,r,h3⟩ a b _;refine⟨M.cl _ _ h1 (p l (by omega) (by omega)),tg_vec hP z l r (by omega),?_⟩;rw[vd_tg hP M H z l r (by omega) (by omega),h3])
 rw[A.2.2];exact npr_out M (q E) (λl a b=>p l (by omega) (by omega))
end
structure GrpOn {α:Type}(S:α->Prop) (m:α->α->α) (e:α):Prop extends MonOn S m e where
 inv:∀x,S x->∃y,S y/\m x y=e/\m y x=e
section
variable {α:Type}{S:α->Prop}{m:α->α->α}{e:α}
theorem GrpOn.of_right (M:MonOn S m e) (h:∀x,S x->∃y,S y/\m x y=e):GrpOn S m e:=by
 refine⟨M,λx hx => ?_⟩;obtain⟨y,hy,h1⟩:=h x hx;obtain⟨z,hz,h2⟩:=h y hy
 have:x=z:=by
  have a:m (m x y) z=m x (m y z):=M.ass x y z hx hy hz;rw[h1,h2,M.el z hz,M.er x hx] at a;exact a.symm
 exact⟨y,hy,h1,by rw[this];exact h2⟩
theorem GrpOn.cancel (G:GrpOn S m e) {a x y:α}(ha:S a) (hx:S x) (hy:S y) (h:m a x=m a y):x=y:=by
 obtain⟨b,i,_,h2⟩:=G.inv a ha;have j:m b (m a x)=m b (m a y):=by rw[h]
 rw[<-G.ass b a x i ha hx,<-G.ass b a y i ha hy,h2,G.el x hx,G.el y hy] at j;exact j
theorem GrpOn.right_left (G:GrpOn S m e) {a b:α}(ha:S a) (i:S b) (h:m a b=e):m b a=e:=by
 obtain⟨c,hc,h1,h2⟩:=G.inv a ha;have:b=c:=G.cancel ha i hc (by rw[h,h1]);rw[this];exact h2
theorem GrpOn.solve (G:GrpOn S m e) {a b x y:α}(ha:S a) (j:S b) (hx:S x) (hy:S y) (i:m a b=e):m b x=y↔x=m a y:=by
 have k:=G.right_left ha j i;constructor
 ·intro h;rw[<-h,<-G.ass a b x ha j hx,i,G.el x hx]
 ·intro h;rw[h,<-G.ass b a y j ha hy,k,G.el y hy]
def exm (m:α->α->α) (φ : α->α) (w:α) (o:Nat) (p q:Nat × α):Nat × α:=
 if o<=p.1+q.1 then (p.1+q.1-o,m w (m (iter q.1 φ p.2) q.2)) else (p.1+q.1,m (iter q.1 φ p.2) q.2)
structure ExtOk (S:α->Prop) (m:α->α->α) (e:α) (φ : α->α) (w:α) (o:Nat):Prop where
 o2:2<=o
 grp:GrpOn S m e
 cl:∀x,S x->S (φ x)
 hom:∀x y,S x->S y->φ (m x y)=m (φ x) (φ y)
 wS:S w
 wφ : φ w=w
 root:∀x,S x->m w (iter o φ x)=m x w
variable {φ : α->α}{w:α}{o:Nat}
theorem ExtOk.icl (E:ExtOk S m e φ w o) (k:Nat) (x:α) (hx:S x):S (iter k φ x):=iter_inv S φ E.cl k x hx
theorem ExtOk.ihom (E:ExtOk S m e φ w o) (k:Nat) (x y:α) (hx:S x) (hy:S y):iter k φ (m x y)=m (iter k φ x) (iter k φ y):=by
 induction k with
 | zero=>rfl
 | succ k a=>show φ (iter k φ (m x y))=_;rw[a];exact E.hom _ _ (E.icl k x hx) (E.icl k y hy)
theorem ExtOk.iw (E:ExtOk S m e φ w o) (k:Nat):iter k φ w=w:=by
 induction k with
 | zero=>rfl
 | succ k a=>show φ (iter k φ w)=w;rw[a];exact E.wφ
theorem ExtOk.one (E:ExtOk S m e φ w o):φ e=e:=by
 have h:=E.hom e e E.grp.one E.grp.one;rw[E.grp.el e E.grp.one] at h;have c:=E.cl e E.grp.one;exact(E.grp.cancel c E.grp.one c (by rw[E.grp.er _ c];exact h)).symm
theorem ExtOk.ione (E:ExtOk S m e φ w o) (k:Nat):iter k φ e=e:=by
 induction k with
 | zero=>rfl
 | succ k a=>show φ (iter k φ e)=e;rw[a];exact E.one
theorem ExtOk.draw (E:ExtOk S m e φ w o) (k:Nat) (hk:o<=k) (x:α) (hx:S x):m (iter (k-o) φ x) w=m w (iter k φ x):=by
 rw[<-E.root _ (E.icl _ x hx),<-iter_add,show o+(k-o)=k by omega]
def ExS (S:α->Prop) (o:Nat) (p:Nat × α):Prop:=p.1<o/\S p.2
theorem ExtOk.exm_cl (E:ExtOk S m e φ w o) (p q:Nat × α) (i:ExS S o p) (j:ExS S o q):ExS S o (exm m φ w o p q):=by
 obtain⟨a,x⟩:=p;obtain⟨b,y⟩:=q;obtain⟨ha,hx⟩:=i;obtain⟨k,hy⟩:=j;have c:=E.grp.cl _ _ (E.icl b x hx) hy;simp only at ha k hx hy;unfold exm;simp only;split
 ·exact⟨by show a+b-o<o;omega,E.grp.cl _ _ E.wS c⟩
 ·exact⟨by show a+b<o;omega,c⟩
theorem ExtOk.exm_ass (E:ExtOk S m e φ w o) (p q r:Nat × α) (G:ExS S o p) (H:ExS S o q) (I:ExS S o r):exm m φ w o (exm m φ w o p q) r=exm m φ w o p (exm m φ w o q r):=by
 obtain⟨a,x⟩:=p;obtain⟨b,y⟩:=q;obtain⟨c,z⟩:=r;obtain⟨ha,hx⟩:=G;obtain⟨J,hy⟩:=H;obtain⟨K,u⟩:=I;simp only at ha J K hx hy u;have M:=E.grp.toMonOn;have A:=E.wS;have c1:=E.icl b x hx;have c2:=E.icl c _ c1;have c3:=E.icl c y hy;have c4:=M.cl _ _ c1 hy;have c5:=M.cl _ _ c3 u;-- the left side's inner part, and the right side's
 have B:iter c φ (m (iter b φ x) y)=m (iter c φ (iter b φ x)) (iter c φ y):=E.ihom c _ _ c1 hy;have k:iter c φ (m w (m (iter b φ x) y))=m w (m (iter c φ (iter b φ x)) (iter c φ y)):=by rw[E.ihom c _ _ A c4,E.iw,B]
 have i:iter (b+c) φ x=iter c φ (iter b φ x):=by rw[Nat.add_comm,iter_add]
 have c6:=M.cl _ _ c2 c3;have C:m (m (iter c φ (iter b φ x)) (iter c φ y)) z=m (iter c φ (iter b φ x)) (m (iter c φ y) z):=M.ass _ _ _ c2 c3 u;have l:m (m w (m (iter c φ (iter b φ x)) (iter c φ y))) z=m w (m (iter c φ (iter b φ x)) (m (iter c φ y) z)):=by rw[M.ass _ _ _ A c6 u,C]
 have F:o<=b+c->m (iter (b+c-o) φ x) (m w (m (iter c φ y) z))=m w (m (iter c φ (iter b φ x)) (m (iter c φ y) z)):=by
  intro h;rw[<-M.ass _ _ _ (E.icl _ x hx) A c5,E.draw _ h x hx,i,M.ass _ _ _ A c2 c5]
 unfold exm;by_cases D:o<=a+b
 ·by_cases d1:o<=b+c
  ·simp only[if_pos D,if_pos d1]
   by_cases j:o<=a+b-o+c
   ·have d2:o<=a+(b+c-o):=by omega
    simp only[if_pos j,if_pos d2];rw[k,l,F d1,show a+b-o+c-o=a+(b+c-o)-o by omega]
   ·have d2:¬o<=a+(b+c-o):=by omega
    simp only[if_neg j,if_neg d2];rw[k,l,F d1,show a+b-o+c=a+(b+c-o) by omega]
  ·simp only[if_pos D,if_neg d1]
   have j:¬o<=a+b-o+c:=by omega
   have d2:o<=a+(b+c):=by omega
   simp only[if_neg j,if_pos d2];rw[k,l,i,show a+b-o+c=a+(b+c)-o by omega]
 ·by_cases d1:o<=b+c
  ·simp only[if_neg D,if_pos d1]
   have j:o<=a+b+c:=by omega
   have d2:¬o<=a+(b+c-o):=by omega
   simp only[if_pos j,if_neg d2];rw[B,C,F d1,show a+b+c-o=a+(b+c-o) by omega]
  ·simp only[if_neg D,if_neg d1]
   by_cases j:o<=a+b+c
   ·have d2:o<=a+(b+c):=by omega
    simp only[if_pos j,if_pos d2];rw[B,C,i,show a+b+c-o=a+(b+c)-o by omega]
   ·have d2:¬o<=a+(b+c):=by omega
    simp only[if_neg j,if_neg d2];rw[B,C,i,show a+b+c=a+(b+c) by omega]
theorem ExtOk.group (E:ExtOk S m e φ w o):GrpOn (ExS S o) (exm m φ w o) (0,e):=by
 have M:=E.grp.toMonOn;have j:=E.o2
 have b:MonOn (ExS S o) (exm m φ w o) (0,e):=by
  refine⟨E.exm_cl,⟨by show 0<o;omega,M.one⟩,E.exm_ass,?_,?_⟩
  ·rintro ⟨a,x⟩ ⟨ha,hx⟩
   simp only at ha hx;unfold exm;simp only[Nat.zero_add,if_neg (by omega:¬o<=a),E.ione,M.el x hx]
  ·rintro ⟨a,x⟩ ⟨ha,hx⟩
   simp only at ha hx;unfold exm;simp only[Nat.add_zero,if_neg (by omega:¬o<=a)];show(a,m x e)=(a,x)
   rw[M.er x hx]
 refine GrpOn.of_right b ?_;rintro⟨a,x⟩ ⟨ha,hx⟩;simp only at ha hx;by_cases i:a=0
 ·subst i
  obtain⟨y,hy,h1,_⟩:=E.grp.inv x hx;refine⟨(0,y),⟨by show 0<o;omega,hy⟩,?_⟩;unfold exm;simp only[Nat.add_zero,if_neg (by omega:¬o<=0)];show(0,m x y)=(0,e)
  rw[h1]
 ·obtain ⟨y,hy,h1,_⟩:=E.grp.inv _ (M.cl _ _ E.wS (E.icl (o-a) x hx))
  refine⟨(o-a,y),⟨by show o-a<o;omega,hy⟩,?_⟩;unfold exm;simp only[if_pos (by omega:o<=a+(o-a))];rw[<-M.ass _ _ _ E.wS (E.icl _ x hx) hy,h1,show a+(o-a)-o=0 by omega]
theorem GrpOn.carry {l:Type}{S':l->Prop}{r:l->l->l}{e':l}(G:GrpOn S m e) (f:α->l) (q:∀x,S x->S' (f x)) (i:∀y,S' y->∃x,S x/\f x=y) (u:f e=e')
  (k:∀x y,S x->S y->r (f x) (f y)=f (m x y)):GrpOn S' r e':=by
 subst u;refine⟨⟨?_,q e G.one,?_,?_,?_⟩,?_⟩
 ·intro x y hx hy
  obtain⟨a,ha,rfl⟩:=i x hx;obtain⟨b,j,rfl⟩:=i y hy;rw[k a b ha j];exact q _ (G.cl _ _ ha j)
 ·intro x y z hx hy w
  obtain⟨a,ha,rfl⟩:=i x hx;obtain⟨b,j,rfl⟩:=i y hy;obtain⟨c,p,rfl⟩:=i z w;rw[k a b ha j,k _ c (G.cl _ _ ha j) p,k b c j p,k a _ ha (G.cl _ _ j p),G.ass a b c ha j p]
 ·intro x hx
  obtain⟨a,ha,rfl⟩:=i x hx;rw[k e a G.one ha,G.el a ha]
 ·intro x hx
  obtain⟨a,ha,rfl⟩:=i x hx;rw[k a e ha G.one,G.er a ha]
 ·intro x hx
  obtain⟨a,ha,rfl⟩:=i x hx;obtain⟨b,j,h1,h2⟩:=G.inv a ha;exact⟨f b,q b j,by rw[k a b ha j,h1],by rw[k b a j ha,h2]⟩
end
end Go.Proofs.YtoakmefajbbggaaGreat
namespace Go.Proofs.YtoakmefajbbggaaGreat
open Go.RowKit
set_option maxHeartbeats 2000000 in
theorem l08At_zero (P:Pr) (hP:Valid P):AtOk P 0:=by
 intro w pv a b i A B r u y z m ha C D hB;obtain⟨vo,vp,vc,rfl,h3⟩:=m;have p:=hP.n6;have j:=PresP.box h3 28;obtain⟨E,capo,hco,hoi⟩:=j.ordAt;have e:(i:Int)=P.orders.length:=by omega
 have q:((P.orders.length:Int)<=(i:Int)):=by omega
 have F:=Lib.hid e;clear e;go_enter Tryz.func192,Tryz.ntmps192;go_wp2_with (at_make;refine wp_make_ints rfl _ _ rfl (w.heap.size+1) P.orders.length (w.heap.size+1) (by simp) _ rfl rfl rfl (by omega) (by simp) ?_;intro G k l _)
 go_ret;exact⟨_,rfl,grown_trans (World.grownBy_alloc _ _ _) l,k.weak (by omega)⟩
set_option maxHeartbeats 4000000 in
theorem l08At_succ (P:Pr) (hP:Valid P) (f:Nat) (ih:AtOk P f):AtOk P (f+1):=by
 intro w pv a b i A B Sp Sa Sb hi hp ha hb hA hB;obtain⟨vo,vp,vc,rfl,h3⟩:=hp;have bj:=hP.n6;have D:=PresP.box h3 28;have N:=ha.ext (World.grownBy_alloc w (.cells #[vo,vp,vc] 28) none);have O:=hb.ext (World.grownBy_alloc w (.cells #[vo,vp,vc] 28) none);have bk:A.length<=P.orders.length/\P.orders.length<=A.length:=by rw[hA.1];omega
 have bl:B.length<=P.orders.length/\P.orders.length<=B.length:=by rw[hB.1];omega
 have aJ:Ext w (w.alloc (.cells #[vo,vp,vc] 28)):=World.grownBy_alloc _ _ _;have ag:(w.alloc (.cells #[vo,vp,vc] 28)).heap.size=w.heap.size+1:=by simp
 have HS:=Lib.hid ag;clear ag;clear ha hb;go_enter Tryz.func192,Tryz.ntmps192;obtain⟨ao,capo,hco,k⟩:=D.ordAt;go_wp2_with fail
 clear hco k;generalize aL:w.alloc (.cells #[vo,vp,vc] 28)=w0 at *;clear aL;refine Calls.mono (l01Own_ok w0 a A Sa N (by omega)) ?_;rintro e1 w1 ⟨L,rfl,E,hL⟩;go_wp2_with fail
 refine Calls.mono (l01Own_ok w1 b B Sb (O.ext E) (by omega)) ?_;rintro e2 w2 ⟨R,rfl,Q,hR⟩;have F:=hL.ext0 Q;obtain⟨gl,capl,rfl,hbl,hsl⟩:=hL.form (by omega);obtain⟨gr,capr,rfl,hbr,hsr⟩:=hR.form (by omega);have ah:gl≠gr:=by omega
 have c1:=F.cell i (by omega);have f1:=F.frozen i;obtain⟨ai,S⟩:=F.store i 0;have G:=hR.ext S (.inr (by intro h;cases h;exact ah rfl));have c2:=G.cell i (by omega);have f2:=G.frozen i;obtain⟨aj,hg4⟩:=G.store i 0;have ak:=ai.ext hg4 (.inr (by intro h;cases h;exact ah rfl))
 have al:Ext w0 ((w2.setCell ⟨gl,i,none⟩ (.int .i64 0)).setCell ⟨gr,i,none⟩ (.int .i64 0)):=
  grown_own (grown_own (grown_trans E Q) S (λj hj an=>by cases hj;omega)) hg4 (λj hj an=>by cases hj;have:=E.size;omega)
 have aO:=hA.set i 0 ⟨by omega,λ_=>by have:=hP.ord7 i (by omega);omega⟩;have aq:=hB.set i 0 ⟨by omega,λ_=>by have:=hP.ord7 i (by omega);omega⟩;have bn:=E.size;have bq:=Q.size;have T:=hA.2 i (by omega);have U:=hB.2 i (by omega);have k:=hP.ord7 i (by omega);have a5:0<=gt A i:=T.1;have a6:0<=gt B i:=U.1;have a7:2<=gt P.orders i:=k.1;have a8:gt A i<gt P.orders i:=T.2;have a9:gt B i<gt P.orders i:=U.2;have a':gt P.orders i<=7:=k.2;clear T U k;go_wp2;clear c1 f1 c2 f2 F ai G hL hR;generalize aP:(w2.setCell ⟨gl,i,none⟩ (.int .i64 0)).setCell ⟨gr,i,none⟩ (.int .i64 0)=w4 at *;clear aP S hg4;obtain⟨ab,capb,rfl,_,_⟩:=O.shape;obtain⟨aa,capa,rfl,_,_⟩:=N.shape
 go_loopw [10,12] (λv mm wr=>∃m:Nat,mm=.int .i64 m/\m<=(gt B i).toNat/\Ext w4 wr /\
   Own (w.heap.size+1) wr v (iter m (λl=>rImage P f i l) (A.set i 0))) (λ_ mm _=>(gt B i).toNat-(intOf mm).toNat)
 case atStart=>exact⟨0,rfl,by omega,Ext.refl _,ak.weak (by have:=HS.out;omega)⟩
 case round=>
  obtain⟨m,rfl,hm,hg,hO⟩:=hrel;have H:Ext w0 wr:=grown_trans al hg;obtain⟨bb,ob,rfl,_,_,hcb⟩:=Ints.at (O.ext H) i (by omega);have V:Vec P.orders (iter m (λl=>rImage P f i l) (A.set i 0)):=iter_inv (Vec P.orders) _ (λy hy=>rImgTo_vec hP f i hi (rAt_vec hP f) _ _ (zeros_vec hP) f (Nat.le_refl _)) _ _ aO;have HV:=Lib.hid V;have W:=hO.ints (by rw[V.1];omega);clear V;obtain⟨ar,vp9,vc9,_,_,hc0,hc1,I,h39⟩:=(D.ext H).at;by_cases au:(m:Int)<gt B i
  ·go_wp2_with fail
   refine Calls.mono (l08Image_of P hP f ih wr _ _ i _ Any Any hi ⟨_,_,_,rfl,h39⟩ W HV.out) ?_;rintro e5 w5 ⟨v5,rfl,hg5,hO5⟩;go_wp2;go_roundw
   case rel=>exact⟨m+1,by go_num,by omega,grown_trans hg hg5,hO5.weak (by have:=H.size;have:=HS.out;omega)⟩
   case measure=>simp[intOf];omega
  ·have aS:m=(gt B i).toNat:=by omega
   subst aS;have av:=aj.ext0 hg;generalize r:iter (gt B i).toNat (λl=>rImage P f i l) (A.set i 0)=left at *;have HL:=Lib.hid r;clear r;go_wp2_with fail
   refine Calls.mono (ih wr _ _ _ (i+1) left (B.set i 0) Any Any Any (by omega) ⟨_,_,_,rfl,h39⟩ W (av.ints (by simp;omega)) HV.out aq) ?_;rintro e6 w6 ⟨rest,rfl,hg6,hr6⟩;have u:Ext w0 w6:=grown_trans H hg6;obtain⟨ba,oa,rfl,_,_,hca⟩:=Ints.at (N.ext u) i (by omega);have aw:w6.cell? ⟨bb,ob+i,none⟩=some (.int .i64 (gt B i)):=hg6.cell hcb (by simp);have ax:=rAt_vec hP f (i+1) _ _ (by omega) HV.out aq;have z:=Lib.hid ax;clear ax;clear hc0 hc1 I hcb W hO h39 av aj ak au hm;generalize C:rAt P f (i+1) left (B.set i 0)=e at *;have J:=Lib.hid C;clear C;have bu:i<A.length:=by omega
   have bc:i<B.length:=by omega
   have s1:IntKind.i64.wrap (gt A i+gt B i)=gt A i+gt B i:=IntWalk.i64_in _ (by omega);go_wp2;go_quiet (fail)
   clear s1 hca aw
   have K:rAt P (f+1) i A B=if gt P.orders i<=gt A i+gt B i then (rAt P f (i+1) (gt P.powers i) e).set i (gt A i+gt B i-gt P.orders i) else e.set i (gt A i+gt B i):=by
    rw[<-J.out,<-HL.out];rfl
   have HF:=Lib.hid K;clear K;rename_i nq _;have p:Ext w0 (w6.drewN nq):=grown_trans u (grown_drewN _ _ _);have ay:Own wr.heap.size (w6.drewN nq) rest e:=hr6;have X:=ay.ints (by rw[z.out.1];omega);have Y:=D.ext p;obtain⟨bw,capo7,hco,k⟩:=Y.ordAt;obtain⟨bo,oo,rfl,_,_,hcoi⟩:=Ints.at k i (by omega);obtain⟨ap,capp,Z,hpr⟩:=Y.powAt;obtain⟨bp,op,aU,ac,rfl,_,_,hcpi,aV⟩:=Rows2.at hpr i (by rw[hP.pl];omega);have bx:i<P.powers.length:=by rw[hP.pl];omega
   have bd:wr.heap.size<=(w6.drewN nq).heap.size:=hg6.size;clear hr6 u Y k hpr;generalize w6.drewN nq=M at *;by_cases hc:gt P.orders i<=gt A i+gt B i
   case' pos=>
    have az:=Lib.hid (HF.out.trans (if_pos hc));clear HF;obtain⟨ar,vp9,vc9,_,_,hc0,hc1,I,h39⟩:=(D.ext p).at;have s3:IntKind.i64.wrap ((i:Int)+1)=(i:Int)+1:=IntWalk.i64_in _ (by omega);have s4:IntKind.i64.wrap (gt A i+gt B i-gt P.orders i)=gt A i+gt B i-gt P.orders i:=IntWalk.i64_in _ (by omega);have e1:∀w',Ext M w'->w'.cell? ⟨w.heap.size,0,none⟩=some ar:=λw' h=>h.cell hc0 (by simp);have e2:∀w',Ext M w'->w'.cell? ⟨w.heap.size,1,none⟩=some (.slice (some ⟨bp,op,none⟩) P.powers.length capp):=λw' h=>h.cell (by simpa using Z) (by simp);have e3:∀w',Ext M w'->w'.cell? ⟨w.heap.size,2,none⟩=some vc9:=λw' h=>h.cell (by simpa using I) (by simp);have e4:∀w',Ext M w'->w'.cell? ⟨bp,op+i,none⟩=some (.slice aU (gt P.powers i).length ac):=λw' h=>h.cell hcpi (by simp)
    have aW:vp9=.slice (some ⟨bp,op,none⟩) P.powers.length capp:=by
     have:=hc1.symm.trans Z;simpa using this
    subst aW;have b3:(i:Int)<P.powers.length:=by omega
    have aA:=(hP.pv i (by omega)).1;have aB:=Lib.hid aA;clear aA;clear I hc1 Z;go_wp2;clear hco hcoi hcpi
    go_region_held3 (λw'=>Ext M w') (first|exact grown_drew _ _|exact ad)
      (first|(go_at_call 192;refine Calls.mono (Calls.rel (w0:=M) (by assumption) (ih _ _ _ _ (i+1) (gt P.powers i) e Any Any Any (by omega) ⟨_,_,_,rfl,Pres3.ext h39 (by assumption)⟩ (Ints.ext aV (by assumption)) (Ints.ext X (by assumption)) aB.out z.out)) ?_;rintro e8 w8 ⟨v8,rfl,ad,hsz8,aY⟩))
    have aC:=rAt_vec hP f (i+1) _ _ (by omega) aB.out z.out;have aD:(rAt P f (i+1) (gt P.powers i) e).length=P.orders.length:=aC.1;clear e1 e2 e3 e4 s3 s4 aC;go_wp2_with fail
    refine Calls.mono (l01Own_ok w8 v8 (rAt P f (i+1) (gt P.powers i) e) Any (aY.ints (by omega)) (by omega)) ?_;have bE:w0.heap.size<=w8.heap.size:=by have:=p.size;have:=ad.size;omega
    have q:Ext w0 w8:=grown_trans p ad;generalize rAt P f (i+1) (gt P.powers i) e=fin at *;generalize ae:gt A i+gt B i-gt P.orders i=cc at *
   case' neg=>
    have az:=Lib.hid (HF.out.trans (if_neg hc));clear HF;have aD:e.length=P.orders.length:=z.out.1;go_wp2_with fail
    refine Calls.mono (l01Own_ok M rest e Any X (by omega)) ?_;have q:Ext w0 M:=p;generalize ae:gt A i+gt B i=cc at *;clear X ay z J;generalize e=fin at *
   all_goals
    have bF:=Lib.hid ae;clear ae;have bf:fin.length<=P.orders.length/\P.orders.length<=fin.length:=by omega
    clear aD;rintro e9 w9 ⟨v9,rfl,aZ,hO9⟩;obtain⟨g9,cap9,rfl,hb9,hs9⟩:=hO9.form (by omega);have c9:=hO9.cell i (by omega);have f9:=hO9.frozen i;obtain⟨aE,aF⟩:=hO9.store i cc;have bG:i<fin.length:=by omega
    go_wp2;go_ret;refine⟨_,rfl,?_,?_⟩
    ·exact grown_trans aJ (grown_own (grown_trans q aZ) aF (λj hj an=>by cases hj;have:=q.size;omega))
    ·rw[az.out];exact aE.weak (by have:=q.size;have:=HS.out;omega)
theorem l08At_ok (P:Pr) (hP:Valid P) (f:Nat):AtOk P f:=by
 induction f with
 | zero=>exact l08At_zero P hP
 | succ f a=>exact l08At_succ P hP f a
def rMul (P:Pr) (A B:List Int):List Int:=rAt P P.orders.length 0 A B
set_option maxHeartbeats 1000000 in
theorem l08Mul_ok (P:Pr) (hP:Valid P) (w:World) (pv a b:Value) (A B:List Int) (k i j:Nat->Prop) (l:PresV k w pv P) (ha:Ints i w a A) (m:Ints j w b B) (p:Vec P.orders A) (hB:Vec P.orders B) :
  Calls Tryz.prog 169 #[pv,a,b] w (Ret w λw' v=>Own w.heap.size w' v (rMul P A B)):=by
 obtain⟨vo,vp,vc,rfl,q⟩:=l;go_enter Tryz.func169,Tryz.ntmps169;obtain⟨r,vp9,vc9,_,_,hc0,hc1,hc2,h39⟩:=(PresP.box q 28).at;go_wp2_with fail
 refine Calls.mono (l08At_ok P hP P.orders.length _ _ _ _ 0 A B Any i j (by omega) ⟨_,_,_,rfl,h39⟩ (ha.ext (World.grownBy_alloc _ _ _)) (m.ext (World.grownBy_alloc _ _ _)) p hB) ?_;rintro u y ⟨v1,rfl,e,hO1⟩;go_wp2;go_ret;exact⟨_,rfl,grown_trans (World.grownBy_alloc _ _ _) e,hO1.weak (by simp)⟩
set_option maxHeartbeats 4000000 in
theorem sIsPresentation_ok (w:World) (pv:Value) (P:Pr) (S:Nat->Prop) (hp:PresV S w pv P) :
  Calls Tryz.prog 57 #[pv] w (Ret w λ_ v=>v=.bool (validB P)):=by
 obtain⟨vo,vp,vc,rfl,h3⟩:=hp;have e:=PresP.box h3 28;have p:Ext w (w.alloc (.cells #[vo,vp,vc] 28)):=World.grownBy_alloc _ _ _;go_enter Tryz.func57,Tryz.ntmps57;obtain⟨ao,capo,hco,N⟩:=e.ordAt;obtain⟨ap,capp,hcp,hpi⟩:=e.powAt;obtain⟨ac,capc,hcc,hci⟩:=e.conjAt;by_cases h6:P.orders.length<=6;rotate_left
 ·have I:decide ((6:Int)<(P.orders.length:Int))=true:=by simp;omega
  go_wp2;go_ret;exact ret_bool p (validB_false (λh=>h6 h.n6)).symm
 have af:decide ((6:Int)<(P.orders.length:Int))=false:=by simp;omega
 by_cases q:P.powers.length=P.orders.length;rotate_left
 ·have I:((P.powers.length:Int) != (P.orders.length:Int))=true:=by simp;omega
  have HP:=Lib.hid q;clear q;go_wp2;go_ret;exact ret_bool p (validB_false (λh=>HP.out h.pl)).symm
 have ag:((P.powers.length:Int) != (P.orders.length:Int))=false:=by simp[q]
 by_cases z:P.conj.length=P.orders.length;rotate_left
 ·have I:((P.conj.length:Int) != (P.orders.length:Int))=true:=by simp;omega
  have HP:=Lib.hid q;clear q;have HC:=Lib.hid z;clear z;go_wp2;go_ret;exact ret_bool p (validB_false (λh=>HC.out h.cl)).symm
 have ai:((P.conj.length:Int) != (P.orders.length:Int))=false:=by simp[z]
 have ax:P.powers.length<=P.orders.length/\P.orders.length<=P.powers.length:=by omega
 have ay:P.conj.length<=P.orders.length/\P.orders.length<=P.conj.length:=by omega
 have HP:=Lib.hid q;clear q;have HC:=Lib.hid z;clear z;go_wp2;clear af ag ai;generalize aj:w.alloc (.cells #[vo,vp,vc] 28)=w0 at *;clear aj;go_loop [4] (λi=>∃k:Nat,i=.int .i64 k/\k<=P.orders.length/\∀i,i<k->primeB (gt P.orders i)=true) (λi=>P.orders.length-(intOf i).toNat)
 case atStart=>exact⟨0,rfl,by omega,λi a=>by omega⟩
 case round =>
  obtain⟨k,rfl,hk,hz⟩:=hrel;have HZ:=Lib.hid hz;clear hz;by_cases y:k<P.orders.length
  ·obtain ⟨b,off,rfl,_,_,hc⟩:=Ints.at N k y
   cases hx:primeB (gt P.orders k) with
   | false=>
    have O:=Lib.hid hx;go_wp2_with (go_at_call 117;refine(l01Prime_ok _ _).mono ?_;rintro e1 w1 ⟨rfl,rfl⟩)
    go_ret;exact ret_bool p (validB_false (λh=>by have:=primeB_true.2 (h.ord k y);rw[O.out] at this;cases this)).symm
   | true=>
    have O:=Lib.hid hx;go_wp2_with (go_at_call 117;refine(l01Prime_ok _ _).mono ?_;rintro e1 w1 ⟨rfl,rfl⟩)
    go_round
    case rel=>exact⟨k+1,by go_num,by omega,λi a=>by
      rcases Nat.lt_or_ge i k with h1|h1
      ·exact HZ.out i h1
      ·have:i=k:=by omega
       rw[this];exact O.out⟩
    case measure=>simp[intOf];omega
  ·have Q : k=P.orders.length:=by omega
   subst Q;have J:∀i,i<P.orders.length->1<=gt P.orders i/\gt P.orders i<=7:=λi a=>by have:=primeB_true.1 (HZ.out i a);omega
   have V:=Lib.hid J;clear J;have K:=capTo_le (l:=P.orders) P.orders.length (λi a=>(V.out i a).1);have R:=Lib.hid K;clear K;by_cases L:capTo P.orders P.orders.length<=729;rotate_left
   ·have I:decide ((729:Int)<capTo P.orders P.orders.length)=true:=by simp;omega
    go_wp2_with (go_at_call 118;refine(l07Product_ok _ _ P.orders Any N V.out).mono ?_;rintro e1 w1 ⟨rfl,rfl⟩)
    go_ret;exact ret_bool p (validB_false (λh=>by have:=R.out.1.2 h.le729;omega)).symm
   have I:decide ((729:Int)<capTo P.orders P.orders.length)=false:=by simp;omega
   go_wp2_with (go_at_call 118;refine(l07Product_ok _ _ P.orders Any N V.out).mono ?_;rintro e1 w1 ⟨rfl,rfl⟩)
   have an:=Lib.hid (R.out.1.1 L);have A:∀i,i<P.orders.length->0<=gt P.orders i/\gt P.orders i<=7:=λi a=>by have:=V.out i a;omega
   have B:=Lib.hid A;clear A;clear hcc hcp hco I L V R;go_loopw [5] (λi wr=>∃k:Nat,i=.int .i64 k/\k<=P.orders.length/\Dr w0 wr/\∀i,i<k->tailB P.orders i (gt P.powers i)=true/\(gt P.conj i).length=P.orders.length-1-i/\∀j,j<P.orders.length-1-i->tailB P.orders i (gt (gt P.conj i) j)=true) (λi _=>P.orders.length-(intOf i).toNat)
   case atStart=>exact⟨0,rfl,by omega,Dr.refl _,λi a=>by omega⟩
   case round =>
    obtain⟨k,rfl,hk,C,hz⟩:=hrel;have G:=Lib.hid hz;clear hz;have T:Ext w wr:=grown_trans p C.ext;by_cases y:k<P.orders.length
    ·obtain ⟨aB,capo5,hco,r⟩:=(e.ext C.ext).ordAt
     obtain⟨ap,capp,hcp,hpi⟩:=(e.ext C.ext).powAt;obtain⟨ac,capc,hcc,hci⟩:=(e.ext C.ext).conjAt;obtain⟨b1,o1,a2,cap2,rfl,_,_,hc2,H⟩:=Rows2.at hpi k (by omega);obtain⟨b3,o3,a4,cap4,rfl,_,_,hc4,hi4⟩:=Rows3.at hci k (by omega);have D:expZB P.orders (gt P.powers k) k=false->validB P=false:=λhx=>validB_false (λh=>by have:=expZB_vec.2 (h.pv k y);rw[hx] at this;cases this);have E:¬(gt P.conj k).length=P.orders.length-1-k->validB P=false:=λhx=>validB_false (λh=>hx (h.cv k y).1);have F:∀j,j<P.orders.length-1-k->expZB P.orders (gt (gt P.conj k) j) k=false->validB P=false:=λj hj hx=>validB_false (λh=>by have:=expZB_vec.2 ((h.cv k y).2 j hj);rw[hx] at this;cases this);have aq:=Lib.hid D;have ar:=Lib.hid E;have au:=Lib.hid F;clear D E F;have b5:(0:Int)<=k:=by omega
     have b6:(k:Int)<P.powers.length:=by omega
     have b7:(k:Int)<P.conj.length:=by omega
     have s1:IntKind.i64.wrap ((P.orders.length:Int)-1)=(P.orders.length:Int)-1:=IntWalk.i64_in _ (by omega);have s2:IntKind.i64.wrap ((P.orders.length:Int)-1-k)=(P.orders.length:Int)-1-k:=IntWalk.i64_in _ (by omega);cases hx:expZB P.orders (gt P.powers k) k with
     | false=>
      have O:=Lib.hid hx;go_wp2;go_quiet ((go_at_call 119;exact quiet_rd (l07Exponents_ok _ _ _ P.orders (gt P.powers k) k Any Any (r.ext (grown_drewN _ _ _)) (H.ext (grown_drewN _ _ _)) B.out)))
      go_wp2;go_ret;exact ret_bool (grown_trans T (grown_drewN _ _ _)) (aq.out O.out).symm
     | true =>
      have O:=Lib.hid hx;by_cases u:(gt P.conj k).length=P.orders.length-1-k
      ·have I:(((gt P.conj k).length:Int) != (P.orders.length:Int)-1-k)=false:=by simp;omega
       have aG:(gt P.conj k).length<=P.orders.length-1-k/\P.orders.length-1-k<=(gt P.conj k).length:=by omega
       have U:=Lib.hid u;clear u;go_wp2;go_quiet ((go_at_call 119;exact quiet_rd (l07Exponents_ok _ _ _ P.orders (gt P.powers k) k Any Any (r.ext (grown_drewN _ _ _)) (H.ext (grown_drewN _ _ _)) B.out)))
       rename_i nq _;have W:=C.step nq;clear I hx hcp hc2 s1 s2 b6;have X:Rows3 Any (wr.drewN nq) (.slice (some ⟨b3,o3,none⟩) P.conj.length capc) P.conj:=hci;go_wp2;go_loopw [6] (λi wr=>∃j:Nat,i=.int .i64 j/\j<=(gt P.conj k).length/\Dr w0 wr/\∀i,i<j->expZB P.orders (gt (gt P.conj k) i) k=true) (λi _=>(gt P.conj k).length-(intOf i).toNat)
       case atStart=>exact⟨0,rfl,by omega,W,λi a=>by omega⟩
       case round=>
        clear hcc hc4 hi4 H hci hpi X r;obtain⟨j,rfl,hj,m,hz⟩:=hrel;have Y:=Lib.hid hz;clear hz;have Z:Ext w wr:=grown_trans p m.ext;obtain⟨aH,capo7,hco,M⟩:=(e.ext m.ext).ordAt;obtain⟨aI,capc7,hcc,hci⟩:=(e.ext m.ext).conjAt;obtain⟨b8,o8,a8,cap8,rfl,_,_,hc8,hi8⟩:=Rows3.at hci k (by omega);by_cases aa:j<(gt P.conj k).length
        ·obtain ⟨b9,o9,a9,cap9,rfl,_,_,hc9,ab⟩:=Rows2.at hi8 j aa
         have aJ:(j:Int)<(gt P.conj k).length:=by omega
         have aK:(0:Int)<=j:=by omega
         cases hy:expZB P.orders (gt (gt P.conj k) j) k with
         | false=>
          have HY:=Lib.hid hy;go_wp2;go_quiet ((go_at_call 119;exact quiet_rd (l07Exponents_ok _ _ _ P.orders (gt (gt P.conj k) j) k Any Any (M.ext (grown_drewN _ _ _)) (ab.ext (grown_drewN _ _ _)) B.out)))
          go_wp2;go_ret;exact ret_bool (grown_trans Z (grown_drewN _ _ _)) (au.out j (by omega) HY.out).symm
         | true=>
          have HY:=Lib.hid hy;go_wp2;go_quiet ((go_at_call 119;exact quiet_rd (l07Exponents_ok _ _ _ P.orders (gt (gt P.conj k) j) k Any Any (M.ext (grown_drewN _ _ _)) (ab.ext (grown_drewN _ _ _)) B.out)))
          go_wp2;go_roundw
          case rel=>exact⟨j+1,by go_num,by omega,m.step _,λi a=>by
           rcases Nat.lt_or_ge i j with h1|h1
           ·exact Y.out i h1
           ·have:i=j:=by omega
            rw[this];exact HY.out⟩
          case measure=>simp[intOf];omega
        ·have aL:j=(gt P.conj k).length:=by omega
         go_wp2;go_roundw
         case rel=>exact⟨k+1,by go_num,by omega,m,λi a=>by
          rcases Nat.lt_or_ge i k with h1|h1
          ·exact G.out i h1
          ·have:i=k:=by omega
           rw[this];exact⟨tailB_vec.2 (expZB_vec.1 O.out),U.out,λi a=>tailB_vec.2 (expZB_vec.1 (Y.out i (by omega)))⟩⟩
         case measure=>simp[intOf];omega
      ·have I:(((gt P.conj k).length:Int) != (P.orders.length:Int)-1-k)=true:=by simp;omega
       have U:=Lib.hid u;clear u;go_wp2;go_quiet ((go_at_call 119;exact quiet_rd (l07Exponents_ok _ _ _ P.orders (gt P.powers k) k Any Any (r.ext (grown_drewN _ _ _)) (H.ext (grown_drewN _ _ _)) B.out)))
       go_wp2;go_ret;exact ret_bool (grown_trans T (grown_drewN _ _ _)) (ar.out U.out).symm
    ·have Q:k=P.orders.length:=by omega
     subst Q;go_wp2;go_ret;refine ret_bool T (validB_true ?_).symm
     exact ⟨an.out,h6,HP.out,HC.out,λi a=>primeB_true.1 (HZ.out i a),λi a=>tailB_vec.1 (G.out i a).1,
      λi a=>⟨(G.out i a).2.1,λj hj=>tailB_vec.1 ((G.out i a).2.2 j hj)⟩⟩
def rFrom (P:Pr):Nat->Nat->List Int->List Int
 | 0,_,_=>zeros P.orders.length
 | f + 1,i,X=>
  let out:=rFrom P f (i+1) (X.set i 0)
  if gt X i=0 then out else
   rAt P (f+1) i (rAt P (f+1) i out ((zeros P.orders.length).set i (gt P.orders i-gt X i))) (rFrom P f (i+1) (gt P.powers i))
theorem rFrom_vec {P:Pr}(hP:Valid P) (f:Nat):∀i X,i+f=P.orders.length->Vec P.orders X->Vec P.orders (rFrom P f i X):=by
 induction f with
 | zero=>intro i X _ _;exact zeros_vec hP
 | succ f a=>
  intro i X b e;have j:=hP.ord7 i (by omega);have hx:=e.2 i (by omega);have h1:=a (i+1) (X.set i 0) (by omega) (e.set i 0 ⟨by omega,λ_=>by omega⟩);simp only[rFrom];split
  ·exact h1
  ·exact rAt_vec hP _ _ _ _ b (rAt_vec hP _ _ _ _ b h1 ((zeros_vec hP).set i _ ⟨by omega,λ_=>by omega⟩)) (a (i+1) _ (by omega) (hP.pv i (by omega)).1)
def FromOk (P:Pr) (f:Nat):Prop:=
 ∀ (w:World) (pv x:Value) (i:Nat) (X:List Int) (a b:Nat->Prop),i+f=P.orders.length->PresV a w pv P->Ints b w x X->Vec P.orders X ->
  Calls Tryz.prog 131 #[pv,.int .i64 i,x] w (Ret w λw' v=>Own w.heap.size w' v (rFrom P f i X))
set_option maxHeartbeats 2000000 in
theorem l10From_zero (P:Pr) (hP:Valid P):FromOk P 0:=by
 intro w pv x i X m p q j hx r;obtain⟨vo,vp,vc,rfl,h3⟩:=j;have k:=hP.n6;have a:=PresP.box h3 28;obtain⟨u,capo,hco,hoi⟩:=a.ordAt;have l:((P.orders.length:Int)<=(i:Int)):=by omega
 go_enter Tryz.func131,Tryz.ntmps131;go_wp2_with (at_make;refine wp_make_ints rfl _ _ rfl (w.heap.size+1) P.orders.length (w.heap.size+1) (by simp) _ rfl rfl rfl (by omega) (by simp) ?_;intro y b e _)
 go_ret;exact⟨_,rfl,grown_trans (World.grownBy_alloc _ _ _) e,b.weak (by omega)⟩
set_option maxHeartbeats 4000000 in
theorem l10From_succ (P:Pr) (hP:Valid P) (f:Nat) (ih:FromOk P f):FromOk P (f+1):=by
 intro w pv x i X Sp Sx hi hp hx hX;obtain⟨vo,vp,vc,rfl,h3⟩:=hp;have aU:=hP.n6;have q:=PresP.box h3 28;have C:Ext w (w.alloc (.cells #[vo,vp,vc] 28)):=World.grownBy_alloc _ _ _;have r:=hx.ext C;have aV:X.length<=P.orders.length/\P.orders.length<=X.length:=by rw[hX.1];omega
 have N:(w.alloc (.cells #[vo,vp,vc] 28)).heap.size=w.heap.size+1:=by simp
 have HS:=Lib.hid N;clear N hx;obtain⟨ax,capx,rfl,_,_⟩:=r.shape;go_enter Tryz.func131,Tryz.ntmps131;obtain⟨ao,capo,hco,k⟩:=q.ordAt;go_wp2_with fail
 clear hco k;generalize ak:w.alloc (.cells #[vo,vp,vc] 28)=w0 at *;clear ak;refine Calls.mono (l01Own_ok w0 _ X Sx r (by omega)) ?_;rintro e1 w1 ⟨R,rfl,hg1,hR⟩;obtain⟨gr,capr,rfl,hbr,hsr⟩:=hR.form (by omega);have c1:=hR.cell i (by omega);have f1:=hR.frozen i;obtain⟨O,hg2⟩:=hR.store i 0;have u:Ext w0 (w1.setCell ⟨gr,i,none⟩ (.int .i64 0)):=grown_own hg1 hg2 (λj Q S=>by cases Q;omega);obtain⟨aW,vp9,vc9,_,_,hc0,y,z,h39⟩:=(q.ext u).at;have D:=hP.ord7 i (by omega);have E:=hX.2 i (by omega);have aX:0<=gt X i:=E.1;have aY:gt X i<gt P.orders i:=E.2;have aZ:2<=gt P.orders i:=D.1;have a0:gt P.orders i<=7:=D.2;have T:=hX.set i 0 ⟨by omega,λ_=>by omega⟩;clear E D;go_wp2_with fail
 clear c1 f1 hc0 y z;generalize am:w1.setCell ⟨gr,i,none⟩ (.int .i64 0)=w2 at *;clear am;refine Calls.mono (ih w2 _ _ (i+1) (X.set i 0) Any Any (by omega) ⟨_,_,_,rfl,h39⟩ (O.ints (by simp;omega)) T) ?_;rintro e3 e ⟨out,rfl,hg3,F⟩;have b:Ext w0 e:=grown_trans u hg3;obtain⟨bx,ox,rfl,_,_,hcx⟩:=Ints.at (r.ext b) i (by omega);by_cases M:gt X i=0
 ·have hb:(gt X i == 0)=true:=by simp[M]
  have HZ:=Lib.hid M;clear M;go_wp2;go_ret;exact⟨_,rfl,grown_trans C b,by simp only[rFrom,if_pos HZ.out];exact F.weak (by have:=u.size;have:=HS.out;omega)⟩
 ·have hb:(gt X i == 0)=false:=by simp[M]
  have HZ:=Lib.hid M;clear M;have aM:w0.heap.size<=e.heap.size:=b.size;go_wp2_with (at_make;refine wp_make_ints rfl _ _ rfl e.heap.size P.orders.length e.heap.size rfl _ rfl rfl rfl (by omega) (by simp) ?_;intro U A V aN)
  clear hcx hb;have l:Ext w0 U:=grown_trans b V;obtain⟨a2,capo4,hco,k⟩:=q.ordAt;obtain⟨bo,oo,rfl,_,_,hcoi⟩:=Ints.at k i (by omega);obtain⟨W,ox4,hxe,_,_,hcx⟩:=Ints.at r i (by omega);obtain⟨rfl,rfl⟩:W=bx/\ox4=ox:=by cases hxe;exact⟨rfl,rfl⟩
  clear hxe;have c4:=A.cell i (by simp;omega);have f4:=A.frozen i;obtain⟨Y,G⟩:=A.store i (gt P.orders i-gt X i);have a3:(i:Int)<P.orders.length:=by omega
  have a4:(i:Int)<X.length:=by omega
  have a5:(0:Int)<=i:=by omega
  have s1:IntKind.i64.wrap (gt P.orders i-gt X i)=gt P.orders i-gt X i:=IntWalk.i64_in _ (by omega)
  have a:Ext w0 (U.setCell ⟨e.heap.size,i,none⟩ (.int .i64 (gt P.orders i-gt X i))).drew:=
   grown_trans (grown_own l G (λj Q S=>by cases Q;omega)) (grown_drew _ _)
  have Z:Ext e (U.setCell ⟨e.heap.size,i,none⟩ (.int .i64 (gt P.orders i-gt X i))).drew:=
   grown_trans (grown_own V G (λj Q S=>by cases Q;omega)) (grown_drew _ _)
  have aa:Own e.heap.size (U.setCell ⟨e.heap.size,i,none⟩ (.int .i64 (gt P.orders i-gt X i))).drew (.slice (some ⟨e.heap.size,0,none⟩) P.orders.length P.orders.length) ((List.replicate P.orders.length 0).set i (gt P.orders i-gt X i)):=Y;have e1:∀w',Ext w0 w'->w'.cell? ⟨w.heap.size,0,none⟩=some (.slice (some ⟨bo,oo,none⟩) P.orders.length capo4):=λw' h=>h.cell hco (by simp);have e2:∀w',Ext w0 w'->w'.cell? ⟨bo,oo+i,none⟩=some (.int .i64 (gt P.orders i)):=λw' h=>h.cell hcoi (by simp);have e3:∀w',Ext w0 w'->w'.cell? ⟨W,ox4+i,none⟩=some (.int .i64 (gt X i)):=λw' h=>h.cell hcx (by simp);clear hco hcoi hcx;go_region_held3 (λw'=>Ext w0 w') (first|exact grown_trans l (grown_drew _ _)|exact a) (fail)
  clear e1 e2 e3 s1 c4 f4;clear G Y;generalize aq:(U.setCell ⟨e.heap.size,i,none⟩ (.int .i64 (gt P.orders i-gt X i))).drew=m at *;clear aq;obtain⟨ar,vp6,vc6,_,_,hc0,y,z,h36⟩:=(q.ext a).at;obtain⟨ap,capp,rfl,_,_⟩:=Sl.shape h36.p;obtain⟨bp,op,au,H,rfl,_,_,hcpi,av⟩:=Rows2.at h36.p i (by rw[hP.pl];omega);have a7:(i:Int)<P.powers.length:=by rw[hP.pl];omega
  have B:=rFrom_vec hP f (i+1) _ (by omega) T;have I:Vec P.orders ((zeros P.orders.length).set i (gt P.orders i-gt X i)):=(zeros_vec hP).set i _ ⟨by omega,λ_=>by have:=HZ.out;omega⟩;have J:=rAt_vec hP (f+1) i _ _ hi B I;have K:=(hP.pv i (by omega)).1;have L:=rFrom_vec hP f (i+1) _ (by omega) K;have ab:=B.1;have ac:=J.1;have ad:=L.1;have k:=(F.ext0 Z).ints (by omega);have aw:Ints Any m (.slice (some ⟨e.heap.size,0,none⟩) P.orders.length P.orders.length) ((zeros P.orders.length).set i (gt P.orders i-gt X i)):=Own.ints aa (by rw[List.length_set];simp[zeros];omega);have ay:=Lib.hid B;have az:=Lib.hid I;have aA:=Lib.hid J;have aB:=Lib.hid K;have aC:=Lib.hid L;have a8:=Lib.hid ab;have aD:=Lib.hid ac;have aE:=Lib.hid ad;clear B I J K L ab ac ad u b l F aa A O;have aR:w.heap.size<=m.heap.size:=by have:=a.size;have:=HS.out;omega
  have e1:∀w',Ext m w'->w'.cell? ⟨w.heap.size,0,none⟩=some ar:=λw' h=>h.cell hc0 (by simp);have e2:∀w',Ext m w'->w'.cell? ⟨w.heap.size,1,none⟩=some (.slice (some ⟨bp,op,none⟩) P.powers.length capp):=λw' h=>h.cell (by simpa using y) (by simp);have e3:∀w',Ext m w'->w'.cell? ⟨w.heap.size,2,none⟩=some vc6:=λw' h=>h.cell (by simpa using z) (by simp);have e4:∀w',Ext m w'->w'.cell? ⟨bp,op+i,none⟩=some (.slice au (gt P.powers i).length H):=λw' h=>h.cell hcpi (by simp);have s3:IntKind.i64.wrap ((i:Int)+1)=(i:Int)+1:=IntWalk.i64_in _ (by omega);clear hc0 y z hcpi;go_wp2
  go_region_held3 (λw'=>Ext m w') (first|exact grown_drew _ _|assumption)
   (first
    | (go_at_call_of 192 (out);refine Calls.mono (Calls.rel (w0:=m) (by assumption) (l08At_ok P hP (f+1) _ _ _ _ i _ _ Any Any Any hi ⟨_,_,_,rfl,Pres3.ext h36 (by assumption)⟩ (Ints.ext k (by assumption)) (Ints.ext aw (by assumption)) ay.out az.out)) ?_;rintro eA wA ⟨vA,rfl,hgA,hsA,aF⟩)
    | (go_at_call 131;refine Calls.mono (Calls.rel2 (w0:=m) (by assumption) (ih _ _ _ (i+1) _ Any Any (by omega) ⟨_,_,_,rfl,Pres3.ext h36 (by assumption)⟩ (Ints.ext av (by assumption)) aB.out)) ?_;rintro eF wF ⟨vF,rfl,hgF,ae,hsF,hOF⟩;have af:=(aF.ext0 ae).ints (by rw[aD.out];omega);have ag:=hOF.ints (by rw[aE.out];omega))
    | (go_at_call 192;refine Calls.mono (Calls.rel (w0:=m) (by assumption) (l08At_ok P hP (f+1) _ _ _ _ i _ _ Any Any Any hi ⟨_,_,_,rfl,Pres3.ext h36 (by assumption)⟩ af ag aA.out aC.out)) ?_;rintro eB wB ⟨vB,rfl,aG,hsB,hOB⟩))
  go_wp2;go_ret;refine⟨_,rfl,grown_trans C (grown_trans a aG),?_⟩;simp only[rFrom,if_neg HZ.out];exact hOB.weak (by omega)
theorem l10From_ok (P:Pr) (hP:Valid P) (f:Nat):FromOk P f:=by
 induction f with
 | zero=>exact l10From_zero P hP
 | succ f a=>exact l10From_succ P hP f a
def rInv (P:Pr) (X:List Int):List Int:=rFrom P P.orders.length 0 X
theorem rInv_vec {P:Pr}(hP:Valid P) (X:List Int) (a:Vec P.orders X):Vec P.orders (rInv P X):=rFrom_vec hP _ 0 X (by omega) a
theorem rMul_vec {P:Pr}(hP:Valid P) (A B:List Int) (a:Vec P.orders A) (hB:Vec P.orders B):Vec P.orders (rMul P A B):=rAt_vec hP _ 0 A B (by omega) a hB
set_option maxHeartbeats 1000000 in
theorem l10Inv_ok (P:Pr) (hP:Valid P) (w:World) (pv x:Value) (X:List Int) (e b:Nat->Prop) (i:PresV e w pv P) (hx:Ints b w x X) (j:Vec P.orders X) :
  Calls Tryz.prog 67 #[pv,x] w (Ret w λw' v=>Own w.heap.size w' v (rInv P X)):=by
 obtain⟨vo,vp,vc,rfl,k⟩:=i;go_enter Tryz.func67,Tryz.ntmps67;obtain⟨l,vp9,vc9,_,_,hc0,hc1,hc2,h39⟩:=(PresP.box k 28).at;go_wp2_with fail
 refine Calls.mono (l10From_ok P hP P.orders.length _ _ _ 0 X Any b (by omega) ⟨_,_,_,rfl,h39⟩ (hx.ext (World.grownBy_alloc _ _ _)) j) ?_;rintro m p ⟨v1,rfl,a,hO1⟩;go_wp2;go_ret;exact⟨_,rfl,grown_trans (World.grownBy_alloc _ _ _) a,hO1.weak (by simp)⟩
def rConj (P:Pr) (A B:List Int):List Int:=rMul P (rInv P B) (rMul P A B)
set_option maxHeartbeats 2000000 in
theorem l10Conj_ok (P:Pr) (hP:Valid P) (w:World) (pv a b:Value) (A B:List Int) (L I J:Nat->Prop) (M:PresV L w pv P) (ha:Ints I w a A) (K:Ints J w b B) (y:Vec P.orders A) (hB:Vec P.orders B) :
  Calls Tryz.prog 213 #[pv,a,b] w (Ret w λw' v=>Own w.heap.size w' v (rConj P A B)):=by
 obtain⟨vo,vp,vc,rfl,h3⟩:=M;have N:=hP.n6;have i:=(rInv_vec hP B hB).1;have j:=(rMul_vec hP A B y hB).1;have z:=Lib.hid i;have C:=Lib.hid j;clear i j;have e:Ext w (w.alloc (.cells #[vo,vp,vc] 28)):=World.grownBy_alloc _ _ _;have D:=PresP.box h3 28;have E:=ha.ext e;have k:=K.ext e;have l:(w.alloc (.cells #[vo,vp,vc] 28)).heap.size=w.heap.size+1:=by simp
 have O:=Lib.hid l;clear l ha K;go_enter Tryz.func213,Tryz.ntmps213;go_wp2;generalize F:w.alloc (.cells #[vo,vp,vc] 28)=w0 at *;clear F;obtain⟨G,vp6,vc6,_,_,hc0,m,p,h36⟩:=D.at;have Q:∀w',Ext w0 w'->w'.cell? ⟨w.heap.size,0,none⟩=some G:=λw' h=>h.cell hc0 (by simp);have R:∀w',Ext w0 w'->w'.cell? ⟨w.heap.size,1,none⟩=some vp6:=λw' h=>h.cell (by simpa using m) (by simp);have S:∀w',Ext w0 w'->w'.cell? ⟨w.heap.size,2,none⟩=some vc6:=λw' h=>h.cell (by simpa using p) (by simp);clear hc0 m p
 go_region_held3 (λw'=>Ext w0 w') (first|exact grown_drew _ _|assumption)
  (first
   | (go_at_call 67;refine Calls.mono (Calls.rel (w0:=w0) (by assumption) (l10Inv_ok P hP _ _ _ _ Any Any ⟨_,_,_,rfl,Pres3.ext h36 (by assumption)⟩ (Ints.sub (Ints.ext k (by assumption)) (λ_ _ _=>trivial)) hB)) ?_;rintro T U ⟨V,rfl,hgA,hsA,H⟩)
   | (go_at_call_of 169 (a);refine Calls.mono (Calls.rel2 (w0:=w0) (by assumption) (l08Mul_ok P hP _ _ _ _ _ _ Any I J ⟨_,_,_,rfl,Pres3.ext h36 (by assumption)⟩ (Ints.ext E (by assumption)) (Ints.ext k (by assumption)) y hB)) ?_;rintro W X ⟨Y,rfl,hgF,q,hsF,hOF⟩;have r:=(H.ext0 q).ints (by rw[z.out];omega);have u:=hOF.ints (by rw[C.out];omega))
   | (go_at_call 169;refine Calls.mono (Calls.rel (w0:=w0) (by assumption) (l08Mul_ok P hP _ _ _ _ _ _ Any Any Any ⟨_,_,_,rfl,Pres3.ext h36 (by assumption)⟩ r u (rInv_vec hP B hB) (rMul_vec hP A B y hB))) ?_;rintro Z wB ⟨vB,rfl,hgB,hsB,hOB⟩))
 clear Q R S;go_wp2;go_ret;exact⟨_,rfl,grown_trans e hgB,hOB.weak (by have:=O.out;omega)⟩
def TgenOk (P:Pr) (a:Nat):Prop:=
 ∀ (base:Nat) (w:World) (p e:Value) (E:List Int) (j:Nat),PresP (Off e.ownBlock) w p P->Own base w e E->Vec P.orders E->j<P.orders.length->P.orders.length<=a+j ->
  Calls Tryz.prog 89 #[p,e,.int .i64 j] w (Mut w e.ownBlock λw' v=>v=.tuple #[]/\Own base w' e (tgen P a E j))
set_option maxHeartbeats 1000000 in
theorem timesVector_of (P:Pr) (hP:Valid P) (l:Nat) (M:TgenOk P l) (base:Nat) (w:World) (p e f:Value) (E F:List Int) (N:PresP (Off e.ownBlock) w p P) (O:Own base w e E)
  (Q:Vec P.orders E) (R:Ints (Off e.ownBlock) w f F) (hF:Vec P.orders F) (J:∀j,j<P.orders.length->gt F j≠0->P.orders.length<=l+j) :
  Calls Tryz.prog 128 #[p,e,f] w (Mut w e.ownBlock λw' v=>v=.tuple #[]/\Own base w' e (tvec (tgen P l) E F)):=by
 have S:F.length<=P.orders.length:=by rw[hF.1];omega
 obtain⟨a,cap,rfl,hl,hcf⟩:=R;go_enter Tryz.func128,Tryz.ntmps128;go_wp2;go_loopw [10] (λi wr=>∃k:Nat,i=.int .i64 k/\k<=F.length/\w.grownBy wr e.ownBlock/\Own base wr e (tvecTo (tgen P l) F E k)) (λi _=>F.length-(intOf i).toNat)
 case atStart=>exact⟨0,rfl,by omega,grown_refl _ _,O⟩
 case round=>
  obtain⟨k,rfl,hk,q,hO⟩:=hrel;by_cases A:k<F.length
  ·obtain ⟨b,off,u,rfl,hS,hb,hc,B⟩:=hcf k A
   have C:wr.cell? ⟨b,off+k,none⟩=some u:=q.cell hc (λh=>hS h.symm);have B:u=.int .i64 (gt F k):=B;subst B;have hx:=hF.2 k (by omega);have T:0<=gt F k:=hx.1;have D:=hP.ord7 k (by omega);have U:gt F k<=7:=by omega
   have G:Vec P.orders (tvecTo (tgen P l) F E k):=tvecTo_vec (λe j V K W=>tgen_vec hP l e j V K (J j K W)) Q k (by omega);clear hx D hcf hc;go_wp2;go_loopw [16] (λi wr=>∃m:Nat,i=.int .i64 m/\m<=(gt F k).toNat/\w.grownBy wr e.ownBlock/\Own base wr e (iter m (λe=>tgen P l e k) (tvecTo (tgen P l) F E k))) (λi _=>(gt F k).toNat-(intOf i).toNat)
   case atStart=>exact⟨0,rfl,by omega,q,hO⟩
   case round=>
    clear q hO C;obtain⟨m,rfl,hm,q,hO⟩:=hrel;by_cases L:(m:Int)<gt F k
    ·have r:P.orders.length<=l+k:=J k (by omega) (by omega)
     have H:Vec P.orders (iter m (λe=>tgen P l e k) (tvecTo (tgen P l) F E k)):=iter_inv (Vec P.orders) _ (λx hx=>tgen_vec hP l x k hx (by omega) r) _ _ G;go_wp2_with (go_at_call 89;go_must (refine(M base _ p e _ k (N.mono (frame_of q λk h _=>⟨h,h⟩)) hO H (by omega) r).mono ?_);rintro X Y ⟨v1,rfl,hg1,rfl,hO1⟩)
     go_roundw
     case rel=>exact⟨m+1,by go_num,by omega,grown_trans q hg1,hO1⟩
     case measure=>simp[intOf];omega
    ·have y:m=(gt F k).toNat:=by omega
     have I:Hid (Own base wr e (tvecTo (tgen P l) F E (k+1))):=by rw[y] at hO;exact hO
     clear hO y;go_wp2;go_roundw
     case rel=>exact⟨k+1,by go_num,by omega,q,I.out⟩
     case measure=>simp[intOf];omega
  ·have z:k=F.length:=by omega
   have I:Hid (Own base wr e (tvec (tgen P l) E F)):=by rw[z] at hO;exact hO
   clear hO z;go_wp2;go_end0
   exact⟨_,rfl,q,rfl,I.out⟩
set_option maxHeartbeats 1000000 in
theorem timesGenerator_of (P:Pr) (hP:Valid P) (a:Nat) (ih:TgenOk P a):TgenOk P (a+1):=by
 intro base w p e E j hp hE hv N hf;have a9:E.length<=P.orders.length/\P.orders.length<=E.length:=by rw[hv.1];omega
 have a':=hP.n6;obtain⟨g,cap,rfl,hgb,hgs⟩:=hE.form (by omega);obtain⟨pb,po,rfl⟩:=hp.shape;have hs:=λw=>run_tail w (some ⟨g,0,none⟩) E.length cap ((j:Int)+1) (by omega) (by omega);go_enter Tryz.func89,Tryz.ntmps89
 have an:Ints Any w (subSl (.slice (some ⟨g,0,none⟩) E.length cap) (j+1) E.length) (E.drop (j+1)):=by
  have:=subSl_ints (ints_of_own hE (by omega) (S:=Any) (λ_ _=>trivial)) (j+1) E.length (by omega) (by omega);rwa [List.take_length] at this
 have bb:=hv.2 j N;have be:=hP.ord7 j N;go_wp2_with fail
 refine(clone_ok w _ (E.drop (j+1)) Any an (by simp;omega)).mono ?_;rintro e1 w1 ⟨r,rfl,V,hR⟩;clear an hs;have aS:(E.drop (j+1)).length+j+1=E.length:=by simp;omega
 have aq:∀k,k<(E.drop (j+1)).length->0<=gt (E.drop (j+1)) k/\gt (E.drop (j+1)) k<=7:=by
  intro k hk;have h1:=hv.2 (j+1+k) (by omega);have h2:=hP.ord7 (j+1+k) (by omega);have h3:gt (E.drop (j+1)) k=gt E (j+1+k):=by simp only[gt,List.getD_eq_getElem?_getD,List.getElem?_drop]
  rw[h3];omega
 have W:Ints (From w.heap.size) w1 r (E.drop (j+1)):=ints_of_own hR (by omega) (λk hk=>(hR.lt k hk).1);generalize au:E.drop (j+1)=R at *;obtain⟨ar,y,rfl,_,_⟩:=W.shape;have a6:R.length+j+1<=E.length/\E.length<=R.length+j+1:=by omega
 have HR:=Lib.hid au;clear au aS;have aT:=Lib.hid aq;clear aq;go_wp2;go_loopw [17] (λi wr=>∃k:Nat,i=.int .i64 k/\k<=R.length/\w1.grownBy wr (some g)/\Own base wr (.slice (some ⟨g,0,none⟩) E.length cap) (zeroed E j k)) (λi _=>R.length-(intOf i).toNat)
 case atStart=>exact⟨0,rfl,by omega,grown_refl _ _,by rw[zeroed_zero];exact hE.ext V (.inr (by simp[Value.ownBlock]))⟩
 case round=>
  obtain⟨k,rfl,hk,z,hO⟩:=hrel;by_cases C:k<R.length
  ·have D:=length_zeroed E j k (by omega)
   have hc:=hO.cell (j+1+k) (by omega);have av:=hO.frozen (j+1+k);have HL:=Lib.hid D;clear D;go_wp2;go_roundw
   case rel=>
    obtain⟨h1,h2⟩:=hO.store (j+1+k) 0;exact⟨k+1,by go_num,by omega,grown_trans z h2,by rw[zeroed_succ _ _ _ (by omega)];exact h1⟩
   case measure=>simp[intOf];omega
  ·have X:k=R.length:=by omega
   subst X;have D:=length_zeroed E j R.length (by omega);have aw:gt (zeroed E j R.length) j=gt E j:=by rw[gt_zeroed _ _ _ _ (by omega),if_neg (by omega)]
   have hc:=hO.cell j (by omega);rw[aw] at hc;have av:=hO.frozen j;have HL:=Lib.hid D;clear D;have ax:=hO.store j (gt E j+1);clear aw;go_wp2;generalize hW:wr.setCell ⟨g,j,none⟩ (.int .i64 (gt E j+1))=B at ax ⊢;obtain⟨u,Y⟩:=ax;clear hW hc av;have F:w.grownBy B (some g):=grown_trans (grown_trans (grown_of_ext _ V) z) Y;obtain⟨ao,capo,hc0,hqo⟩:=(hp.mono (frame_of F λk h _=>⟨h,h⟩)).ordAt;obtain⟨bo,oo,rfl,_,_,hco⟩:=Ints.at hqo j N;have O:((zeroed E j R.length).set j (gt E j+1)).length=E.length:=by rw[List.length_set];exact HL.out
   have I:=u.cell j (by omega);rw[gt_set_eq _ _ _ (by have:=HL.out;omega)] at I;have Z:=u.frozen j;have J:Ints (Off (some g)) B (.slice ar R.length y) R:=(W.sub (S':=Off (some g)) (λk hk _=>by unfold Off;intro he;cases he;have:w.heap.size<=g:=hk;omega)).mono (frame_of (grown_trans z Y) λk h _=>⟨h,h⟩);have az:Vec P.orders (zeroed E j R.length):=hv.zeroed j R.length (by omega);have aA:=Lib.hid az;clear az;have bi:=Lib.hid O;clear O;clear z Y hO hR W V hk C hqo;have aa:=hP.cv j N;have aW:R.length<=(gt P.conj j).length:=by rw[aa.1];omega
   have aX:j<P.conj.length:=by rw[hP.cl];exact N
   have aB:∀k,k<R.length->Vec P.orders (gt (gt P.conj j) k)/\(∀i,i<P.orders.length->gt (gt (gt P.conj j) k) i≠0->P.orders.length<=a+i):=by
    intro k hk;obtain⟨h1,h2⟩:=aa.2 k (by omega);refine⟨h1,λi hi h0 => ?_⟩;have:¬i<=j:=λh=>h0 (h2 i h);omega
   have aC:=Lib.hid aB;clear aB aa
   have Q:∀q,q=(if gt E j+1=gt P.orders j then tvec (tgen P a) (((zeroed E j R.length).set j (gt E j+1)).set j 0) (gt P.powers j) else (zeroed E j R.length).set j (gt E j+1)) ->
     tgen P (a+1) E j=tconjTo (tgen P a) (gt P.conj j) R q R.length:=by
    intro q h2;have hr:R=E.drop (j+1):=HR.out.symm;rw[h2,hr];rfl
   have HF:=Lib.hid Q;clear Q;by_cases b:gt E j+1=gt P.orders j
   case' pos=>
    have hb:(gt E j+1 == gt P.orders j)=true:=by simp[b]
    obtain⟨q,l⟩:∃q,q=tvec (tgen P a) (((zeroed E j R.length).set j (gt E j+1)).set j 0) (gt P.powers j):=⟨_,rfl⟩;have aD:=Lib.hid (HF.out q (by rw[if_pos b];exact l));clear HF;have aE:Vec P.orders (((zeroed E j R.length).set j (gt E j+1)).set j 0):=by rw[List.set_set];exact aA.out.set j 0 ⟨by omega,λ_=>by omega⟩
    have K:=hP.pv j N
    have ae:∀i,i<P.orders.length->gt (gt P.powers j) i≠0->P.orders.length<=a+i:=by
     intro i hi h0;have:¬i<=j:=λh=>h0 (K.2 i h);omega
    have aF:Vec P.orders q:=by
     rw[l];exact tvec_vec K.1 (λe i he hi h0=>tgen_vec hP a e i he hi (ae i hi h0)) aE
    have aY:=Lib.hid l;clear l;have HC:=Lib.hid b;clear b;have aZ:=Lib.hid ae;clear ae;have a0:=Lib.hid K.1;clear K;go_quiet (fail)
    rename_i nq _;have aG:Own base (B.drewN nq) (.slice (some ⟨g,0,none⟩) E.length cap) ((zeroed E j R.length).set j (gt E j+1)):=u;have T:w.grownBy (B.drewN nq) (some g):=grown_trans F (grown_drewN _ _ _);have aH:Ints (Off (some g)) (B.drewN nq) (.slice ar R.length y) R:=J.mono (frame_of (grown_drewN _ _ (some g)) λk h _=>⟨h,h⟩);have aI:(B.drewN nq).cell? ⟨g,j,none⟩=some (.int .i64 (gt E j+1)):=I;have aJ:(B.drewN nq).frozen? ⟨g,j,none⟩=false:=Z;clear hco I Z hc0 u J F;generalize B.drewN nq=W3 at *;obtain⟨aK,af⟩:=aG.store j 0;have G:w.grownBy (W3.setCell ⟨g,j,none⟩ (.int .i64 0)) (some g):=grown_trans T af;have ag:PresP (Off (some g)) (W3.setCell ⟨g,j,none⟩ (.int .i64 0)) (.pointer (some ⟨pb,po,none⟩)) P:=hp.mono (frame_of G λk h _=>⟨h,h⟩);obtain⟨ap,capp,hpc,hpr⟩:=ag.powAt;obtain⟨bp,op,ar2,capr2,rfl,_,_,hprc,hpri⟩:=Rows2.at hpr j (by rw[hP.pl];exact N);have bm:j<P.powers.length:=by rw[hP.pl];exact N
    go_wp2_with fail
    refine Calls.mono (timesVector_of P hP a ih base _ _ _ _ _ (gt P.powers j) ?_ ?_ aE ?_ a0.out aZ.out) ?_
    ·exact ag
    ·exact aK
    ·exact hpri
    rintro e5 W5 ⟨v5,rfl,ah,rfl,ai⟩;rw[<-aY.out] at ai;have H:w.grownBy W5 (some g):=grown_trans G ah;have aL:Ints (Off (some g)) W5 (.slice ar R.length y) R:=aH.mono (frame_of (grown_trans af ah) λk h _=>⟨h,h⟩);clear aI aJ aG aH T ag hpc hpr hprc hpri aK af G ah;go_wp2
   case' neg=>
    have hb:(gt E j+1 == gt P.orders j)=false:=by simp[b]
    obtain⟨q,l⟩:∃q,q=(zeroed E j R.length).set j (gt E j+1):=⟨_,rfl⟩;have aD:=Lib.hid (HF.out q (by rw[if_neg b];exact l));clear HF;have aF:Vec P.orders q:=by rw[l];exact aA.out.set j _ ⟨by omega,λ_=>by omega⟩
    rw[<-l] at u;have HC:=Lib.hid b;clear b l;go_quiet (fail)
    rename_i nq _;have H:w.grownBy (B.drewN nq) (some g):=grown_trans F (grown_drewN _ _ _);have ai:Own base (B.drewN nq) (.slice (some ⟨g,0,none⟩) E.length cap) q:=u;have aL:Ints (Off (some g)) (B.drewN nq) (.slice ar R.length y) R:=J.mono (frame_of (grown_drewN _ _ (some g)) λk h _=>⟨h,h⟩);go_wp2;clear hco I Z hc0 u J F;generalize B.drewN nq=W5 at *
   all_goals
    go_loopw [60] (λi wr=>∃k:Nat,i=.int .i64 k/\k<=R.length/\W5.grownBy wr (some g)/\Own base wr (.slice (some ⟨g,0,none⟩) E.length cap) (tconjTo (tgen P a) (gt P.conj j) R q k)/\Vec P.orders (tconjTo (tgen P a) (gt P.conj j) R q k)) (λi _=>R.length-(intOf i).toNat)
    case atStart=>exact⟨0,rfl,by omega,grown_refl _ _,ai,aF⟩
    case round=>
     obtain⟨k,rfl,hk,z,hO,A⟩:=hrel;by_cases C:k<R.length
     ·have L:=Lib.hid (aC.out k C);clear aC
      have aj:=aT.out k C;have bn:0<=gt R k:=aj.1;have bq:gt R k<=7:=aj.2;obtain⟨br,or,rfl,hbr,_,hcr0⟩:=Ints.at aL k C;have M:wr.cell? ⟨br,or+k,none⟩=some (.int .i64 (gt R k)):=z.cell hcr0 (λh=>hbr h.symm);clear hcr0 aj;go_wp2;go_loopw [66] (λi wr=>∃m:Nat,i=.int .i64 m/\m<=(gt R k).toNat/\W5.grownBy wr (some g)/\Own base wr (.slice (some ⟨g,0,none⟩) E.length cap) (iter m (λe=>tvec (tgen P a) e (gt (gt P.conj j) k)) (tconjTo (tgen P a) (gt P.conj j) R q k))/\Vec P.orders (iter m (λe=>tvec (tgen P a) e (gt (gt P.conj j) k)) (tconjTo (tgen P a) (gt P.conj j) R q k))) (λi _=>(gt R k).toNat-(intOf i).toNat)
      case atStart=>exact⟨0,rfl,by omega,z,hO,A⟩
      case round=>
       clear z hO M A;obtain⟨m,rfl,hm,z,hO,A⟩:=hrel;by_cases a8:(m:Int)<gt R k
       ·have ak:PresP (Off (some g)) wr (.pointer (some ⟨pb,po,none⟩)) P:=hp.mono (frame_of (grown_trans H z) λk h _=>⟨h,h⟩)
        obtain⟨ac,capc,hcc,M⟩:=ak.conjAt;obtain⟨bc,oc,ac2,capc2,rfl,_,_,hc6,hcr6⟩:=Rows3.at M j aX;obtain⟨bd,od,ad2,capd2,rfl,_,_,hc7,U⟩:=Rows2.at hcr6 k (by omega);clear M hcr6;go_wp2_with fail
        refine Calls.mono (timesVector_of P hP a ih base wr _ _ _ _ (gt (gt P.conj j) k) ak hO A U L.out.1 L.out.2) ?_;rintro e6 W6 ⟨v6,rfl,hg6,rfl,hO6⟩;have a1:W5.grownBy W6 (some g):=grown_trans z hg6;have a2:=tvec_vec L.out.1 (λe i he hi h0=>tgen_vec hP a e i he hi (L.out.2 i hi h0)) A;clear hc6 hc7 hcc U ak hO hg6 z;go_wp2;go_roundw
        case rel=>exact⟨m+1,by go_num,by omega,a1,hO6,a2⟩
        case measure=>simp[intOf];omega
       ·have a3:m=(gt R k).toNat:=by omega
        subst a3;go_wp2;go_roundw
        case rel=>exact⟨k+1,by go_num,by omega,z,hO,A⟩
        case measure=>simp[intOf];omega
     ·have X:k=R.length:=by omega
      subst X;go_wp2;go_end0
      exact⟨_,rfl,grown_trans H z,rfl,by rw[aD.out];exact hO⟩
structure RdOk {α:Type}(El:(Nat->Prop)->World->Value->α->Prop):Prop where
 mono:∀ {F F':Nat->Prop}{w w':World}{u:Value}{x:α},El F w u x->(∀k,F k->k<w.heap.size->F' k/\k<w'.heap.size/\w'.heap[k]? = w.heap[k]?)->El F' w' u x
 one:∀ {F:Nat->Prop}{w:World}{u:Value}{x:α},El F w u x->u.oneCell'=true
def SlD {α:Type} [Inhabited α] (El:(Nat->Prop)->World->Value->α->Prop) (F:Nat->Prop) (w:World) (v:Value) (xs:List α):Prop:=
 ∃ (G:Nat->Nat->Prop) (H:Nat->Prop),(∀k,H k->F k)/\(∀i k,i<xs.length->G i k->F k/\¬H k)/\(∀i j k,i<xs.length->j<xs.length->G i k->G j k->i=j) /\
  ∃ a cap,v=.slice a xs.length cap/\(xs.length<=cap/\xs.length<=9223372036854775807/\(a=none->cap=0)) /\
   ∀i,i<xs.length->∃b off u,a=some ⟨b,off,none⟩/\H b/\b<w.heap.size/\w.cell? ⟨b,off+i,none⟩=some u/\El (G i) w u (gt xs i)
def SlO {α:Type} [Inhabited α] (El:(Nat->Prop)->World->Value->α->Prop) (E B:Nat) (w:World) (v:Value) (xs:List α):Prop:=
 ∃ (a:List Value) (G:Nat->Nat->Prop),a.length=xs.length/\OwnV B E w v a/\(∀i k,i<xs.length->G i k->B<=k/\v.ownBlock≠some k/\k<w.heap.size) /\
  (∀i j k,i<xs.length->j<xs.length->G i k->G j k->i=j)/\∀i,i<xs.length->El (G i) w (gt a i) (gt xs i)
theorem SlO.nil {α:Type} [Inhabited α] (El:(Nat->Prop)->World->Value->α->Prop) (E B:Nat) (w:World):SlO El E B w (.slice none 0 0) ([]:List α):=
 ⟨[],λ_ _=>False,rfl,World.ownsRow_nil _ _ _ _,by simp,by simp,by simp⟩
theorem OwnV.form {B E:Nat}{w:World}{v:Value}{xs:List Value}(h:OwnV B E w v xs) :
  (v=.slice none 0 0/\xs=[])\/∃g cap,v=.slice (some ⟨g,0,none⟩) xs.length cap/\xs.length<=cap/\B<=g/\g<w.heap.size:=by
 have a:=h.lt;obtain⟨_,h|⟨g,cap,cur,b,hg,hb,hnc,_⟩⟩:=h
 ·exact .inl ⟨h.1,List.eq_nil_of_length_eq_zero h.2⟩
 ·exact .inr ⟨g,cap,b,hnc,hg,(a g (by rw[b];rfl)).2⟩
theorem OwnV.cell {B E g cap n:Nat}{w:World}{xs:List Value}(h:OwnV B E w (.slice (some ⟨g,0,none⟩) n cap) xs) (j:Nat) (a:j<xs.length):w.cell? ⟨g,j,none⟩=some (gt xs j):=by
 have b:n=xs.length:=by
  obtain⟨_,⟨h,_⟩|⟨_,_,_,h,_⟩⟩:=h<;>cases h;rfl
 subst b;have:=World.ownsRow.cellAt h j (by omega);rw[this];simp[gt,a]
theorem SlO.toD {α:Type} [Inhabited α] {El:(Nat->Prop)->World->Value->α->Prop}{E B:Nat}{w:World}{v:Value}{xs:List α}(h:SlO El E B w v xs) (j:xs.length<=9223372036854775807):SlD El (From B) w v xs:=by
 obtain⟨l,G,a,hO,e,hd,hE⟩:=h;refine⟨G,λk=>B<=k/\v.ownBlock=some k,λk hk=>hk.1,λi k b hk=>⟨(e i k b hk).1,λh=>(e i k b hk).2.1 h.2⟩,hd,?_⟩;rcases hO.form with⟨rfl,rfl⟩|⟨g,cap,rfl,hnc,hBg,hgs⟩
 ·have:xs.length=0:=by simpa using a.symm
  exact⟨none,0,by rw[this],⟨by omega,by omega,λ_=>rfl⟩,λi b=>by omega⟩
 ·refine ⟨_,cap,by rw[a],⟨by omega,j,λh=>by cases h⟩,λi b=>⟨g,0,gt l i,rfl,⟨hBg,rfl⟩,hgs,?_,hE i b⟩⟩
  rw[Nat.zero_add];exact hO.cell i (by omega)
theorem SlD.mono {α:Type} [Inhabited α] {El:(Nat->Prop)->World->Value->α->Prop}(p:RdOk El) {F F':Nat->Prop}{w w':World}{v:Value}{xs:List α}(h:SlD El F w v xs)
  (m:∀k,F k->k<w.heap.size->F' k/\k<w'.heap.size/\w'.heap[k]? = w.heap[k]?):SlD El F' w' v xs:=by
 obtain⟨G,H,h1,q,h3,a,cap,hv,hl,hc⟩:=h
 refine ⟨λi k=>G i k/\k<w.heap.size,λk=>H k/\k<w.heap.size,λk hk=>(m k (h1 k hk.1) hk.2).1,λi k e hk=>⟨(m k (q i k e hk.1).1 hk.2).1,λh=>(q i k e hk.1).2 h.1⟩,
  λi j k e A hk r=>h3 i j k e A hk.1 r.1,a,cap,hv,hl,λi e => ?_⟩
 obtain⟨b,off,u,e1,y,z,e4,e5⟩:=hc i e;obtain⟨f1,f2,f3⟩:=m b (h1 b y) z;exact⟨b,off,u,e1,⟨y,z⟩,f2,(World.cell?_of_block (w:=w) f3).trans e4,p.mono e5 (λk hk l=>⟨⟨hk,l⟩,(m k (q i k e hk).1 l).2⟩)⟩
theorem SlD.shape {α:Type} [Inhabited α] {El:(Nat->Prop)->World->Value->α->Prop}{F:Nat->Prop}{w:World}{v:Value}{xs:List α}(h:SlD El F w v xs) :
  ∃a cap,v=.slice a xs.length cap/\xs.length<=cap/\xs.length<=9223372036854775807:=by
 obtain⟨_,_,_,_,_,a,cap,hv,hl,_⟩:=h;exact⟨a,cap,hv,hl.1,hl.2.1⟩
theorem rdInts:RdOk (λF w u (x:List Int)=>Ints F w u x):=
 ⟨λh b=>Ints.mono h b,λh=>by obtain⟨a,cap,rfl,_⟩:=h;rfl⟩
def OwnIn (F:Nat->Prop) (w:World) (v:Value) (l:List Int):Prop:=Own 0 w v l/\(∀k,v.ownBlock=some k->F k)/\l.length<=9223372036854775807
theorem ownsRow_move {base base' E:Nat}{w w':World}{v:Value}{n:Nat}{xs:List Value}(h:w.ownsRow base E 1 v n xs) (a:∀k,v.ownBlock=some k->w'.heap[k]? = w.heap[k]? /\ base'<=k):w'.ownsRow base' E 1 v n xs:=by
 obtain⟨h1,b⟩:=h;refine⟨h1,?_⟩;rcases b with h|⟨g,cap,cur,rfl,hg,hc,r⟩
 ·exact .inl h
 ·exact .inr ⟨g,cap,cur,rfl,(a g rfl).2,by rw[(a g rfl).1];exact hc,r⟩
theorem rdOwn:RdOk OwnIn:=by
 refine⟨λ{F F' w w' u x} h b => ?_,λ{F w u x} h => ?_⟩
 ·obtain ⟨h1,e,h3⟩:=h
  have a:=h1.lt;exact⟨ownsRow_move h1 (λk hk=>⟨(b k (e k hk) (a k hk).2).2.2,Nat.zero_le _⟩),λk hk=>(b k (e k hk) (a k hk).2).1,h3⟩
 ·obtain ⟨⟨_,h|⟨g,cap,cur,i,_⟩⟩,_⟩:=h
  ·rw[h.1];rfl
  ·rw[i];rfl
theorem OwnIn.ints {F:Nat->Prop}{w:World}{v:Value}{l:List Int}(h:OwnIn F w v l):Ints F w v l:=ints_of_own h.1 h.2.2 h.2.1
theorem OwnIn.of {base:Nat}{F:Nat->Prop}{w:World}{v:Value}{l:List Int}(h:Own base w v l) (a:l.length<=9223372036854775807) (hF:∀k,base<=k->k<w.heap.size->F k):OwnIn F w v l:=
 ⟨h.weak (Nat.zero_le _),λk hk=>hF k (h.lt k hk).1 (h.lt k hk).2,a⟩
abbrev RowsD (F:Nat->Prop) (w:World) (v:Value) (xs:List (List Int)):Prop:=SlD OwnIn F w v xs
abbrev RowsO (B:Nat) (w:World) (v:Value) (xs:List (List Int)):Prop:=SlO OwnIn 24 B w v xs
theorem rdRows:RdOk (λF w u (x:List (List Int))=>RowsD F w u x):=
 ⟨λh b=>SlD.mono rdOwn h b,λh=>by obtain⟨_,_,_,_,_,a,cap,rfl,_⟩:=h;rfl⟩
abbrev Rows3D (F:Nat->Prop) (w:World) (v:Value) (xs:List (List (List Int))):Prop:=SlD (λF w u (x:List (List Int))=>RowsD F w u x) F w v xs
theorem RowsD.rows {F:Nat->Prop}{w:World}{v:Value}{xs:List (List Int)}(h:RowsD F w v xs):Rows2 F w v xs:=by
 obtain⟨G,H,h1,j,h3,a,cap,hv,hl,hc⟩:=h;refine⟨a,cap,hv,hl,λi e => ?_⟩;obtain⟨b,off,u,e1,e2,e3,e4,e5⟩:=hc i e;exact⟨b,off,u,e1,h1 b e2,e3,e4,Ints.sub e5.ints (λk hk _=>(j i k e hk).1)⟩
theorem Rows3D.rows {F:Nat->Prop}{w:World}{v:Value}{xs:List (List (List Int))}(h:Rows3D F w v xs):Rows3 F w v xs:=by
 obtain⟨G,H,h1,j,h3,a,cap,hv,hl,hc⟩:=h;refine⟨a,cap,hv,hl,λi e => ?_⟩;obtain⟨b,off,u,e1,e2,e3,e4,l⟩:=hc i e;exact⟨b,off,u,e1,h1 b e2,e3,e4,Rows2.sub (RowsD.rows l) (λk hk _=>(j i k e hk).1)⟩
theorem SlO.weak {α:Type} [Inhabited α] {El:(Nat->Prop)->World->Value->α->Prop}{E B B':Nat}{w:World}{v:Value}{xs:List α}(h:SlO El E B w v xs) (hB:B'<=B):SlO El E B' w v xs:=by
 obtain⟨e,G,hvl,hO,hG,hd,hE⟩:=h;refine⟨e,G,hvl,?_,λi k j hk => ?_,hd,hE⟩
 ·obtain ⟨h1,l⟩:=hO
  refine⟨h1,?_⟩;rcases l with h|⟨g,cap,cur,hv,hg,r⟩
  ·exact .inl h
  ·exact .inr ⟨g,cap,cur,hv,Nat.le_trans hB hg,r⟩
 ·obtain ⟨a,b,c⟩:=hG i k j hk
  exact⟨Nat.le_trans hB a,b,c⟩
theorem wp_app_one {α:Type} [Inhabited α] {El:(Nat->Prop)->World->Value->α->Prop}(C:RdOk El) (T E:Nat) (z:Value) (bytes:Nat) (hT:Tryz.prog.underlying T=some (.slice E))
  (hE:(Tryz.prog.info? E).map (λi=>(i.zero,i.size,i.bytes))=some (some z,1,bytes)) (S:z.cells.size=1) (U:bytes<=64)
  {H:Array Oper}{rest:List Oper}{o:Oper}{a:Act}{Q:Exit->Act->World->Prop}{w:World}(V:o.guard=none) (s x:Operand)
  (ho:o.op=Op.call { callee:=Callee.builtin Builtin.append,args := #[s,x],argTypes := #[T,T] }) (B:Nat) (q l:World) (v u:Value) (xs:List α) (y:α) (hs:a.eval s=v) (I:SlO El E B q v xs)
  (O:Ext q l) (hu:El (From q.heap.size) l u y) (hw:w=l.alloc (.cells #[u] E)) (hx:a.eval x=.slice (some ⟨l.heap.size,0,none⟩) 1 1) (ad:xs.length<=1000000) (W:B<=q.heap.size)
  (h:∀J w',SlO El E B w' J (xs++[y])->q.grownBy w' v.ownBlock->l.grownBy w' v.ownBlock->wpList Tryz.prog H Q rest (a.put o.dst J) w') :
  wpList Tryz.prog H Q (o :: rest) a w:=by
 subst hw;obtain⟨X,G,D,hO,hG,hd,Y⟩:=I;have K:Ext l (l.alloc (.cells #[u] E)):=World.grownBy_alloc _ _ _;have Z:OwnV B E (l.alloc (.cells #[u] E)) v X:=hO.kept (grown_trans O K) (by cases hv:v.ownBlock<;>simp);refine wp_app T E z bytes hT hE S U V s x ho B v X hs Z (some ⟨l.heap.size,0,none⟩) 1 1 [u] hx rfl (by simp) ?_ ?_ (by omega) (by have:=O.size;simp;omega) ?_
 ·intro j hj
  have:j=0:=by omega
  subst this;exact⟨l.heap.size,0,rfl,by rw[World.cell?_alloc_at _ _ _ _ rfl];rfl⟩
 ·intro u' L
  simp at L;subst L;exact C.one hu
 ·intro J w' h1 h2 _ aa
  have M:∀k,v.ownBlock=some k->B<=k/\k<q.heap.size:=hO.lt;have p:l.grownBy w' v.ownBlock:=grown_trans (grown_of_ext _ K) h2;have r:q.grownBy w' v.ownBlock:=grown_trans (grown_of_ext _ O) p
  have A:∀k,J.ownBlock=some k->v.ownBlock=some k\/l.heap.size<k:=by
   intro k hk;rcases aa with h|h
   ·exact .inl (by rw[<-h];exact hk)
   ·rw [h] at hk
    have:(l.alloc (.cells #[u] E)).heap.size=k:=by simpa using hk
    simp at this
    exact .inr (by omega)
  refine h J w' ⟨X++[u],λi k=>if i<xs.length then G i k/\k<q.heap.size else q.heap.size<=k/\k<l.heap.size,by simp[D],h1,?_,?_,?_⟩ r p
  ·intro i k R hk
   split at hk
   ·rename_i m
    obtain⟨a1,a2,a3⟩:=hG i k m hk.1;refine⟨a1,λF => ?_,Nat.lt_of_lt_of_le a3 r.size⟩;rcases A k F with h|h
    ·exact a2 h
    ·have:=O.size;omega
   ·refine ⟨by omega,λF => ?_,Nat.lt_of_lt_of_le hk.2 p.size⟩
    rcases A k F with h|h
    ·have:=M k h;omega
    ·omega
  ·intro i j k R hj hk N
   simp only[List.length_append,List.length_singleton] at R hj;split at hk<;>split at N
   ·exact hd i j k (by assumption) (by assumption) hk.1 N.1
   ·omega
   ·omega
   ·omega
  ·intro i R
   simp only[List.length_append,List.length_singleton] at R;by_cases m:i<xs.length
   ·rw [gt_append_left _ _ _ (by omega),gt_append_left _ _ _ m]
    simp only[if_pos m];exact C.mono (Y i m) (λk hk b=>⟨⟨hk,b⟩,Nat.lt_of_lt_of_le b r.size,r.block k b (λe=>(hG i k m hk).2.1 e.symm)⟩)
   ·have ab:i=xs.length:=by omega
    subst ab;rw[gt_concat,<-D,gt_concat];simp only[D,Nat.lt_irrefl,if_false]
    exact C.mono hu (λk hk b=>⟨⟨hk,b⟩,Nat.lt_of_lt_of_le b p.size,p.block k b (λe=>by
     have hk:q.heap.size<=k:=hk;have:=M k e.symm;omega)⟩)
theorem tgenOk (P:Pr) (hP:Valid P) (f:Nat):TgenOk P f:=by
 induction f with
 | zero=>intro base w p e E j _ _ _ b i;omega
 | succ f a=>exact timesGenerator_of P hP f a
theorem timesGenerator_ok (P:Pr) (hP:Valid P) (base:Nat) (w:World) (p e:Value) (E:List Int) (j:Nat) (a:PresP (Off e.ownBlock) w p P) (b:Own base w e E) (i:Vec P.orders E) (k:j<P.orders.length) :
  Calls Tryz.prog 89 #[p,e,.int .i64 j] w (Mut w e.ownBlock λw' v=>v=.tuple #[]/\Own base w' e (tg P E j)):=
 tgenOk P hP _ base w p e E j a b i k (by omega)
theorem timesVector_ok (P:Pr) (hP:Valid P) (base:Nat) (w:World) (p e f:Value) (E F:List Int) (a:PresP (Off e.ownBlock) w p P) (b:Own base w e E)
  (i:Vec P.orders E) (k:Ints (Off e.ownBlock) w f F) (hF:Vec P.orders F) :
  Calls Tryz.prog 128 #[p,e,f] w (Mut w e.ownBlock λw' v=>v=.tuple #[]/\Own base w' e (tv P E F)):=
 timesVector_of P hP _ (tgenOk P hP _) base w p e f E F a b i k hF (λj l _=>by omega)
theorem off_of {base:Nat}{w a:World}{v:Value}{l:List Int}{S:Nat->Prop}(hO:Own base a v l) (e:w.heap.size<=base) (b:Ext w a) :
  ∀k,S k->k<w.heap.size->Off v.ownBlock k/\k<a.heap.size/\a.heap[k]? = w.heap[k]? :=by
 intro k _ hk;refine⟨λh => ?_,Nat.lt_of_lt_of_le hk b.size,b.block k hk (by simp)⟩;have:=(hO.lt k h).1;omega
theorem mut_ext {base:Nat}{w a b:World}{v:Value}{l:List Int}(e:Ext w a) (hO:Own base a v l) (m:w.heap.size<=base) (h:a.grownBy b v.ownBlock):Ext w b:=
 grown_own e h (λj i k=>by have:=(hO.lt j i).1;omega)
set_option maxHeartbeats 400000 in
theorem multiply_ok (P:Pr) (hP:Valid P) (w:World) (p a b:Value) (A B:List Int) (m k q:Nat->Prop) (u:PresP m w p P) (ha:Ints k w a A) (y:Ints q w b B) (l:Vec P.orders A) (hB:Vec P.orders B) :
  Calls Tryz.prog 149 #[p,a,b] w (Ret w λw' v=>Own w.heap.size w' v (tv P A B)):=by
 have z:=hP.n6;have C:A.length<=6:=by rw[l.1];omega
 go_enter Tryz.func149,Tryz.ntmps149;go_wp2_with fail
 refine Calls.mono (clone_ok w a A k ha (by omega)) ?_;rintro E D ⟨r,rfl,e,i⟩;go_wp2_with fail
 refine Calls.mono (timesVector_ok P hP w.heap.size D p r b A B (u.mono (off_of i (Nat.le_refl _) e)) i l (y.mono (off_of i (Nat.le_refl _) e)) hB) ?_;rintro F G ⟨H,rfl,j,rfl,hR2⟩;go_wp2;go_ret;exact⟨_,rfl,mut_ext e i (Nat.le_refl _) j,hR2⟩
def iPow (P:Pr) (a:List Int) (k:Int):List Int:=iter k.toNat (λout=>tv P out a) (List.replicate a.length 0)
theorem zeros_vec' {P:Pr}(hP:Valid P) {a:List Int}(ha:Vec P.orders a):Vec P.orders (List.replicate a.length 0):=by
 refine⟨by rw[List.length_replicate];exact ha.1,λi b => ?_⟩;have:=hP.ord7 i b;rw[gt_replicate];omega
theorem iPow_vec {P:Pr}(hP:Valid P) (a:List Int) (k:Int) (ha:Vec P.orders a):Vec P.orders (iPow P a k):=
 iter_inv (Vec P.orders) _ (λy hy=>tv_vec hP y a hy ha) _ _ (zeros_vec' hP ha)
set_option maxHeartbeats 400000 in
theorem power_ok (P:Pr) (hP:Valid P) (w:World) (p a:Value) (A:List Int) (k:Int) (C D:Nat->Prop) (E:PresP C w p P) (ha:Ints D w a A) (j:Vec P.orders A) (hk:k<=1000000000) :
  Calls Tryz.prog 196 #[p,a,.int .i64 k] w (Ret w λw' v=>Own w.heap.size w' v (iPow P A k)):=by
 have F:=hP.n6;have G:A.length<=6:=by rw[j.1];omega
 obtain⟨K,capa,rfl,_,_⟩:=ha.shape;go_enter Tryz.func196,Tryz.ntmps196;go_wp2_with (at_make;refine wp_make_ints rfl _ _ rfl w.heap.size A.length w.heap.size rfl _ rfl rfl rfl (by omega) (Nat.le_refl _) ?_;intro L q u _)
 generalize Value.slice (some ⟨w.heap.size,0,none⟩) A.length A.length=r at *;go_loopw [12] (λi wr=>∃m:Nat,i=.int .i64 m/\m<=k.toNat/\Ext w wr/\Own w.heap.size wr r (iter m (λout=>tv P out A) (List.replicate A.length 0))) (λi _=>k.toNat-(intOf i).toNat)
 case atStart=>exact⟨0,rfl,by omega,u,q⟩
 case round=>
  obtain⟨m,rfl,hm,l,hO⟩:=hrel;by_cases H:(m:Int)<k
  ·have b:Vec P.orders (iter m (λout=>tv P out A) (List.replicate A.length 0)):=iter_inv (Vec P.orders) _ (λy hy=>tv_vec hP y A hy j) _ _ (zeros_vec' hP j)
   have I:=Lib.hid b;clear b;go_wp2_with fail
   refine Calls.mono (timesVector_ok P hP w.heap.size wr p r _ _ A (E.mono (off_of hO (Nat.le_refl _) l)) hO I.out (ha.mono (off_of hO (Nat.le_refl _) l)) j) ?_;rintro M N ⟨O,rfl,z,rfl,hR2⟩;have B:=mut_ext l hO (Nat.le_refl _) z;go_wp2;go_roundw
   case rel=>exact⟨m+1,by go_num,by omega,B,hR2⟩
   case measure=>simp[intOf];omega
  ·have e:m=k.toNat:=by omega
   have J:Hid (Own w.heap.size wr r (iPow P A k)):=by rw[e] at hO;exact hO
   clear hO e;go_wp2;go_ret;exact⟨_,rfl,l,J.out⟩
end Go.Proofs.YtoakmefajbbggaaGreat
