/- Merged from templates. -/
import Derived.Test.YtdcobapnlpeaaaaGreatX11
import Derived.Laws.BitsAllLaws
set_option maxRecDepth 100000
set_option maxHeartbeats 8000000
namespace Go.Proofs.YtdcobapnlpeaaaaGreat
def vecsO:List Int->List (List Int)
 | []=>[[]]
 | a :: o=>(List.range a.toNat).flatMap (λi:Nat=>(vecsO o).map (λt=>(i:Int) :: t))
def prodN':List Int->Nat
 | []=>1
 | a :: o=>a.toNat*prodN' o
theorem flatMap_len' {α b:Type}(l:List α) (f:α->List b) (n:Nat) (h:∀x∈l,(f x).length=n):(l.flatMap f).length=l.length*n:=by
 induction l with
 | nil=>simp
 | cons a l e=>
  rw[List.flatMap_cons,List.length_append,h a (List.mem_cons_self ..),e (λx hx=>h x (List.mem_cons_of_mem _ hx)),List.length_cons,Nat.succ_mul];omega
theorem vecsO_len:∀o,(vecsO o).length=prodN' o
 | []=>rfl
 | a :: o=>by
  rw[vecsO,flatMap_len' _ _ (prodN' o) (λi _=>by rw[List.length_map,vecsO_len o]),List.length_range];rfl
theorem vecsO_mem:∀(o x:List Int),x.length=o.length->(∀i,i<o.length->0<=gt x i/\gt x i<gt o i)->x∈vecsO o
 | [],x,b,_=>by
  have:x=[]:=List.eq_nil_of_length_eq_zero b;subst this;simp[vecsO]
 | a :: o,x,b,h=>by
  cases x with
  | nil=>simp at b
  | cons y x=>
   have e:=h 0 (by simp);have g:gt (y :: x) 0=y:=rfl;have j:gt (a :: o) 0=a:=rfl;rw[g,j] at e;rw[vecsO,List.mem_flatMap];refine⟨y.toNat,List.mem_range.2 (by omega),?_⟩;rw[List.mem_map];refine⟨x,vecsO_mem o x (by simpa using b) (λi k=>by simpa [gt] using h (i+1) (by simpa using k)),by rw[show((y.toNat:Nat):Int)=y by omega]⟩
def seqsF (o:List Int):Nat->List (List (List Int))
 | 0=>[[]]
 | k+1=>seqsF o k++(vecsO (o.drop (o.length-k))).flatMap (λt=>(seqsF o k).map (λs=>(List.replicate (o.length-k-1) 0++1 :: t) :: s))
theorem seqsF_len (o:List Int) (k:Nat):(seqsF o (k+1)).length=(seqsF o k).length*(1+prodN' (o.drop (o.length-k))):=by
 rw[seqsF,List.length_append,flatMap_len' _ _ (seqsF o k).length (λt _=>by rw[List.length_map]),vecsO_len,Nat.mul_add,Nat.mul_one,Nat.mul_comm (prodN' _)]
theorem gt_drop {l:List Int}{k i:Nat} : gt (l.drop k) i=gt l (k+i):=by
 simp[gt]
theorem lead_form {o x:List Int}{d:Nat}(hx:Vec o x) (g:d<o.length) (a:∀k,k<d->gt x k=0) (h1:gt x d=1):x=List.replicate d 0++1 :: x.drop (d+1):=by
 have l:=hx.1;refine ext_gt (by simp;omega) (λi m => ?_);rcases Nat.lt_trichotomy i d with h|h|h
 ·rw[a i h,gt_append_left _ _ _ (by simpa using h),gt_replicate]
 ·subst h
  rw[h1];simp[gt]
 ·have e:gt (List.replicate d 0++1 :: x.drop (d+1)) i=gt x i:=by
   simp only[gt,List.getD_eq_getElem?_getD];rw[List.getElem?_append_right (by simp;omega),List.length_replicate];obtain⟨j,b⟩:∃j,i-d=j+1:=⟨i-d-1,by omega⟩;rw[b,List.getElem?_cons_succ,List.getElem?_drop,show d+1+j=i by omega]
  exact e.symm
theorem seqsF_mem {o:List Int} : ∀(k:Nat) (u:List (List Int)),k<=o.length->(∀z∈u,Vec o z/\o.length-k<=dep z/\dep z<o.length/\gt z (dep z)=1/\∀j,j<dep z->gt z j=0) ->
  (∀i j,i<j->j<u.length->dep (gt u i)<dep (gt u j))->u∈seqsF o k
 | 0,u,_,h,_=>by
  cases u with
  | nil=>simp[seqsF]
  | cons z u=>have:=h z (List.mem_cons_self ..);omega
 | k + 1,u,hk,h,g=>by
  rw[seqsF,List.mem_append];cases u with
  | nil=>exact .inl (seqsF_mem k [] (by omega) (λz b=>by cases b) (λi j _ l=>by simp at l))
  | cons z u=>
   have b:=h z (List.mem_cons_self ..);by_cases q:dep z=o.length-k-1
   ·refine .inr (List.mem_flatMap.2 ⟨z.drop (dep z+1),?_,List.mem_map.2 ⟨u,?_,?_⟩⟩)
    ·refine vecsO_mem _ _ (by simp[b.1.1];omega) (λi e => ?_)
     have e:i<o.length-(o.length-k):=by simpa using e
     rw[gt_drop,gt_drop,show dep z+1+i=o.length-k+i by omega];exact b.1.2 _ (by omega)
    ·refine seqsF_mem k u (by omega) (λy hy => ?_) (λi j r l=>by simpa [gt] using g (i+1) (j+1) (by omega) (by simpa using l))
     have a:=h y (List.mem_cons_of_mem _ hy);obtain⟨i,e,hie⟩:=List.getElem_of_mem hy;have:=g 0 (i+1) (by omega) (by simpa using e);have m:gt (z :: u) 0=z:=rfl;have n:gt (z :: u) (i+1)=y:=by simp[gt,e,hie]
     rw[m,n] at this;exact⟨a.1,by omega,a.2.2.1,a.2.2.2⟩
    ·have:=lead_form b.1 b.2.2.1 b.2.2.2.2 b.2.2.2.1
     rw[q] at this;rw[q];exact(congrArg (· :: u) this).symm
   ·refine .inl (seqsF_mem k (z :: u) (by omega) (λy hy => ?_) g)
    have a:=h y hy;refine⟨a.1,?_,a.2.2.1,a.2.2.2⟩;rcases List.mem_cons.1 hy with rfl|p
    ·omega
    ·obtain ⟨i,e,hie⟩:=List.getElem_of_mem p
     have:=g 0 (i+1) (by omega) (by simpa using e);have m:gt (z :: u) 0=z:=rfl;have n:gt (z :: u) (i+1)=y:=by simp[gt,e,hie]
     rw[m,n] at this;omega
theorem nodup_sub_len {α:Type} : ∀(l m:List α),l.Nodup->(∀x∈l,x∈m)->l.length<=m.length
 | [],m,_,_=>by simp
 | a :: l,m,hn,e=>by
  obtain⟨g,i,rfl⟩:=List.append_of_mem (e a (List.mem_cons_self ..));have b:=List.nodup_cons.1 hn
  have:=nodup_sub_len l (g++i) b.2 (λx hx=>by
   have h1:=e x (List.mem_cons_of_mem _ hx);rw[List.mem_append,List.mem_cons] at h1;rw[List.mem_append];rcases h1 with h1|h1|h1
   ·exact .inl h1
   ·subst h1;exact absurd hx b.1
   ·exact .inr h1)
  simp only[List.length_append,List.length_cons] at *;omega
theorem prodN'_pos {o:List Int}(h:∀a∈o,2<=a):1<=prodN' o:=by
 induction o with
 | nil=>simp[prodN']
 | cons a o e=>
  have:=e (λb g=>h b (List.mem_cons_of_mem _ g));have:=h a (List.mem_cons_self ..);rw[prodN'];exact Nat.mul_pos (by omega) (by omega)
def bnd (c:Nat):Nat:=if c<2 then 1 else if c<4 then 2 else if c<8 then 8 else if c<16 then 64 else if c<32 then 1024 else 17408
theorem bnd_step:∀c,c<33->2<=c->bnd (c/2)*(1+c/2)<=bnd c:=by decide
theorem bnd_pos (c:Nat):1<=bnd c:=by
 unfold bnd;repeat' split
 all_goals omega
theorem seqsF_bound (o:List Int) (p:∀a∈o,2<=a) (q:prodN' o<=32):(seqsF o o.length).length<=17408:=by
 have g:∀(l:List Int),(∀a∈l,2<=a)->∀a,2<=a->prodN' l<=prodN' (a :: l)/2:=λl _ a ha=>by
  rw[prodN',Nat.le_div_iff_mul_le (by omega),Nat.mul_comm];exact Nat.mul_le_mul_right _ (by omega)
 have key:∀(m:List Int) (c:Nat),(∀a∈m,2<=a)->prodN' m<=c->c<=32->∀pre:List Int,o=pre++m->(seqsF o m.length).length<=bnd c:=by
  intro m;induction m with
  | nil=>intro c _ _ _ pre _;simp[seqsF];exact bnd_pos c
  | cons a m r=>
   intro c ha u v pre n;have i:=ha a (List.mem_cons_self ..);have e:∀b∈m,2<=b:=λb w=>ha b (List.mem_cons_of_mem _ w);have y:=g m e a i;have z:=prodN'_pos e;have j:prodN' m<=c/2:=Nat.le_trans y (Nat.div_le_div_right u);have A:=r (c/2) e j (by omega) (pre++[a]) (by rw[n];simp)
   have k:o.drop (o.length-m.length)=m:=by
    rw[n];rw[show(pre++a :: m).length-m.length=(pre++[a]).length by simp;omega,show pre++a :: m=(pre++[a])++m by simp];exact List.drop_left
   rw[List.length_cons,seqsF_len,k];have h1:1+prodN' m<=1+c/2:=by omega
   exact Nat.le_trans (Nat.mul_le_mul A h1) (bnd_step c (by omega) (by omega))
 exact key o 32 p q (by omega) [] rfl
open Classical in
noncomputable def maskTo (P:Pr) (H:List Int->Prop):Nat->Nat
 | 0=>0
 | k+1=>if H (elAt P k) then maskTo P H k ||| 2 ^ k else maskTo P H k
noncomputable def msk (P:Pr) (H:List Int->Prop):Nat:=maskTo P H (ordP P).toNat
theorem bit_pow (k t:Nat):(2 ^ k).testBit t=decide (k=t):=by
 by_cases h:k=t
 ·subst h;simp
 ·simp[Nat.testBit_two_pow_of_ne h,h]
theorem maskTo_bit (P:Pr) (H:List Int->Prop) (k t:Nat):(maskTo P H k).testBit t=true↔t<k/\H (elAt P t):=by
 induction k with
 | zero=>simp[maskTo]
 | succ k b=>
  rw[maskTo];split
  ·rename_i h
   rw[Nat.testBit_or,Bool.or_eq_true,b,bit_pow,decide_eq_true_iff];constructor
   ·rintro (⟨h1,h2⟩|h1)
    ·exact⟨by omega,h2⟩
    ·subst h1;exact⟨by omega,h⟩
   ·rintro ⟨h1,h2⟩
    rcases Nat.lt_succ_iff_lt_or_eq.1 h1 with a|a
    ·exact .inl ⟨a,h2⟩
    ·exact .inr a.symm
  ·rename_i h
   rw[b];constructor
   ·rintro⟨h1,h2⟩;exact⟨by omega,h2⟩
   ·rintro ⟨h1,h2⟩
    rcases Nat.lt_succ_iff_lt_or_eq.1 h1 with a|a
    ·exact⟨a,h2⟩
    ·subst a;exact absurd h2 h
theorem msk_bit {P:Pr}{H:List Int->Prop}{t:Nat}(a:t<(ordP P).toNat):(msk P H).testBit t=true↔H (elAt P t):=by
 unfold msk;rw[maskTo_bit];exact⟨λh=>h.2,λh=>⟨a,h⟩⟩
theorem msk_high {P:Pr}{H:List Int->Prop}{t:Nat}(a:(ordP P).toNat<=t):(msk P H).testBit t=false:=by
 rw[Bool.eq_false_iff];intro h;unfold msk at h;rw[maskTo_bit] at h;omega
theorem msk_eq {P:Pr}{H:List Int->Prop}{m:Nat}(h1:∀t,t<(ordP P).toNat->(m.testBit t=true↔H (elAt P t))) (b:∀t,(ordP P).toNat<=t->m.testBit t=false):m=msk P H:=by
 apply Nat.eq_of_testBit_eq;intro t;by_cases a:t<(ordP P).toNat
 ·exact Bool.eq_iff_iff.2 ((h1 t a).trans (msk_bit a).symm)
 ·rw[b t (by omega),msk_high (by omega)]
theorem msk_lt (P:Pr) (H:List Int->Prop):msk P H<2 ^ (ordP P).toNat:=by
 apply Nat.lt_pow_two_of_testBit;intro t a;exact msk_high a
section
variable {P:Pr}(G:Grp P)
include G
theorem Grp.num_lt {x:List Int}(hx:Vec P.orders x):(num P x).toNat<(ordP P).toNat/\elAt P ((num P x).toNat:Int)=x:=by
 have a:=num_bd G.v hx;refine⟨by omega,?_⟩;rw[show(((num P x).toNat:Nat):Int)=num P x by omega];exact elAt_num G.v hx
theorem Grp.msk_mem {H:List Int->Prop}(_hH:∀x,H x->Vec P.orders x) {x:List Int}(hx:Vec P.orders x):(msk P H).testBit (num P x).toNat=true↔H x:=by
 obtain⟨h1,h2⟩:=G.num_lt hx;rw[msk_bit h1,h2]
theorem Grp.msk_inj {H K:List Int->Prop}(S:Sub P H) (R:Sub P K) (h:msk P H=msk P K):H=K:=
 funext λx=>propext ⟨λhx=>(G.msk_mem R.vec (S.vec x hx)).1 (h▸(G.msk_mem S.vec (S.vec x hx)).2 hx),λhx=>(G.msk_mem S.vec (R.vec x hx)).1 (h▸(G.msk_mem R.vec (R.vec x hx)).2 hx)⟩
theorem Grp.sub_closed {H:List Int->Prop}(h1:∀x,H x->Vec P.orders x) (j:H (zeros P.orders.length)) (l:∀x y,H x->H y->H (rMul P x y)):Sub P H:=by
 refine⟨h1,j,l,λx hx => ?_⟩;have a:=h1 x hx;obtain⟨M,hM,n⟩:=G.fin P.orders.length 0 x (by omega) (T_zero.2 a)
 have i:∀k,H (pw P x k):=λk=>by
  induction k with
  | zero=>exact j
  | succ k p=>exact l _ _ p hx
 obtain⟨m,rfl⟩:∃m,M=m+1:=⟨M-1,by omega⟩
 have e:rInv P x=pw P x m:=by
  have b:=G.invV a;have g:=G.pw_vec a m;rw[G.pw_succ' a] at n;rw[<-G.grp.er _ b,<-n,<-G.ass b a g,G.inv_mul a,G.grp.el _ g]
 rw[e];exact i m
def extP (P:Pr) (H:List Int->Prop) (x:List Int):List Int->Prop:=genP P (λy=>H y\/y=x)
omit G in
theorem genP_cons (P:Pr) (y:List Int) (l:List (List Int)):genP P (λx=>x∈y :: l)=extP P (genP P (λx=>x∈l)) y:=by
 unfold extP;rw[genP_or];congr 1
 funext x
 exact propext (by rw[List.mem_cons];exact Or.comm)
theorem Grp.all_masks {M:List Nat}(i:msk P (λx=>x=zeros P.orders.length)∈M)
  (j:∀H,Sub P H->msk P H∈M->∀t,t<(ordP P).toNat->¬H (elAt P t)->msk P (extP P H (elAt P t))∈M) {H:List Int->Prop}(S:Sub P H):msk P H∈M:=by
 have key:∀l:List (List Int),(∀x∈l,Vec P.orders x)->msk P (genP P (λx=>x∈l))∈M:=by
  intro l;induction l with
  | nil=>
   intro _
   have:genP P (λx=>x∈([]:List (List Int)))=λx=>x=zeros P.orders.length:=by
    rw[<-G.genP_none];congr 1;funext x;simp
   rw[this];exact i
  | cons y l k=>
   intro h;have b:=k (λx hx=>h x (List.mem_cons_of_mem _ hx));have hy:=h y (List.mem_cons_self ..);have Sl:=G.genP_sub (Q:=λx=>x∈l) (λx hx=>h x (List.mem_cons_of_mem _ hx));rw[genP_cons];by_cases a:genP P (λx=>x∈l) y
   ·have:extP P (genP P (λx=>x∈l)) y=genP P (λx=>x∈l):=by
     unfold extP;have e:(λz=>genP P (λx=>x∈l) z\/z=y)=genP P (λx=>x∈l):=funext λz=>propext ⟨λh=>h.elim id (λe=>e▸a),.inl⟩;rw[e];exact genP_self Sl
    rw[this];exact b
   ·obtain ⟨h1,g⟩:=G.num_lt hy
    have:=j _ Sl b _ h1 (by rw[g];exact a);rw[g] at this;exact this
 have:=key (cseq P H) (λx hx=>S.vec x ((G.seq_facts S).2.1 x hx));rw[G.genP_cseq S] at this;exact this
def ofMask (P:Pr) (m:Nat) (x:List Int):Prop:=Vec P.orders x/\m.testBit (num P x).toNat=true
theorem Grp.ofMask_msk {H:List Int->Prop}(S:Sub P H):ofMask P (msk P H)=H:=
 funext λx=>propext ⟨λh=>(G.msk_mem S.vec h.1).1 h.2,λh=>⟨S.vec x h,(G.msk_mem S.vec (S.vec x h)).2 h⟩⟩
omit G in
theorem prodTo_cons (a:Int) (l:List Int) (k:Nat):prodTo (a :: l) (k+1)=a*prodTo l k:=by
 induction k with
 | zero=>simp[prodTo,gt]
 | succ k b=>
  rw[prodTo,b];have:gt (a :: l) (k+1)=gt l k:=by simp[gt]
  rw[this,Int.mul_assoc];rfl
omit G in
theorem prodN'_to:∀(l:List Int),(∀a∈l,0<=a)->((prodN' l:Nat):Int)=prodTo l l.length
 | [],_=>rfl
 | a :: l,h=>by
  have e:=prodN'_to l (λb g=>h b (List.mem_cons_of_mem _ g));have ha:=h a (List.mem_cons_self ..);rw[prodN',List.length_cons,prodTo_cons,Int.natCast_mul,e,show((a.toNat:Nat):Int)=a by omega]
omit G in
theorem prodN'_eq (hP:Valid P):((prodN' P.orders:Nat):Int)=ordP P:=
 prodN'_to _ (λa ha=>by
  obtain⟨i,b,rfl⟩:=List.getElem_of_mem ha;rw[<-gt_eq _ _ b];have:=(hP.ord7 i b).1;omega)
theorem Grp.few_subs (w:ordP P<=32) {M:List Nat}(y:M.Nodup) (g:∀m∈M,∃H,Sub P H/\m=msk P H):M.length<=17408:=by
 have hP:=G.v
 have A:∀a∈P.orders,2<=a:=λa ha=>by
  obtain⟨i,n,rfl⟩:=List.getElem_of_mem ha;rw[<-gt_eq _ _ n];exact(hP.ord7 i n).1
 have B:prodN' P.orders<=32:=by have:=prodN'_eq hP;omega
 have p:=seqsF_bound P.orders A B
 have k:(M.map (λm=>cseq P (ofMask P m))).Nodup:=by
  refine List.nodup_iff_pairwise_ne.2 ?_;rw[List.pairwise_map];refine(List.nodup_iff_pairwise_ne.1 y).imp_of_mem (λ{a b} ha p l q=>l ?_);obtain⟨H,S,rfl⟩:=g a ha;obtain⟨K,R,rfl⟩:=g b p;rw[G.ofMask_msk S,G.ofMask_msk R] at q;have:H=K:=by rw[<-G.genP_cseq S,<-G.genP_cseq R,q]
  rw[this]
 have e:∀u∈M.map (λm=>cseq P (ofMask P m)),u∈seqsF P.orders P.orders.length:=by
  intro u C;obtain⟨m,hm,rfl⟩:=List.mem_map.1 C;obtain⟨H,S,rfl⟩:=g m hm;rw[G.ofMask_msk S];have r:=(G.seq_facts S).1;refine seqsF_mem _ _ (Nat.le_refl _) (λz D => ?_) r.2;obtain⟨E,z2,z3⟩:=r.1 z D;exact⟨E,by omega,z2,z3,λj F=>dep_zero F⟩
 have:=nodup_sub_len _ _ k e;rw[List.length_map] at this;omega
end
def subLt (P:Pr) (u v:List (List Int)):Prop:=prodU P u u.length<prodU P v v.length\/(prodU P u u.length=prodU P v v.length/\cmpL u.flatten v.flatten<0)
def LatL (P:Pr) (L:List (List (List Int))):Prop:=L.Pairwise (subLt P)/\∀u,u∈L↔SubB P u
theorem subLt_irrefl {P:Pr}{u:List (List Int)} : ¬subLt P u u:=by
 rintro(h|⟨_,h⟩)
 ·omega
 ·rw[(cmpL_zero _ _).2 rfl] at h;omega
theorem subLt_trans {P:Pr}{u v w:List (List Int)}(h:subLt P u v) (k:subLt P v w):subLt P u w:=by
 unfold subLt at *;rcases h with h|⟨h1,b⟩<;>rcases k with k|⟨g,k2⟩
 ·exact .inl (by omega)
 ·exact .inl (by omega)
 ·exact .inl (by omega)
 ·refine .inr ⟨by omega,?_⟩
  have e:=cmpL_le_trans u.flatten v.flatten w.flatten (by omega) (by omega);rcases Int.lt_or_eq_of_le e with a|a
  ·exact a
  ·rw [cmpL_zero] at a
   rw[a] at b;have:=cmpL_swap w.flatten v.flatten;omega
theorem sorted_one {α:Type}{r:α->α->Prop}(i:∀a,¬r a a) (n:∀a b c,r a b->r b c->r a c):∀ {l m:List α},l.Pairwise r->m.Pairwise r->(∀x,x∈l↔x∈m)->l=m
 | [],[],_,_,_=>rfl
 | [],b :: m,_,_,h=>by have:=(h b).2 (List.mem_cons_self ..);cases this
 | a :: l,[],_,_,h=>by have:=(h a).1 (List.mem_cons_self ..);cases this
 | a :: l,b :: m,hl,hm,h=>by
  have e:=List.pairwise_cons.1 hl;have g:=List.pairwise_cons.1 hm
  have j:a=b:=by
   rcases List.mem_cons.1 ((h a).1 (List.mem_cons_self ..)) with h1|h1
   ·exact h1
   ·rcases List.mem_cons.1 ((h b).2 (List.mem_cons_self ..)) with k|k
    ·exact k.symm
    ·exact absurd (n _ _ _ (e.1 b k) (g.1 a h1)) (i a)
  subst j;congr 1
  refine sorted_one i n e.2 g.2 (λx=>⟨λhx => ?_,λhx => ?_⟩)
  ·rcases List.mem_cons.1 ((h x).1 (List.mem_cons_of_mem _ hx)) with h1|h1
   ·subst h1;exact absurd (e.1 _ hx) (i _)
   ·exact h1
  ·rcases List.mem_cons.1 ((h x).2 (List.mem_cons_of_mem _ hx)) with h1|h1
   ·subst h1;exact absurd (g.1 _ hx) (i _)
   ·exact h1
theorem LatL.one {P:Pr}{L M:List (List (List Int))}(h:LatL P L) (k:LatL P M):L=M:=
 sorted_one (λ_=>subLt_irrefl) (λ_ _ _=>subLt_trans) h.1 k.1 (λu=>(h.2 u).trans (k.2 u).symm)
def tb (P:Pr) (a b:Nat):Nat:=(num P (rMul P (elAt P a) (elAt P b))).toNat
def rowB (P:Pr) (m a n:Nat):Nat->Nat
 | 0=>n
 | b+1=>if m.testBit b then rowB P m a n b ||| 2 ^ tb P a b else rowB P m a n b
def outA (P:Pr) (N m:Nat):Nat->Nat
 | 0=>m
 | a+1=>if m.testBit a then rowB P m a (outA P N m a) N else outA P N m a
theorem rowB_bit (P:Pr) (m a n k t:Nat):(rowB P m a n k).testBit t=true↔n.testBit t=true\/∃b,b<k/\m.testBit b=true/\tb P a b=t:=by
 induction k with
 | zero=>simp[rowB]
 | succ k g=>
  rw[rowB];split
  ·rename_i h
   rw[Nat.testBit_or,Bool.or_eq_true,g,bit_pow,decide_eq_true_iff];constructor
   ·rintro ((h1|⟨b,h1,h2,h3⟩)|h1)
    ·exact .inl h1
    ·exact .inr ⟨b,by omega,h2,h3⟩
    ·exact .inr ⟨k,by omega,h,h1⟩
   ·rintro (h1|⟨b,h1,h2,h3⟩)
    ·exact .inl (.inl h1)
    ·rcases Nat.lt_succ_iff_lt_or_eq.1 h1 with e|e
     ·exact .inl (.inr ⟨b,e,h2,h3⟩)
     ·subst e;exact .inr h3
  ·rename_i h
   rw[g];constructor
   ·rintro (h1|⟨b,h1,h2,h3⟩)
    ·exact .inl h1
    ·exact .inr ⟨b,by omega,h2,h3⟩
   ·rintro (h1|⟨b,h1,h2,h3⟩)
    ·exact .inl h1
    ·rcases Nat.lt_succ_iff_lt_or_eq.1 h1 with e|e
     ·exact .inr ⟨b,e,h2,h3⟩
     ·subst e;exact absurd h2 h
theorem outA_bit (P:Pr) (N m k t:Nat):(outA P N m k).testBit t=true↔m.testBit t=true\/∃a b,a<k/\b<N/\m.testBit a=true/\m.testBit b=true/\tb P a b=t:=by
 induction k with
 | zero=>simp[outA]
 | succ k g=>
  rw[outA];split
  ·rename_i h
   rw[rowB_bit,g];constructor
   ·rintro ((h1|⟨a,b,h1,h2,h3,h4,h5⟩)|⟨b,h1,h2,h3⟩)
    ·exact .inl h1
    ·exact .inr ⟨a,b,by omega,h2,h3,h4,h5⟩
    ·exact .inr ⟨k,b,by omega,h1,h,h2,h3⟩
   ·rintro (h1|⟨a,b,h1,h2,h3,h4,h5⟩)
    ·exact .inl (.inl h1)
    ·rcases Nat.lt_succ_iff_lt_or_eq.1 h1 with e|e
     ·exact .inl (.inr ⟨a,b,e,h2,h3,h4,h5⟩)
     ·subst e;exact .inr ⟨b,h2,h4,h5⟩
  ·rename_i h
   rw[g];constructor
   ·rintro (h1|⟨a,b,h1,h2,h3,h4,h5⟩)
    ·exact .inl h1
    ·exact .inr ⟨a,b,by omega,h2,h3,h4,h5⟩
   ·rintro (h1|⟨a,b,h1,h2,h3,h4,h5⟩)
    ·exact .inl h1
    ·rcases Nat.lt_succ_iff_lt_or_eq.1 h1 with e|e
     ·exact .inr ⟨a,b,e,h2,h3,h4,h5⟩
     ·subst e;exact absurd h3 h
structure Btw (P:Pr) (H:List Int->Prop) (x:Nat) (m:Nat):Prop where
 high:∀t,(ordP P).toNat<=t->m.testBit t=false
 below:∀t,t<(ordP P).toNat->m.testBit t=true->extP P H (elAt P x) (elAt P t)
 above:∀t,t<(ordP P).toNat->H (elAt P t)\/t=x->m.testBit t=true
theorem le_of_bits {a b:Nat}(h:∀t,a.testBit t=true->b.testBit t=true):a<=b:=by
 have:a ||| b=b:=Nat.eq_of_testBit_eq (λt=>by
  rw[Nat.testBit_or];cases e:b.testBit t with
  | true=>simp
  | false=>
   cases ha:a.testBit t with
   | true=>rw[h t ha] at e;cases e
   | false=>rfl)
 rw[<-this];exact Nat.left_le_or
section
variable {P:Pr}(G:Grp P)
include G
theorem Grp.elAtV {t:Nat}(_ht:t<(ordP P).toNat):Vec P.orders (elAt P t):=elAt_vec G.v _ (by omega)
theorem Grp.num_el {t:Nat}(a:t<(ordP P).toNat):(num P (elAt P t)).toNat=t:=by
 rw[num_elAt G.v _ (by omega) (by omega)];omega
theorem Grp.tb_lt {a b:Nat}(ha:a<(ordP P).toNat) (e:b<(ordP P).toNat):tb P a b<(ordP P).toNat/\elAt P (tb P a b)=rMul P (elAt P a) (elAt P b):=
 G.num_lt (G.mulV (G.elAtV ha) (G.elAtV e))
theorem Grp.ext_sub {H:List Int->Prop}(S:Sub P H) {x:List Int}(hx:Vec P.orders x):Sub P (extP P H x):=
 G.genP_sub (λy h=>h.elim (S.vec y) (λe=>e▸hx))
omit G in
theorem btw_start {H:List Int->Prop}{x:Nat}(hx:x<(ordP P).toNat):Btw P H x (msk P H ||| 2 ^ x):=by
 refine⟨λt a => ?_,λt a h => ?_,λt a h => ?_⟩
 ·rw[Nat.testBit_or,msk_high a,bit_pow,Bool.false_or,decide_eq_false_iff_not];omega
 ·rw [Nat.testBit_or,Bool.or_eq_true,msk_bit a,bit_pow,decide_eq_true_iff] at h
  rcases h with h|h
  ·exact genP_mem (.inl h)
  ·subst h;exact genP_mem (.inr rfl)
 ·rw [Nat.testBit_or,Bool.or_eq_true,msk_bit a,bit_pow,decide_eq_true_iff]
  exact h.imp id (λe=>e.symm)
theorem Grp.btw_next {H:List Int->Prop}(S:Sub P H) {x m:Nat}(hx:x<(ordP P).toNat) (B:Btw P H x m):Btw P H x (outA P (ordP P).toNat m (ordP P).toNat):=by
 have j:=G.ext_sub S (G.elAtV hx);refine⟨λt e => ?_,λt e h => ?_,λt e h => ?_⟩
 ·rw [Bool.eq_false_iff]
  intro h;rw[outA_bit] at h;rcases h with h|⟨a,b,h1,g,_,_,i⟩
  ·rw[B.high t e] at h;cases h
  ·have:=(G.tb_lt h1 g).1;omega
 ·rw [outA_bit] at h
  rcases h with h|⟨a,b,h1,g,k,l,i⟩
  ·exact B.below t e h
  ·rw [<-i,(G.tb_lt h1 g).2]
   exact j.mul _ _ (B.below a h1 k) (B.below b g l)
 ·rw[outA_bit];exact .inl (B.above t e h)
omit G in
theorem outA_le (N m k:Nat):m<=outA P N m k:=le_of_bits (λt h=>(outA_bit P N m k t).2 (.inl h))
theorem Grp.btw_end {H:List Int->Prop}(S:Sub P H) {x m:Nat}(hx:x<(ordP P).toNat) (B:Btw P H x m) (j:outA P (ordP P).toNat m (ordP P).toNat=m):m=msk P (extP P H (elAt P x)):=by
 have k:Sub P (ofMask P m):=by
  refine G.sub_closed (λy h=>h.1) ⟨G.oneV,?_⟩ (λy z hy a=>⟨G.mulV hy.1 a.1,?_⟩)
  ·obtain ⟨h1,g⟩:=G.num_lt G.oneV
   exact B.above _ h1 (.inl (by rw[g];exact S.one))
  ·obtain ⟨l,n⟩:=G.num_lt hy.1
   obtain⟨p,z2⟩:=G.num_lt a.1;have:(outA P (ordP P).toNat m (ordP P).toNat).testBit (tb P (num P y).toNat (num P z).toNat)=true:=(outA_bit _ _ _ _ _).2 (.inr ⟨_,_,l,p,hy.2,a.2,rfl⟩);rw[j] at this;unfold tb at this;rw[n,z2] at this;exact this
 have b:∀y,extP P H (elAt P x) y->ofMask P m y:=λy hy=>hy _ k (λz a=>by
  rcases a with a|a
  ·have e:=S.vec z a
   obtain⟨h1,g⟩:=G.num_lt e;exact⟨e,B.above _ h1 (.inl (by rw[g];exact a))⟩
  ·subst a
   exact⟨G.elAtV hx,by rw[G.num_el hx];exact B.above x hx (.inr rfl)⟩)
 refine msk_eq (λt i=>⟨B.below t i,λh => ?_⟩) B.high;have:=(b _ h).2;rwa [G.num_el i] at this
omit G in
theorem btw_lt {H:List Int->Prop}{x m:Nat}(B:Btw P H x m):m<2 ^ (ordP P).toNat:=Nat.lt_pow_two_of_testBit _ (λt a=>B.high t a)
end
theorem add_bit {m y:Nat}(h:m.testBit y=false):m+2 ^ y=m ||| 2 ^ y:=by
 have a:m%2 ^ (y+1)<2 ^ y:=by
  rcases Nat.lt_or_ge (m%2 ^ (y+1)) (2 ^ y) with h1|h1
  ·exact h1
  ·have k:m%2 ^ (y+1)<2 ^ (y+1):=Nat.mod_lt _ (Nat.two_pow_pos _)
   have g:=Nat.testBit_of_two_pow_le_and_two_pow_add_one_gt h1 k;rw[Nat.testBit_mod_two_pow] at g;simp[h] at g
 have i:=Nat.two_pow_add_eq_or_of_lt a 1;rw[Nat.mul_one] at i
 have b:2 ^ y+m%2 ^ (y+1)<2 ^ (y+1):=by
  have e:=Nat.pow_succ (n:=2) (m:=y);omega
 have l:=Nat.two_pow_add_eq_or_of_lt b (m/2 ^ (y+1));have j:=Nat.two_pow_add_eq_or_of_lt (Nat.lt_trans a (Nat.pow_lt_pow_right (by omega) (Nat.lt_succ_self y))) (m/2 ^ (y+1));have p:=Nat.div_add_mod m (2 ^ (y+1));have q:m+2 ^ y=2 ^ (y+1)*(m/2 ^ (y+1))+(2 ^ y+m%2 ^ (y+1)):=by omega
 rw[q,l,i];rw[p] at j;rw[<-Nat.or_assoc,Nat.or_comm _ (2 ^ y),Nat.or_assoc,<-j,Nat.or_comm]
def Bits (m:Nat) (q:List Nat):Prop:=∀t,m.testBit t=true↔t∈q
theorem Bits.app {m y:Nat}{q:List Nat}(h:Bits m q) (hy:¬y∈q):Bits (m+2 ^ y) (q++[y]):=λt=>by
 have:m.testBit y=false:=by
  rw[Bool.eq_false_iff];exact λe=>hy ((h y).1 e)
 rw[add_bit this,Nat.testBit_or,Bool.or_eq_true,h t,bit_pow,decide_eq_true_iff,List.mem_append,List.mem_singleton];exact or_congr Iff.rfl eq_comm
theorem num_zeros {P:Pr}(_hP:Valid P):num P (zeros P.orders.length)=0:=by
 have key:∀k,numTo P.orders (zeros P.orders.length) k=0:=by
  intro k;induction k with
  | zero=>rfl
  | succ k a=>
   have b:gt (zeros P.orders.length) k=0:=gt_replicate _ _;simp only[numTo,a,b];simp
 exact key _
def genN (P:Pr) (gs:List Nat):List Int->Prop:=genP P (λy=>∃g∈gs,y=elAt P g)
structure Spn (P:Pr) (gs q:List Nat) (k i:Nat):Prop where
 nd:q.Nodup
 rng:∀t∈q,t<(ordP P).toNat/\genN P gs (elAt P t)
 zero:0∈q
 done:∀j,j<k->∀g∈gs,tb P (gt q j) g∈q
 part:∀j,j<i->tb P (gt q k) (gt gs j)∈q
section
variable {P:Pr}(G:Grp P)
include G
theorem Grp.genN_sub {gs:List Nat}(h:∀g∈gs,g<(ordP P).toNat):Sub P (genN P gs):=G.genP_sub (λ_ ⟨g,a,e⟩=>e▸G.elAtV (h g a))
theorem Grp.el_zero:elAt P ((0:Nat):Int)=zeros P.orders.length:=by
 have h:=G.num_lt G.oneV;have a:num P (zeros P.orders.length)=0:=num_zeros G.v;rw[a] at h;exact h.2
theorem Grp.spn_start (gs:List Nat):Spn P gs [0] 0 0:=by
 have a:=G.v.ordP_pos;refine⟨by simp,λt b => ?_,by simp,λj e=>by omega,λj e=>by omega⟩;have:t=0:=by simpa using b
 subst this;exact⟨by omega,by rw[G.el_zero];intro H S _;exact S.one⟩
omit G in
theorem Spn.len {gs q:List Nat}{k i:Nat}(h:Spn P gs q k i):q.length<=(ordP P).toNat:=by
 have:=nodup_sub_len q (List.range (ordP P).toNat) h.nd (λt a=>List.mem_range.2 (h.rng t a).1);simpa using this
omit G in
theorem Spn.next {gs q:List Nat}{k:Nat}(h:Spn P gs q k gs.length):Spn P gs q (k+1) 0:=
 ⟨h.nd,h.rng,h.zero,λj a g b=>by
  rcases Nat.lt_succ_iff_lt_or_eq.1 a with h1|h1
  ·exact h.done j h1 g b
  ·subst h1
   obtain⟨i,e,rfl⟩:=List.getElem_of_mem b;rw[<-gt_eq gs i e];exact h.part i e,λj a=>by omega⟩
omit G in
theorem Spn.skip {gs q:List Nat}{k i:Nat}(h:Spn P gs q k i) (hy:tb P (gt q k) (gt gs i)∈q):Spn P gs q k (i+1):=
 ⟨h.nd,h.rng,h.zero,h.done,λj a=>by
  rcases Nat.lt_succ_iff_lt_or_eq.1 a with h1|h1
  ·exact h.part j h1
  ·subst h1;exact hy⟩
theorem Grp.spn_app {gs q:List Nat}{k i:Nat}(h:Spn P gs q k i) (w:∀g∈gs,g<(ordP P).toNat) (hk:k<q.length) (y:i<gs.length) (hy:¬tb P (gt q k) (gt gs i)∈q):Spn P gs (q++[tb P (gt q k) (gt gs i)]) k (i+1):=by
 have l:=h.rng _ (gtMem hk);have n:=w _ (gtMem y);have m:=G.tb_lt l.1 n;have S:=G.genN_sub w;have p:∀t,t∈q->t∈q++[tb P (gt q k) (gt gs i)]:=λt r=>List.mem_append.2 (.inl r);refine⟨?_,λt r => ?_,p _ h.zero,λj u g v => ?_,λj u => ?_⟩
 ·rw [List.nodup_append]
  exact ⟨h.nd,by simp,λa ha b z=>by
   rw[List.mem_singleton.1 z];exact λe=>hy (e▸ha)⟩
 ·rcases List.mem_append.1 r with h1|h1
  ·exact h.rng t h1
  ·rw [List.mem_singleton.1 h1]
   exact⟨m.1,by rw[m.2];exact S.mul _ _ l.2 (genP_mem ⟨_,gtMem y,rfl⟩)⟩
 ·rw[gt_append_left _ _ _ (by omega)];exact p _ (h.done j u g v)
 ·rw [gt_append_left _ _ _ hk]
  rcases Nat.lt_succ_iff_lt_or_eq.1 u with h1|h1
  ·exact p _ (h.part j h1)
  ·subst h1;exact List.mem_append.2 (.inr (List.mem_singleton_self _))
theorem Grp.right_closed {gs:List Nat}(l:∀g∈gs,g<(ordP P).toNat) {K:List Int->Prop}(m:∀y,K y->Vec P.orders y) (h1:K (zeros P.orders.length)) (p:∀y,K y->∀g∈gs,K (rMul P y (elAt P g))):∀z,genN P gs z->K z:=by
 have S:Sub P (λz=>Vec P.orders z/\∀y,K y->K (rMul P y z)):=G.sub_closed (λ_ h=>h.1) ⟨G.oneV,λy hy=>by rw[G.grp.er _ (m y hy)];exact hy⟩
  (λa b ha j=>⟨G.mulV ha.1 j.1,λy hy=>by rw[<-G.ass (m y hy) ha.1 j.1];exact j.2 _ (ha.2 y hy)⟩)
 intro z n;have:=(n _ S (λy ⟨g,i,e⟩=>e▸⟨G.elAtV (l g i),λy hy=>p y hy g i⟩)).2 _ h1;have k:=(G.genN_sub l).vec z n;rwa [G.grp.el _ k] at this
theorem Grp.spn_end {gs q:List Nat}(i:∀g∈gs,g<(ordP P).toNat) (h:Spn P gs q q.length 0) {m:Nat}(b:Bits m q):m=msk P (genN P gs):=by
 refine msk_eq (λt k=>⟨λp=>(h.rng t ((b t).1 p)).2,λr => ?_⟩) (λt k => ?_)
 ·have l:=G.right_closed i (K:=λy=>Vec P.orders y/\(num P y).toNat∈q) (λ_ h=>h.1) ⟨G.oneV,by rw[num_zeros G.v];exact h.zero⟩ (λy hy g a=>by
   refine⟨G.mulV hy.1 (G.elAtV (i g a)),?_⟩;obtain⟨j,n,jl⟩:=List.getElem_of_mem hy.2;have:=h.done j n g a;unfold tb at this;rw[gt_eq q j n,jl,(G.num_lt hy.1).2] at this;exact this) _ r
  rw[G.num_el k] at l;exact(b t).2 l.2
 ·rw [Bool.eq_false_iff]
  intro e;have:=(h.rng t ((b t).1 e)).1;omega
omit G in
theorem genN_app (gs:List Nat) (t:Nat):genN P (gs++[t])=extP P (genN P gs) (elAt P t):=by
 unfold genN extP;rw[genP_or];congr 1
 funext y
 exact propext ⟨λ⟨g,a,e⟩=>(List.mem_append.1 a).elim (λh => .inl ⟨g,h,e⟩) (λh => .inr (by rw[<-List.mem_singleton.1 h];exact e)),λh=>h.elim (λ⟨g,a,e⟩=>⟨g,List.mem_append.2 (.inl a),e⟩) (λe=>⟨t,by simp,e⟩)⟩
theorem Grp.genN_nil:genN P []=λx=>x=zeros P.orders.length:=by
 rw[<-G.genP_none];unfold genN;congr 1;funext y;simp
end
def memL (P:Pr) (m:Nat):Nat->List (List Int)
 | 0=>[]
 | k+1=>if k≠0/\m.testBit k=true then memL P m k++[elAt P k] else memL P m k
theorem memL_mem {P:Pr}{m k:Nat}{x:List Int} : x∈memL P m k↔∃t,t<k/\t≠0/\m.testBit t=true/\x=elAt P t:=by
 induction k with
 | zero=>simp[memL]
 | succ k b=>
  rw[memL];split
  ·rename_i h
   rw[List.mem_append,b,List.mem_singleton];constructor
   ·rintro (⟨t,h1,h2⟩|h1)
    ·exact⟨t,by omega,h2⟩
    ·exact⟨k,by omega,h.1,h.2,h1⟩
   ·rintro ⟨t,h1,h2,h3,h4⟩
    rcases Nat.lt_succ_iff_lt_or_eq.1 h1 with a|a
    ·exact .inl ⟨t,a,h2,h3,h4⟩
    ·subst a;exact .inr h4
  ·rename_i h
   rw[b];constructor
   ·rintro⟨t,h1,h2⟩;exact⟨t,by omega,h2⟩
   ·rintro ⟨t,h1,h2,h3,h4⟩
    rcases Nat.lt_succ_iff_lt_or_eq.1 h1 with a|a
    ·exact⟨t,a,h2,h3,h4⟩
    ·subst a;exact absurd ⟨h2,h3⟩ h
theorem memL_len (P:Pr) (m k:Nat):(memL P m k).length<=k:=by
 induction k with
 | zero=>simp[memL]
 | succ k a=>
  rw[memL];split
  ·rw[List.length_append,List.length_singleton];omega
  ·omega
def Fits (P:Pr) (L:List (List Int)) (d:Nat) (x:List Int):Prop:=dep x=d/\gt x d=1/\∀e,d<e->e<P.orders.length->(∃y∈L,dep y=e)->gt x e=0
open Classical in
noncomputable def fitL (P:Pr) (L:List (List Int)) (d:Nat):List (List Int):=L.filter (λx=>decide (Fits P L d x))
noncomputable def seqTo (P:Pr) (L:List (List Int)):Nat->List (List Int)
 | 0=>[]
 | d+1=>seqTo P L d++fitL P L d
theorem filter_one {α:Type}{l:List α}{p:α->Bool}{a:α}(k:l.Nodup) (ha:a∈l) (h:∀x∈l,p x=true↔x=a):l.filter p=[a]:=by
 induction l with
 | nil=>cases ha
 | cons b l m=>
  have g:=List.nodup_cons.1 k;by_cases i:b=a
  ·subst i
   rw[List.filter_cons_of_pos ((h b (List.mem_cons_self ..)).2 rfl)];have:l.filter p=[]:=List.filter_eq_nil_iff.2 (λx hx j=>g.1 (((h x (List.mem_cons_of_mem _ hx)).1 j)▸hx));rw[this]
  ·rw [List.filter_cons_of_neg (λj=>i ((h b (List.mem_cons_self ..)).1 j))]
   exact m g.2 ((List.mem_cons.1 ha).resolve_left (λe=>i e.symm)) (λx hx=>h x (List.mem_cons_of_mem _ hx))
section
variable {P:Pr}(G:Grp P)
include G
theorem Grp.memL_iff {H:List Int->Prop}(S:Sub P H) {x:List Int} : x∈memL P (msk P H) (ordP P).toNat↔H x/\x≠zeros P.orders.length:=by
 rw[memL_mem];constructor
 ·rintro ⟨t,h1,h2,a,rfl⟩
  rw[msk_bit h1] at a;refine⟨a,λe=>h2 ?_⟩;have b:=G.num_el h1;rw[e,num_zeros G.v] at b;exact b.symm
 ·rintro ⟨h1,h2⟩
  have g:=S.vec x h1;obtain⟨j,i⟩:=G.num_lt g;refine⟨_,j,λe=>h2 ?_,(G.msk_mem S.vec g).2 h1,i.symm⟩;rw[<-i,e];exact G.el_zero
theorem Grp.memL_nodup (m:Nat):∀k,k<=(ordP P).toNat->(memL P m k).Nodup:=by
 intro k;induction k with
 | zero=>intro _;simp[memL]
 | succ k g=>
  intro hk;have h1:=g (by omega);rw[memL];split
  ·rw [List.nodup_append]
   refine⟨h1,by simp,λa ha b i e => ?_⟩;rw[List.mem_singleton.1 i] at e;obtain⟨t,t1,_,_,t4⟩:=memL_mem.1 ha;have j:=G.num_el (t:=t) (by omega);have l:=G.num_el (t:=k) (by omega);rw[<-t4,e] at j;omega
  ·exact h1
open Classical in
theorem Grp.fit_one {H:List Int->Prop}(S:Sub P H) {r:Nat->List Int}(A:Red P H r) {d:Nat}(q:d<P.orders.length) :
  fitL P (memL P (msk P H) (ordP P).toNat) d=if r d=[] then [] else [r d]:=by
 have g:∀e,e<P.orders.length->((∃y∈memL P (msk P H) (ordP P).toNat,dep y=e)↔r e≠[]):=λe j=>by
  constructor
  ·rintro ⟨y,hy,rfl⟩
   obtain⟨L,_⟩:=(G.memL_iff S).1 hy;have w:=S.vec y L;exact A.piv y L _ j (dep_T w) (dep_ne (by rw[w.1];exact j))
  ·intro h
   obtain⟨C,m2,k⟩:=A.mem e j h;refine⟨r e,(G.memL_iff S).2 ⟨C,λz => ?_⟩,dep_lead j m2 (by rw[k];decide)⟩;rw[z] at k;have:gt (zeros P.orders.length) e=0:=gt_replicate _ _;rw[this] at k;cases k
 unfold fitL;by_cases p:r d=[]
 ·rw [if_pos p]
  refine List.filter_eq_nil_iff.2 (λx hx D => ?_);have N:=of_decide_eq_true D;exact(g d q).1 ⟨x,hx,N.1⟩ p
 ·rw [if_neg p]
  obtain⟨C,m2,k⟩:=A.mem d q p
  have E:r d∈memL P (msk P H) (ordP P).toNat:=(G.memL_iff S).2 ⟨C,λz=>by
   rw[z] at k;have:gt (zeros P.orders.length) d=0:=gt_replicate _ _;rw[this] at k;cases k⟩
  refine filter_one (G.memL_nodup _ _ (Nat.le_refl _)) E (λx hx => ?_);rw[decide_eq_true_iff];constructor
  ·rintro ⟨f1,f2,f3⟩
   obtain⟨M,_⟩:=(G.memL_iff S).1 hx;have w:=S.vec x M;have O:T P d x:=by rw[<-f1];exact dep_T w
   have F:x≠[]:=λe=>by rw[e] at f2;cases f2
   have B:Red P H (λe=>if e=d then x else r e):=by
    refine⟨⟨S,λe j h => ?_,λy hy e j I Q => ?_⟩,λa b J K ha l => ?_⟩
    ·by_cases i:e=d
     ·subst i;simp only[if_pos] at h ⊢;exact⟨M,O,f2⟩
     ·simp only[if_neg i] at h ⊢;exact A.mem e j h
    ·by_cases i:e=d
     ·simp only[if_pos i];exact F
     ·simp only[if_neg i];exact A.piv y hy e j I Q
    ·by_cases n:a=d
     ·have m:b≠d:=by omega
      simp only[if_pos n,if_neg m] at ha l ⊢;exact f3 b (by omega) K ((g b K).2 l)
     ·by_cases m:b=d
      ·simp only[if_neg n] at ha ⊢
       rw[m];exact A.red a d (by omega) q ha p
      ·simp only[if_neg n,if_neg m] at ha l ⊢
       exact A.red a b J K ha l
   have:=G.red_one B A d q;simpa using this
  ·rintro rfl
   have u:=dep_lead q m2 (by rw[k];decide);exact⟨u,k,λe j v D=>A.red d e j v p ((g e v).1 D)⟩
omit G in
theorem seqOf_app (r:Nat->List Int) (d:Nat):seqOf (d+1) r=seqOf d r++(if r d=[] then [] else [r d]):=by
 unfold seqOf;rw[List.range_succ,List.filterMap_append];congr 1
 by_cases h:r d=[]<;>simp[h]
theorem Grp.seqTo_eq {H:List Int->Prop}(S:Sub P H):seqTo P (memL P (msk P H) (ordP P).toNat) P.orders.length=cseq P H:=by
 obtain⟨r,A,a⟩:=G.cseq_spec S;rw[a]
 have key:∀d,d<=P.orders.length->seqTo P (memL P (msk P H) (ordP P).toNat) d=seqOf d r:=by
  intro d;induction d with
  | zero=>intro _;rfl
  | succ d b=>intro e;rw[seqTo,b (by omega),G.fit_one S A (by omega),seqOf_app]
 exact key _ (Nat.le_refl _)
end
theorem flatten_inj {α:Type}{n:Nat}(e:0<n):∀ {u v:List (List α)},(∀x∈u,x.length=n)->(∀x∈v,x.length=n)->u.flatten=v.flatten->u=v
 | [],[],_,_,_=>rfl
 | [],b :: v,_,hv,h=>by
  have g:=hv b (List.mem_cons_self ..);have:=congrArg List.length h;simp only[List.flatten_nil,List.length_nil,List.flatten_cons,List.length_append] at this;omega
 | a :: u,[],hu,_,h=>by
  have ha:=hu a (List.mem_cons_self ..);have:=congrArg List.length h;simp only[List.flatten_nil,List.length_nil,List.flatten_cons,List.length_append] at this;omega
 | a :: u,b :: v,hu,hv,h=>by
  have ha:=hu a (List.mem_cons_self ..);have g:=hv b (List.mem_cons_self ..);rw[List.flatten_cons,List.flatten_cons] at h;obtain⟨h1,i⟩:=List.append_inj h (by omega);rw[h1,flatten_inj e (λx hx=>hu x (List.mem_cons_of_mem _ hx)) (λx hx=>hv x (List.mem_cons_of_mem _ hx)) i]
theorem subLt_total {P:Pr}(G:Grp P) {u v:List (List Int)}(b:SubB P u) (e:SubB P v) (a:u≠v) (g:¬subLt P u v):subLt P v u:=by
 unfold subLt at *;by_cases h1:prodU P u u.length=prodU P v v.length
 ·refine .inr ⟨h1.symm,?_⟩
  have k:¬cmpL u.flatten v.flatten<0:=λh=>g (.inr ⟨h1,h⟩)
  have l:cmpL u.flatten v.flatten≠0:=λh=>by
   rw[cmpL_zero] at h;by_cases m:P.orders.length=0
   ·have i:u=[]:=List.eq_nil_of_length_eq_zero (by have:=G.sub_len b;omega)
    have j:v=[]:=List.eq_nil_of_length_eq_zero (by have:=G.sub_len e;omega);exact a (i.trans j.symm)
   ·exact a (flatten_inj (n:=P.orders.length) (by omega) (λx hx=>(b.1 x hx).1) (λx hx=>(e.1 x hx).1) h)
  have:=cmpL_swap u.flatten v.flatten;omega
 ·refine .inl ?_
  have:¬prodU P u u.length<prodU P v v.length:=λh=>g (.inl h);omega
structure Ins (P:Pr) (L:List (List (List Int))) (u:List (List Int)) (k:Nat) (out:List (List (List Int))) (placed:Bool):Prop where
 new:∀j,j<k->gt L j≠u
 no:placed=false->out=L.take k/\∀j,j<k->¬subLt P u (gt L j)
 yes:placed=true->∃p,p<k/\out=L.take p++u :: (L.take k).drop p/\subLt P u (gt L p)/\∀j,j<p->¬subLt P u (gt L j)
theorem ins_end {P:Pr}(G:Grp P) {L:List (List (List Int))}{u:List (List Int)}(D:L.Pairwise (subLt P)) (E:∀v∈L,SubB P v) (F:SubB P u) {out:List (List (List Int))}{placed:Bool}(I:Ins P L u L.length out placed) :
  ∀R,R=(if placed then out else out++[u])->R.Pairwise (subLt P)/\∀v,v∈R↔v∈L\/v=u:=by
 rintro R rfl
 have i:∀v∈L,v≠u:=λv b=>by
  obtain⟨j,k,rfl⟩:=List.getElem_of_mem b;rw[<-gt_eq L j k];exact I.new j k
 cases placed with
 | false=>
  obtain⟨h1,h2⟩:=I.no rfl;rw[List.take_length] at h1;subst h1;rw[if_neg (by decide)];refine⟨List.pairwise_append.2 ⟨D,by simp,λv b w n => ?_⟩,λv=>by rw[List.mem_append,List.mem_singleton]⟩;rw[List.mem_singleton.1 n];obtain⟨j,k,jl⟩:=List.getElem_of_mem b;have g:gt out j=v:=by rw[gt_eq out j k];exact jl
  exact subLt_total G F (E v b) (λe=>i v b e.symm) (by rw[<-g];exact h2 j k)
 | true=>
  obtain⟨p,hp,h1,h2,h3⟩:=I.yes rfl;rw[List.take_length] at h1;rw[if_pos rfl,h1];have q:p<L.length:=hp;have a:L.take p++L.drop p=L:=List.take_append_drop p L;have l:L.drop p=gt L p :: L.drop (p+1):=by rw[List.drop_eq_getElem_cons q,gt_eq L p q]
  have r:=D;rw[<-a] at r;obtain⟨H,z,q3⟩:=List.pairwise_append.1 r
  have A:∀w∈L.drop p,subLt P u w:=λw n=>by
   rw[l] at n z;rcases List.mem_cons.1 n with rfl|m
   ·exact h2
   ·exact subLt_trans h2 ((List.pairwise_cons.1 z).1 w m)
  have B:∀v∈L.take p,subLt P v u:=λv b=>by
   have y:v∈L:=List.mem_of_mem_take b;obtain⟨j,k,jl⟩:=List.getElem_of_mem b;have C:j<p:=by rw[List.length_take] at k;omega
   have g:gt L j=v:=by
    rw[gt_eq L j (by omega),<-jl,List.getElem_take]
   exact subLt_total G F (E v y) (λe=>i v y e.symm) (by rw[<-g];exact h3 j C)
  refine⟨List.pairwise_append.2 ⟨H,List.pairwise_cons.2 ⟨A,z⟩,λv b w n => ?_⟩,λv => ?_⟩
  ·rcases List.mem_cons.1 n with rfl|m
   ·exact B v b
   ·exact q3 v b w m
  ·rw [List.mem_append,List.mem_cons]
   constructor
   ·rintro (h|h|h)
    ·exact .inl (List.mem_of_mem_take h)
    ·exact .inr h
    ·exact .inl (List.mem_of_mem_drop h)
   ·rintro (h|h)
    ·rw [<-a] at h
     exact(List.mem_append.1 h).imp id .inr
    ·exact .inr (.inl h)
end Go.Proofs.YtdcobapnlpeaaaaGreat
namespace Go.Proofs.YtdcobapnlpeaaaaGreat
open Go.RowKit
def tabL (P:Pr):List (List Int):=(List.range (ordP P).toNat).map (λa=>(List.range (ordP P).toNat).map (λb=>(tb P a b:Int)))
theorem tabL_len (P:Pr):(tabL P).length=(ordP P).toNat:=by unfold tabL;simp
theorem tabL_row {P:Pr}{a:Nat}(ha:a<(ordP P).toNat):gt (tabL P) a=(List.range (ordP P).toNat).map (λb=>(tb P a b:Int)):=by
 rw[gt_eq _ _ (by rw[tabL_len];exact ha)];simp[tabL]
theorem tabL_at {P:Pr}{a b:Nat}(ha:a<(ordP P).toNat) (e:b<(ordP P).toNat):gt (gt (tabL P) a) b=(tb P a b:Int):=by
 rw[tabL_row ha,gt_eq _ _ (by simpa using e)];simp
theorem bit_and (m t:Nat) (a:m<2 ^ 64):bits .and .u64 ((m:Int)/2 ^ t) 1=if m.testBit t then 1 else 0:=by
 have e:((m:Int)/2 ^ t)=((m/2 ^ t:Nat):Int):=by rw[Int.natCast_ediv,Int.natCast_pow];rfl
 have b:m/2 ^ t<18446744073709551616:=Nat.lt_of_le_of_lt (Nat.div_le_self _ _) (by simpa using a);have h1:=u64_and_nat (m/2 ^ t) 1 b (by decide);rw[e,show(1:Int)=((1:Nat):Int) from rfl,h1,Nat.and_one_is_mod,Nat.testBit_eq_decide_div_mod_eq];by_cases h:m/2 ^ t%2=1
 ·simp[h]
 ·have:m/2 ^ t%2=0:=by omega
  simp[this]
theorem shl_one (t:Nat) (a:t<64):IntKind.u64.wrap (2 ^ t)=((2 ^ t:Nat):Int):=by
 have h1:(2:Nat) ^ t<2 ^ 64:=Nat.pow_lt_pow_right (by decide) a;have e:((2:Int) ^ t)=((2 ^ t:Nat):Int):=by rw[Int.natCast_pow];rfl
 rw[e];obtain⟨q,b⟩:∃q,q=2 ^ t:=⟨_,rfl⟩;rw[<-b] at h1 ⊢;exact IntWalk.u64_in _ ⟨by omega,by omega⟩
theorem or_pow (n t:Nat) (a:n<2 ^ 64) (b:t<64):bits .or .u64 (n:Int) ((2 ^ t:Nat):Int)=((n ||| 2 ^ t:Nat):Int):=by
 have h1:(2:Nat) ^ t<2 ^ 64:=Nat.pow_lt_pow_right (by decide) b;exact u64_or_nat n (2 ^ t) (by simpa using a) (by simpa using h1)
theorem rowB_lt {P:Pr}(G:Grp P) {H:List Int->Prop}{x m N a n b q:Nat}(hB:Btw P H x m) (k:N=(ordP P).toNat) (v:b<=N) (l:n=outA P N m a) (p:q=rowB P m a n b) (ha:a<N:=by omega):q<2 ^ N:=by
 subst k
 have e:∀t,n.testBit t=true->t<(ordP P).toNat:=λt g=>by
  rw[l,outA_bit] at g;rcases g with h|⟨a',j,h1,r,_,_,u⟩
  ·rcases Nat.lt_or_ge t (ordP P).toNat with i|i
   ·exact i
   ·rw[hB.high t i] at h;cases h
  ·rw[<-u];exact(G.tb_lt (by omega) r).1
 apply Nat.lt_pow_two_of_testBit;intro t g;rw[Bool.eq_false_iff];intro h;rw[p,rowB_bit] at h;rcases h with h|⟨j,h1,_,h3⟩
 ·have:=e t h;omega
 ·have:=(G.tb_lt (a:=a) (b:=j) ha (by omega)).1;omega
theorem extendMask_ok (P:Pr) (G:Grp P) (w:World) (tv:Value) (S:Nat->Prop) (H:List Int->Prop) (SH:Sub P H) (x:Nat) (hx:x<(ordP P).toNat) (al:ordP P<=32) (ht:Rows2 S w tv (tabL P)) :
  Calls Tryz.prog 259 #[tv,.int .u64 (msk P H:Nat),.int .i64 x] w (Ret w λ_ v=>v=.int .u64 (msk P (extP P H (elAt P x)):Nat)):=by
 obtain⟨gL,Y,rfl,_,_⟩:=Sl.shape ht;have Z:=G.v.ordP_pos;obtain⟨N,hN⟩:∃N,N=(ordP P).toNat:=⟨_,rfl⟩;have ab:N<=32:=by omega
 have aJ:x<N:=by omega
 have g:(tabL P).length=N:=by rw[tabL_len,hN]
 have an:Rows2 S w (.slice gL N Y) (tabL P):=by rw[<-g];exact ht
 rw[g];have A:=btw_start (H:=H) hx;obtain⟨X,I⟩:∃X,X=msk P H:=⟨_,rfl⟩;have D:X<2 ^ 64:=by rw[I];exact Nat.lt_of_lt_of_le (msk_lt P H) (Nat.pow_le_pow_right (by decide) (by omega))
 rw[<-I] at A ⊢;obtain⟨p,J⟩:∃p,p=2 ^ x:=⟨_,rfl⟩;have j:IntKind.u64.wrap (2 ^ x)=(p:Int):=by rw[shl_one x (by omega),J]
 obtain⟨m1,K⟩:∃m1,m1=X ||| 2 ^ x:=⟨_,rfl⟩;have L:bits .or .u64 (X:Int) (p:Int)=(m1:Int):=by rw[J,or_pow X x D (by omega),K]
 rw[<-K] at A;have k:=Lib.hid (And.intro A (And.intro hN g));clear A I J K D hN g ht Z al;go_enter Tryz.func259,Tryz.ntmps259;go_wp2;clear j L;go_loopw [1] (λmv wr=>∃m:Nat,mv=.int .u64 m/\wr=w/\Hid (Btw P H x m)) (λmv _=>(4294967296-intOf mv).toNat)
 case atStart=>exact⟨m1,rfl,rfl,Lib.hid k.out.1⟩
 case round=>
  obtain⟨m,rfl,rfl,hB⟩:=hrel;have M:m<2 ^ N:=by rw[k.out.2.1];exact btw_lt hB.out
  have l:(2:Nat) ^ N<=4294967296:=Nat.pow_le_pow_right (n:=2) (by decide) ab;have aD:m<4294967296:=Nat.lt_of_lt_of_le M l;have HM:=Lib.hid (And.intro M l);clear M l;go_wp2;go_loopw [7,17] (λnv av O=>∃(a n:Nat),nv=.int .u64 n/\av=.int .i64 a/\a<=N/\O=wr/\Hid (n=outA P N m a)) (λ_ av _=>N-(intOf av).toNat)
  case atStart=>exact⟨0,m,rfl,rfl,by omega,rfl,Lib.hid rfl⟩
  case round=>
   obtain⟨a,n,rfl,rfl,ha,hw,y⟩:=hrel;subst hw;by_cases ac:a<N
   ·have aE:(a:Int)<N:=by omega
    have e:=bit_and m a (by omega);cases Q:m.testBit a with
    | false=>
     rw[Q] at e;have e:bits .and .u64 ((m:Int)/2 ^ a) 1=0:=e;have r:n=outA P N m (a+1):=by rw[outA,Q];exact y.out
     have HN:=Lib.hid r;clear r y Q;go_wp2;clear e;go_roundw
     case rel=>exact⟨a+1,n,rfl,by go_num,by omega,trivial,HN⟩
     case measure=>simp[intOf];omega
    | true=>
     rw[Q] at e;have e:bits .and .u64 ((m:Int)/2 ^ a) 1=1:=e;have r:∀q,q=rowB P m a n N->q=outA P N m (a+1):=λq B=>by rw[outA,Q,<-y.out];exact B
     have hN:=Lib.hid y.out;have HN:=Lib.hid r;clear r y Q;obtain⟨ba,oa,a2,ad,hab,_,_,ar,rz⟩:=Rows2.at an a (by rw[k.out.2.2];exact ac);subst hab;have R:a<(ordP P).toNat:=by rw[<-k.out.2.1];exact ac
     have T:(gt (tabL P) a).length=N:=by rw[tabL_row R,k.out.2.1];simp
     rw[T] at ar;have ae:Ints S wr (.slice a2 N ad) (gt (tabL P) a):=by rw[<-T];exact rz
     have aF:N<=(gt (tabL P) a).length:=by omega
     clear T rz;go_wp2;clear e;go_loopw [7,27] (λnv bv O=>∃(b q:Nat),nv=.int .u64 q/\bv=.int .i64 b/\b<=N/\O=wr/\Hid (q=rowB P m a n b)) (λ_ bv _=>N-(intOf bv).toNat)
     case atStart=>exact⟨0,n,rfl,rfl,by omega,rfl,Lib.hid rfl⟩
     case round=>
      obtain⟨b,q,rfl,rfl,Q,hw,B⟩:=hrel;subst hw;by_cases af:b<N
      ·have aw:(b:Int)<N:=by omega
       have e:=bit_and m b (by omega);cases i:m.testBit b with
       | false=>
        rw[i] at e;have e:bits .and .u64 ((m:Int)/2 ^ b) 1=0:=e;have u:q=rowB P m a n (b+1):=by rw[rowB,i];exact B.out
        have HQ:=Lib.hid u;clear u B i;go_wp2;clear e;go_roundw
        case rel=>exact⟨b+1,q,rfl,by go_num,by omega,trivial,HQ⟩
        case measure=>simp[intOf];omega
       | true=>
        rw[i] at e;have e:bits .and .u64 ((m:Int)/2 ^ b) 1=1:=e;have ag:b<(ordP P).toNat:=by rw[<-k.out.2.1];exact af
        obtain⟨bb,ob,U,_,_,V⟩:=Ints.at ae b (by omega);subst U;rw[tabL_at R ag] at V;have W:=(G.tb_lt R ag).1;obtain⟨c,hc⟩:∃c,c=tb P a b:=⟨_,rfl⟩;rw[<-hc] at V W;have aG:c<N:=by rw[k.out.2.1];exact W
        have E:q<2 ^ 64:=Nat.lt_of_lt_of_le (rowB_lt G hB.out k.out.2.1 (by omega) hN.out B.out) (Nat.pow_le_pow_right (by decide) (by omega));obtain⟨p,J⟩:∃p,p=2 ^ c:=⟨_,rfl⟩;have j:IntKind.u64.wrap (2 ^ c)=(p:Int):=by rw[shl_one c (by omega),J]
        obtain⟨q1,hq1⟩:∃q1,q1=q ||| 2 ^ c:=⟨_,rfl⟩;have L:bits .or .u64 (q:Int) (p:Int)=(q1:Int):=by rw[J,or_pow q c E (by omega),hq1]
        have u:q1=rowB P m a n (b+1):=by rw[rowB,i,hq1,B.out,hc];rfl
        have HQ:=Lib.hid u;clear u B i J hq1 E hc W;go_wp2;clear e j L V;go_roundw
        case rel=>exact⟨b+1,q1,rfl,by go_num,by omega,trivial,HQ⟩
        case measure=>simp[intOf];omega
      ·have U:b=N:=by omega
       subst U;have ai:=Lib.hid (HN.out q B.out);clear B;go_wp2;go_roundw
       case rel=>exact⟨a+1,q,rfl,by go_num,by omega,trivial,ai⟩
       case measure=>simp[intOf];omega
   ·have az:a=N:=by omega
    subst az;have aA:m<=n:=by rw[y.out];exact outA_le _ _ _
    have C:Btw P H x n:=by
     have:=G.btw_next SH hx hB.out;rw[<-k.out.2.1] at this;rw[y.out];exact this
    by_cases he:n=m
    ·have F:=G.btw_end SH hx hB.out (by rw[<-k.out.2.1,<-y.out];exact he)
     have HE:=Lib.hid F;clear F C y;subst he;go_wp2;go_ret;exact⟨_,rfl,Ext.refl _,congrArg (λz:Nat=>Value.int .u64 (z:Int)) HE.out⟩
    ·have aj:n<2 ^ a:=by rw[k.out.2.1];exact btw_lt C
     have aI:n<4294967296:=Nat.lt_of_lt_of_le aj HM.out.2;have aM:((n:Int) == (m:Int))=false:=by simp;omega
     have aN:m<n:=by omega
     have aB:=Lib.hid C;clear C y aj aA;go_wp2;go_roundw
     case rel=>exact⟨n,rfl,trivial,aB⟩
     case measure=>simp[intOf];omega
theorem wJ:Tryz.prog.underlying 113=some (.slice 3):=by kernel_rfl
theorem wQ:Tryz.prog.underlying 204=some (.slice 113):=by kernel_rfl
theorem Tryz.wW:(Tryz.prog.info? 3).map (λi=>(i.zero,i.size,i.bytes))=some (some (.int .i64 0),1,8):=by kernel_rfl
theorem Tryz.xd:(Tryz.prog.info? 113).map (λi=>(i.zero,i.size,i.bytes))=some (some (.slice none 0 0),1,24):=by kernel_rfl
theorem xe {E base:Nat}{S:Nat->Prop}{w:World}{v:Value}{l:List Int}(h:OwnV base E w v (l.map (Value.int .i64))) (j:l.length<=9223372036854775807) (b:∀k,v.ownBlock=some k->S k):Ints S w v l:=by
 rcases h.form with⟨rfl,hn⟩|⟨g,cap,rfl,e,_,hg⟩
 ·have:l=[]:=by simpa using hn
  subst this;exact⟨none,0,rfl,⟨by simp,by simp,λ_=>rfl⟩,λi a=>by simp at a⟩
 ·rw [List.length_map] at h e b ⊢
  refine⟨_,cap,rfl,⟨e,j,λh=>by cases h⟩,λi a=>⟨g,0,.int .i64 (gt l i),rfl,b g rfl,hg,?_,rfl⟩⟩;rw[Nat.zero_add,h.cell i (by simpa using a),gt_map _ _ _ a]
theorem rA {E B:Nat}{w:World}{v:Value}{xs:List (List Int)}(h:SlO (λF w u (x:List Int)=>Ints F w u x) E B w v xs) (e:xs.length<=9223372036854775807):Rows2 (From B) w v xs:=by
 obtain⟨G,H,h1,j,h3,a,cap,hv,e,hc⟩:=h.toD e;refine⟨a,cap,hv,e,λi g => ?_⟩;obtain⟨b,off,u,e1,e2,e3,e4,e5⟩:=hc i g;exact⟨b,off,u,e1,h1 b e2,e3,e4,Ints.sub e5 (λk hk _=>(j i k g hk).1)⟩
theorem xg (P:Pr) (G:Grp P) (w:World) (p:Value) (Sp:Nat->Prop) (hp:PresP Sp w p P) :
  Calls Tryz.prog 258 #[p] w (Ret w λw' v=>Rows2 (From w.heap.size) w' v (tabL P)):=by
 have hP:=G.v;have aB:=hP.n6;have Z:ordP P<=729:=hP.le729;have aa:=hP.ordP_pos;obtain⟨pb,po,rfl⟩:=hp.shape;go_enter Tryz.func258,Tryz.ntmps258;go_wp2_with fail
 refine Calls.mono (allElements_ok P hP w _ Sp hp) ?_;rintro e1 w1 ⟨v1,rfl,hg1,hE⟩;have ac:(allEl P).length=(ordP P).toNat:=by simp[allEl]
 have L:=RowsD.rows (SlO.toD hE (by omega));obtain⟨aE,ad,fQ,_,_⟩:=Sl.shape L;subst fQ;obtain⟨N,hN⟩:∃N,N=(ordP P).toNat:=⟨_,rfl⟩;have n:(allEl P).length=N:=by rw[ac,hN]
 rw[n];have E:Rows2 (From w.heap.size) w1 (.slice aE N ad) (allEl P):=by rw[<-n];exact L
 have aV:N<=729:=by omega
 have ae:∀i,i<N->gt (allEl P) i=elAt P i/\Vec P.orders (elAt P i):=λi hi=>⟨by rw[gt_eq _ _ (by rw[n];exact hi)];simp[allEl],G.elAtV (by omega)⟩;have m:=Lib.hid (And.intro hN (And.intro n ae));clear hN n ae ac hE L Z aa;go_wp2;go_loopw [4,14] (λov iv wr=>∃(i:Nat) (v4:Value),v4=ov/\iv=.int .i64 i/\i<=N/\Ext w1 wr/\SlO (λF w u (x:List Int)=>Ints F w u x) 113 w1.heap.size wr v4 ((tabL P).take i)) (λ_ iv _=>N-(intOf iv).toNat)
 case atStart=>exact⟨0,_,rfl,rfl,by omega,Ext.refl _,SlO.nil _ _ _ _⟩
 case round=>
  obtain⟨i,v4,rfl,rfl,hi,Y,hO⟩:=hrel;by_cases e:i<N
  ·have aQ:(i:Int)<N:=by omega
   obtain⟨bx,ox,a2,cap2,hab,_,_,M,O⟩:=Rows2.at (Rows2.ext E Y) i (by rw[m.out.2.1];exact e);subst hab;obtain⟨af,Q⟩:=m.out.2.2 i e;rw[af] at M O;obtain⟨x,hx⟩:∃x,x=elAt P (i:Int):=⟨_,rfl⟩;rw[<-hx] at M O Q;have HX:=Lib.hid (And.intro hx Q);clear hx Q af;go_wp2;clear M;obtain⟨r,rfl⟩:∃r:World,r=wr:=⟨_,rfl⟩;have ag:=grown_trans hg1 Y;go_loopw [7,20] (λrv jv wr=>∃(j:Nat) (H:Value),H=rv/\jv=.int .i64 j/\j<=N/\Ext r wr/\OwnV r.heap.size 3 wr H (((gt (tabL P) i).take j).map (Value.int .i64))) (λ_ jv _=>N-(intOf jv).toNat)
   case atStart=>exact⟨0,_,rfl,rfl,by omega,Ext.refl _,World.ownsRow_nil _ _ _ _⟩
   case round=>
    obtain⟨j,H,rfl,rfl,hj,z,hR⟩:=hrel;have ai:=grown_trans ag z;have aj:=grown_trans Y z;have ak:(gt (tabL P) i).length=N:=by rw[tabL_row (by rw[<-m.out.1];exact e),<-m.out.1];simp
    by_cases l:j<N
    ·have aG:(j:Int)<N:=by omega
     obtain⟨aY,oy,a3,rB,hab,_,_,R,C⟩:=Rows2.at (Rows2.ext E aj) j (by rw[m.out.2.1];exact l);have I:=Ints.ext O z;cases hab
     obtain⟨al,A⟩:=m.out.2.2 j l;rw[al] at R C;obtain⟨y,hy⟩:∃y,y=elAt P (j:Int):=⟨_,rfl⟩;rw[<-hy] at R C A;have am:=G.tv_eq HX.out.2 A;have D:=G.mulV HX.out.2 A;have an:(rMul P x y).length<=6:=by rw[D.1];exact aB
     have aH:=num_bd hP D;obtain⟨q,hq⟩:∃q,q=num P (rMul P x y):=⟨_,rfl⟩
     have a:(gt (tabL P) i).take (j+1)=(gt (tabL P) i).take j++[q]:=by
      rw[take_succ_gt _ j (by omega),tabL_at (by rw[<-m.out.1];exact e) (by rw[<-m.out.1];exact l),hq,HX.out.1,hy];congr 2
      unfold tb;have:=num_bd hP (G.mulV (G.elAtV (t:=i) (by rw[<-m.out.1];exact e)) (G.elAtV (t:=j) (by rw[<-m.out.1];exact l)));omega
     have g:(((gt (tabL P) i).take j).map (Value.int .i64)).length<=1000000:=by rw[List.length_map,List.length_take];omega
     have S:=Lib.hid (And.intro A (And.intro am (And.intro D (And.intro an (And.intro hq (And.intro a g))))));clear A am D an aH hq a g hy al ak;go_wp2_with fail
     clear R;refine Calls.mono (multiply_ok P hP wr _ _ _ x y Sp Any Any (hp.ext ai) (Ints.sub I (λ_ _ _=>trivial)) (Ints.sub C (λ_ _ _=>trivial)) HX.out.2 S.out.1) ?_;rintro eA wA ⟨vA,rfl,T,U⟩;rw[S.out.2.1] at U;have ao:=U.ints (by have:=S.out.2.2.2.1;omega);go_wp2_with fail
     refine Calls.mono (numberOf_ok P hP wA _ _ _ _ _ (hp.ext (grown_trans ai T)) ao S.out.2.2.1) ?_;rintro eB wB ⟨rfl,rfl⟩;rw[<-S.out.2.2.2.2.1];have J:=grown_trans z T;have V:OwnV r.heap.size 3 wA H (((gt (tabL P) i).take j).map (Value.int .i64)):=hR.kept T (by cases hv:H.ownBlock<;>simp);go_wp2_with (first|(at_builtin;refine wp_app_v 113 3 (.int .i64 0) 8 wJ Tryz.wW rfl (by decide) rfl _ _ rfl r.heap.size wA H (.int .i64 q) _ rfl V rfl rfl rfl S.out.2.2.2.2.2.2 J.size ?_;intro v8 w8 ap aq)|fail)
     have ar:Ext r w8:=grown_own J aq (λb hb e=>by have:=(V.lt b hb).1;omega);have aL:OwnV r.heap.size 3 w8 v8 (((gt (tabL P) i).take (j+1)).map (Value.int .i64)):=by rw[S.out.2.2.2.2.2.1,List.map_append];exact ap
     clear hR V ap aq U ao C I;go_roundw
     case rel=>exact⟨j+1,v8,rfl,by go_num,by omega,ar,aL⟩
     case measure=>simp[intOf];omega
    ·have aM:j=N:=by omega
     subst aM;have W:OwnV r.heap.size 3 wr H ((gt (tabL P) i).map (Value.int .i64)):=by rw[List.take_of_length_le (by omega)] at hR;exact hR
     have B:Ints (From r.heap.size) wr H (gt (tabL P) i):=xe W (by omega) (λk hk=>(W.lt k hk).1);obtain⟨a7,c7,lI,_,_⟩:=B.shape;subst lI;have a:(tabL P).take (i+1)=(tabL P).take i++[gt (tabL P) i]:=take_succ_gt _ i (by rw[tabL_len,<-m.out.1];exact e);have g:((tabL P).take i).length<=1000000:=by rw[List.length_take];omega
     have HZ:=Lib.hid (And.intro a g);clear a g ak hR;go_wp2_with (first|(at_builtin;refine wp_app_one rdInts 204 113 (.slice none 0 0) 24 wQ Tryz.xd rfl (by decide) rfl _ _ rfl w1.heap.size r wr v4 _ ((tabL P).take i) (gt (tabL P) i) rfl hO z B rfl rfl HZ.out.2 Y.size ?_;intro v5 w5 au av aw)|fail)
     have ax:Ext w1 w5:=grown_own Y av (λb hb e=>by have:=(hO.lt b hb).1;omega);rw[<-HZ.out.1] at au;clear hO B av aw W;go_roundw
     case rel=>exact⟨i+1,v5,rfl,by go_num,by omega,ax,au⟩
     case measure=>simp[intOf];omega
  ·have aN:i=N:=by omega
   subst aN
   have K:SlO (λF w u (x:List Int)=>Ints F w u x) 113 w.heap.size wr v4 (tabL P):=by
    rw[List.take_of_length_le (by rw[tabL_len,<-m.out.1];exact Nat.le_refl _)] at hO;exact hO.weak hg1.size
   have X:Rows2 (From w.heap.size) wr v4 (tabL P):=rA K (by rw[tabL_len,<-m.out.1];omega);clear hO K;go_wp2;go_ret;exact⟨_,rfl,grown_trans hg1 Y,X⟩
structure Fnd (P:Pr) (M:List Nat) (i x:Nat):Prop where
 nd:M.Nodup
 sub:∀m∈M,∃H,Sub P H/\m=msk P H
 one:msk P (λx=>x=zeros P.orders.length)∈M
 done:∀j,j<i->j<M.length->∀t,t<(ordP P).toNat->∀H,Sub P H->gt M j=msk P H->¬H (elAt P t)->msk P (extP P H (elAt P t))∈M
 part:i<M.length->∀t,t<x->t<(ordP P).toNat->∀H,Sub P H->gt M i=msk P H->¬H (elAt P t)->msk P (extP P H (elAt P t))∈M
noncomputable def mskU (P:Pr) (u:List (List Int)):Nat:=msk P (genP P (λx=>x∈u))
section
variable {P:Pr}(G:Grp P)
include G
theorem Grp.fnd_start:Fnd P [msk P (λx=>x=zeros P.orders.length)] 0 0:=
 ⟨by simp,λm a=>⟨_,G.sub_one,by simpa using a⟩,by simp,λj b=>by omega,λ_ t e=>by omega⟩
theorem Grp.msk_one:(msk P (λx=>x=zeros P.orders.length))=1:=by
 have hP:=G.v;have a:=hP.ordP_pos;refine(msk_eq (λt b => ?_) (λt b => ?_)).symm
 ·rw [show(1:Nat)=2 ^ 0 by rfl,bit_pow]
  simp only[decide_eq_true_iff];constructor
  ·rintro rfl
   have h1:=elAt_num hP G.oneV;rw[num_zeros hP] at h1;exact h1
  ·intro h
   have h1:=num_elAt hP (t:Int) (by omega) (by omega);rw[h,num_zeros hP] at h1;omega
 ·rw [show(1:Nat)=2 ^ 0 by rfl,bit_pow]
  simp only[decide_eq_false_iff_not];omega
omit G in
theorem Fnd.skip {M:List Nat}{i x:Nat}(F:Fnd P M i x) (h:∀H,Sub P H->gt M i=msk P H->x<(ordP P).toNat->H (elAt P x)):Fnd P M i (x+1):=
 ⟨F.nd,F.sub,F.one,F.done,λg t j a H S e b=>by
  by_cases hx:t<x
  ·exact F.part g t hx a H S e b
  ·obtain rfl:t=x:=by omega
   exact absurd (h H S e a) b⟩
omit G in
theorem fnd_bit {M:List Nat}{i x:Nat}(F:Fnd P M i x) (hx:x<(ordP P).toNat) (h:(gt M i).testBit x=true):Fnd P M i (x+1):=
 F.skip λH _ e _=>by rw[e,msk_bit hx] at h;exact h
theorem Grp.fnd_known {M:List Nat}{i x:Nat}(F:Fnd P M i x) {H:List Int->Prop}(S:Sub P H) (e:gt M i=msk P H) (hk:msk P (extP P H (elAt P x))∈M):Fnd P M i (x+1):=
 ⟨F.nd,F.sub,F.one,F.done,λb t j a K R e' g=>by
  by_cases hx:t<x
  ·exact F.part b t hx a K R e' g
  ·obtain rfl:t=x:=by omega
   rw[<-G.msk_inj S R (e.symm.trans e')];exact hk⟩
theorem Grp.fnd_new {M:List Nat}{i x:Nat}(F:Fnd P M i x) (l:i<M.length) {H:List Int->Prop}(S:Sub P H) (e:gt M i=msk P H) (hx:x<(ordP P).toNat) (hk:¬msk P (extP P H (elAt P x))∈M) :
  Fnd P (M++[msk P (extP P H (elAt P x))]) i (x+1):=by
 have q:=G.ext_sub S (G.elAtV hx);refine⟨?_,?_,List.mem_append_left _ F.one,?_,?_⟩
 ·rw [List.nodup_append]
  refine⟨F.nd,by simp,λa ha b n => ?_⟩;simp only[List.mem_singleton] at n;rintro rfl;rw[n] at ha;exact hk ha
 ·intro m r
  rcases List.mem_append.1 r with h|h
  ·exact F.sub m h
  ·exact⟨_,q,by simpa using h⟩
 ·intro j u v t p K R e' g
  rw[gt_append_left _ _ _ (by omega)] at e';exact List.mem_append_left _ (F.done j u (by omega) t p K R e' g)
 ·intro _ t p k K R e' g
  rw[gt_append_left _ _ _ l] at e';by_cases hx:t<x
  ·exact List.mem_append_left _ (F.part l t hx k K R e' g)
  ·obtain rfl:t=x:=by omega
   rw[<-G.msk_inj S R (e.symm.trans e')];exact List.mem_append_right _ (by simp)
omit G in
theorem Fnd.next {M:List Nat}{i x:Nat}(F:Fnd P M i x) (hx:(ordP P).toNat<=x):Fnd P M (i+1) 0:=
 ⟨F.nd,F.sub,F.one,λj l a t b K R e k=>by
  by_cases g:j<i
  ·exact F.done j g a t b K R e k
  ·obtain rfl:j=i:=by omega
   exact F.part a t (by omega) b K R e k,λ_ t b=>by omega⟩
theorem Grp.fnd_end {M:List Nat}{i:Nat}(F:Fnd P M i 0) (l:M.length<=i) {H:List Int->Prop}(S:Sub P H):msk P H∈M:=by
 refine G.all_masks F.one (λK R a t b g => ?_) S;obtain⟨j,k,e⟩:=mem_gt a;exact F.done j (by omega) k t b K R e g
theorem Grp.fnd_len (a:ordP P<=32) {M:List Nat}{i x:Nat}(F:Fnd P M i x):M.length<=17408:=G.few_subs a F.nd F.sub
theorem Grp.fnd_list {M:List Nat}{i:Nat}(F:Fnd P M i 0) (k:M.length<=i) :
  (M.map (λm=>cseq P (ofMask P m))).Nodup/\∀u,u∈M.map (λm=>cseq P (ofMask P m))↔SubB P u:=by
 constructor
 ·refine List.nodup_iff_pairwise_ne.2 ?_
  rw[List.pairwise_map];refine(List.nodup_iff_pairwise_ne.1 F.nd).imp_of_mem (λ{a b} ha l g j=>g ?_);obtain⟨H,S,rfl⟩:=F.sub a ha;obtain⟨K,R,rfl⟩:=F.sub b l;rw[G.ofMask_msk S,G.ofMask_msk R] at j;have:H=K:=by rw[<-G.genP_cseq S,<-G.genP_cseq R,j]
  rw[this]
 ·intro u
  constructor
  ·intro e
   obtain⟨m,hm,rfl⟩:=List.mem_map.1 e;obtain⟨H,S,rfl⟩:=F.sub m hm;rw[G.ofMask_msk S];exact G.subB_cseq S
  ·intro e
   have S:=G.subB e;exact List.mem_map.2 ⟨_,G.fnd_end F k S,by rw[G.ofMask_msk S];exact e.2.symm⟩
theorem Grp.mskU_cseq {H:List Int->Prop}(S:Sub P H):mskU P (cseq P H)=msk P H:=by unfold mskU;rw[G.genP_cseq S]
end
def dy (q:List Nat):List Int:=q.map (λt:Nat=>(t:Int))
theorem fE (q:List Nat):(dy q).length=q.length:=by unfold dy;rw[List.length_map]
theorem jJ {q:List Nat}{k:Nat}(h:k<q.length):gt (dy q) k=((gt q k:Nat):Int):=by unfold dy;exact gt_map _ _ _ h
theorem j0 (q:List Nat) (y:Nat):dy (q++[y])=dy q++[(y:Int)]:=by unfold dy;rw[List.map_append];rfl
theorem mQ (m t:Nat):((m:Int)/2 ^ t).tmod 2=if m.testBit t then 1 else 0:=by
 have e:((m:Int)/2 ^ t)=((m/2 ^ t:Nat):Int):=by rw[Int.natCast_ediv,Int.natCast_pow];rfl
 rw[e,Nat.testBit_eq_decide_div_mod_eq,Int.tmod_eq_emod_of_nonneg (Int.natCast_nonneg _)];by_cases h:m/2 ^ t%2=1
 ·simp[h];omega
 ·have:m/2 ^ t%2=0:=by omega
  simp[this];omega
theorem oJ (t:Nat) (a:t<32):IntKind.i64.wrap (2 ^ t)=((2 ^ t:Nat):Int):=by
 have h1:(2:Nat) ^ t<2 ^ 32:=Nat.pow_lt_pow_right (by decide) a;have e:((2:Int) ^ t)=((2 ^ t:Nat):Int):=by rw[Int.natCast_pow];rfl
 rw[e];obtain⟨q,b⟩:∃q,q=2 ^ t:=⟨_,rfl⟩;rw[<-b] at h1 ⊢;exact IntWalk.i64_in _ ⟨by omega,by omega⟩
theorem xh (P:Pr) (G:Grp P) (w:World) (tv gv:Value) (gs:List Nat) (S Sg:Nat->Prop) (aQ:ordP P<=32) (ht:Rows2 S w tv (tabL P)) (Z:Ints Sg w gv (dy gs)) (hg:∀g∈gs,g<(ordP P).toNat) (aR:gs.length<=100000) :
  Calls Tryz.prog 303 #[tv,gv] w (Ret w λ_ v=>v=.int .i64 ((msk P (genN P gs):Nat):Int)):=by
 obtain⟨gL,an,rfl,_,_⟩:=Sl.shape ht;obtain⟨ag,ao,rfl,_,_⟩:=Z.shape;have ap:=G.v.ordP_pos;obtain⟨N,hN⟩:∃N,N=(ordP P).toNat:=⟨_,rfl⟩;have ar:N<=32:=by omega
 have E:(tabL P).length=N:=by rw[tabL_len,hN]
 have F:=fE gs;have aA:Ints Sg w (.slice ag gs.length ao) (dy gs):=by rw[<-F];exact Z
 have aB:Rows2 S w (.slice gL N an) (tabL P):=by rw[<-E];exact ht
 rw[E,F];have hB:=Lib.hid (And.intro hN (And.intro E (And.intro hg F)));clear hN E hg F Z ht ap;go_enter Tryz.func303,Tryz.ntmps303;go_wp2;go_loopw [5,6,7] (λmv qv kv wr=>∃(q:List Nat) (k m:Nat) (v6:Value),mv=.int .i64 (m:Int)/\v6=qv/\kv=.int .i64 k/\k<=q.length/\Ext w wr/\Own w.heap.size wr v6 (dy q)/\Hid (Spn P gs q k 0)/\Hid (Bits m q)) (λ_ _ kv _=>33-(intOf kv).toNat)
 case atStart=>exact⟨[0],0,1,_,rfl,rfl,rfl,by simp,World.grownBy_alloc _ _ _,World.ownsRow_lit w #[.int .i64 0] 1 (Nat.le_refl _) (by decide) rfl,Lib.hid (G.spn_start gs),Lib.hid (λt=>by
  rw[show(1:Nat)=2 ^ 0 by rfl,bit_pow,decide_eq_true_iff];simp;omega)⟩
 case round=>
  obtain⟨q,k,m,v6,rfl,rfl,rfl,hk,u,hO,B,H⟩:=hrel;have O:=B.out.len;rw[<-hB.out.1] at O;have I:=fE q;have C:=hO.ints (by omega);obtain⟨aq,J,K,_,_⟩:=C.shape;rw[I] at K;subst K;by_cases A:k<q.length
  ·have U:(k:Int)<q.length:=by omega
   have aa:=Lib.hid (And.intro B H);go_wp2;go_loopw [5,6,8] (λmv qv iv wr=>∃(q:List Nat) (i m:Nat) (v6:Value),mv=.int .i64 (m:Int)/\v6=qv/\iv=.int .i64 i/\i<=gs.length/\k<q.length/\Ext w wr/\Own w.heap.size wr v6 (dy q)/\Hid (Spn P gs q k i)/\Hid (Bits m q)) (λ_ _ iv _=>gs.length-(intOf iv).toNat)
   case atStart=>exact⟨q,0,m,_,rfl,rfl,rfl,by omega,A,u,hO,aa.out.1,aa.out.2⟩
   case round=>
    clear hO B H aa A U hk u O I C;obtain⟨q,i,m,v6,rfl,rfl,rfl,hi,A,u,hO,B,H⟩:=hrel;have O:=B.out.len;rw[<-hB.out.1] at O;have I:=fE q;have C:=hO.ints (by omega);obtain⟨aq,J,K,_,_⟩:=C.shape;rw[I] at K;subst K;have U:(k:Int)<q.length:=by omega
    by_cases Q:i<gs.length
    ·have aL:(i:Int)<gs.length:=by omega
     obtain⟨bq,oq,mO,_,_,ab⟩:=Ints.at (show Sl IntEl _ wr (.slice aq q.length J) (dy q) by rw[<-I] at C ⊢;exact C) k (by omega);subst mO;rw[jJ A] at ab;obtain⟨bg,og,hbg,_,_,ac⟩:=Ints.at (Ints.ext aA u) i (by rw[fE];exact Q);subst hbg;rw[jJ Q] at ac;have ha:=(B.out.rng _ (gtMem A)).1;have hb:=hB.out.2.2.1 _ (gtMem Q);obtain⟨bt,ot,a2,cap2,hbt,_,_,ad,hrt⟩:=Rows2.at (Rows2.ext aB u) (gt q k) (by rw[hB.out.2.1,hB.out.1];exact ha);subst hbt;have ae:(gt (tabL P) (gt q k)).length=N:=by rw[tabL_row ha,hB.out.1];simp
     obtain⟨br,or',hbr,_,_,L⟩:=Ints.at hrt (gt gs i) (by rw[ae,hB.out.1];exact hb);subst hbr;rw[ae] at ad;rw[tabL_at ha hb] at L;have M:=(G.tb_lt ha hb).1;obtain⟨a,af⟩:∃a,a=gt q k:=⟨_,rfl⟩;obtain⟨b,ah⟩:∃b,b=gt gs i:=⟨_,rfl⟩;rw[<-af] at ab ad L ha M;rw[<-ah] at ac L hb M;obtain⟨y,hy⟩:∃y,y=tb P a b:=⟨_,rfl⟩;rw[<-hy] at L M;have aU:a<N:=by rw[hB.out.1];exact ha
     have aV:b<N:=by rw[hB.out.1];exact hb
     have aW:y<N:=by rw[hB.out.1];exact M
     have aM:(a:Int)<N:=by omega
     have aN:(b:Int)<N:=by omega
     have R:=Lib.hid (And.intro af (And.intro ah hy));clear af ah hy ha hb M ae;go_wp2;go_quiet (fail)
     rename_i nq _;clear ab ac ad L C hrt;have ai:Ext w (wr.drewN nq):=grown_trans u (grown_drewN _ _ _);have aj:Own w.heap.size (wr.drewN nq) (.slice (some ⟨bq,oq,none⟩) q.length J) (dy q):=hO;generalize wr.drewN nq=wq at *;clear hO u
     have aO:m<4294967296:=by
      have h1:m<2 ^ N:=Nat.lt_pow_two_of_testBit _ (λt ht=>by
       rw[Bool.eq_false_iff];intro e;have:=(B.out.rng t ((H.out t).1 e)).1;rw[<-hB.out.1] at this;omega)
      exact Nat.lt_of_lt_of_le h1 (Nat.pow_le_pow_right (n:=2) (by decide) ar)
     have l:=mQ m y;cases r:m.testBit y with
     | true=>
      rw[r] at l;have l:((m:Int)/2 ^ y).tmod 2=1:=l;have D:=Lib.hid (B.out.skip (by rw[<-R.out.1,<-R.out.2.1,<-R.out.2.2];exact(H.out y).1 r));clear B r;go_wp2;clear l;go_roundw
      case rel=>exact⟨q,i+1,m,_,rfl,rfl,by go_num,by omega,A,ai,aj,D,H⟩
      case measure=>simp[intOf];omega
     | false=>
      rw[r] at l;have l:((m:Int)/2 ^ y).tmod 2=0:=l;have ak:¬y∈q:=λh=>by rw[(H.out y).2 h] at r;cases r
      have D:=G.spn_app B.out hB.out.2.2.1 A Q (by rw[<-R.out.1,<-R.out.2.1,<-R.out.2.2];exact ak);rw[<-R.out.1,<-R.out.2.1,<-R.out.2.2] at D;have al:=H.out.app ak;have V:=oJ y (by omega);have W:(2:Nat) ^ y<2 ^ 32:=Nat.pow_lt_pow_right (by decide) (by omega);obtain⟨p,hp⟩:∃p,p=2 ^ y:=⟨_,rfl⟩;rw[<-hp] at V al W
      have au:IntKind.i64.wrap ((m:Int)+(p:Int))=((m+p:Nat):Int):=by
       rw[IntWalk.i64_in _ ⟨by omega,by omega⟩];omega
      have av:(dy q).length<=1000000:=by omega
      have X:=j0 q y;have T:=Lib.hid (And.intro D (And.intro al (And.intro av X)));clear B r ak D al hp W H av X;go_wp2_with (first|(at_builtin;refine wp_app_int rfl _ _ rfl w.heap.size _ (dy q) (y:Int) rfl wq aj rfl rfl T.out.2.2.1 ai.size ?_;intro v5 w5 aE aF;have aw:=grown_own ai aF (λj hj A=>by have:=(aj.lt j hj).1;omega))|fail)
      clear l V au;go_roundw
      case rel=>exact⟨q++[y],i+1,m+p,_,rfl,rfl,by go_num,by omega,by simp;omega,aw,by rw[T.out.2.2.2];exact aE,Lib.hid T.out.1,Lib.hid T.out.2.1⟩
      case measure=>simp[intOf];omega
    ·have aG:i=gs.length:=by omega
     subst aG;have D:=Lib.hid B.out.next;clear B;go_wp2;go_roundw
     case rel=>exact⟨q,k+1,m,_,rfl,rfl,by go_num,by omega,u,hO,D,H⟩
     case measure=>simp[intOf];omega
  ·have ax:k=q.length:=by omega
   have Y:=G.spn_end hB.out.2.2.1 (by rw[<-ax];exact B.out) H.out;have aZ:¬(k:Int)<q.length:=by omega
   have HE:=Lib.hid Y;clear Y B H ax A;go_wp2;go_ret;exact⟨_,rfl,u,congrArg (λz:Nat=>Value.int .i64 (z:Int)) HE.out⟩
theorem l10OneO_ok (o:List Int) (w:World) (vo vp vc:Value) (S:Nat->Prop) (i:Ints S w vo o) (k:o.length<=6) :
  Calls Tryz.prog 212 #[.agg #[vo,vp,vc]] w (Ret w λw' v=>Own w.heap.size w' v (zeros o.length)):=by
 obtain⟨g,a,rfl,_,_⟩:=i.shape;have j:(w.alloc (.cells #[.slice g o.length a,vp,vc] 28)).cell? ⟨w.heap.size,0,none⟩=some (.slice g o.length a):=by rw[World.cell?_alloc_at _ _ _ _ rfl];rfl
 go_enter Tryz.func212,Tryz.ntmps212;go_wp2_with (at_make;refine wp_make_ints rfl _ _ rfl (w.heap.size+1) o.length (w.heap.size+1) (by simp) _ rfl rfl rfl (by omega) (by simp) ?_;intro l b e _)
 go_ret;exact⟨_,rfl,grown_trans (World.grownBy_alloc _ _ _) e,b.weak (by omega)⟩
theorem l10AtO_ok (o:List Int) (hP:Valid (shapeP o)) (w:World) (vo vp vc:Value) (m:Int) (S:Nat->Prop) (B:Ints S w vo o) (hm:0<=m) (ab:m<=1000000000) :
  Calls Tryz.prog 107 #[.agg #[vo,vp,vc],.int .i64 m] w (Ret w λw' v=>Own w.heap.size w' v (elAt (shapeP o) m)):=by
 have K:o.length<=6:=hP.n6;have b:∀i,i<o.length->2<=gt o i/\gt o i<=7:=λi J=>hP.ord7 i J;have hinv:∀k,k<=o.length->(elTo o o.length m k).1.length=o.length/\0<=(elTo o o.length m k).2/\(elTo o o.length m k).2<=m:=λk hk=>⟨elTo_len _ _ _ _,(elTo_inv hP m hm k hk).2⟩;have U:=Lib.hid (And.intro b hinv);clear b hinv hP;obtain⟨u,a,rfl,_,_⟩:=B.shape;have C:Ext w (w.alloc (.cells #[.slice u o.length a,vp,vc] 28)):=World.grownBy_alloc _ _ _;have q:(w.alloc (.cells #[.slice u o.length a,vp,vc] 28)).cell? ⟨w.heap.size,0,none⟩=some (.slice u o.length a):=by rw[World.cell?_alloc_at _ _ _ _ rfl];rfl
 have D:(w.alloc (.cells #[.slice u o.length a,vp,vc] 28)).cell? ⟨w.heap.size,1,none⟩=some vp:=by rw[World.cell?_alloc_at _ _ _ _ rfl];rfl
 have E:(w.alloc (.cells #[.slice u o.length a,vp,vc] 28)).cell? ⟨w.heap.size,2,none⟩=some vc:=by rw[World.cell?_alloc_at _ _ _ _ rfl];rfl
 have F:=B.ext C;have G:(w.alloc (.cells #[.slice u o.length a,vp,vc] 28)).heap.size=w.heap.size+1:=by simp
 go_enter Tryz.func107,Tryz.ntmps107;go_wp2_with fail
 have HS:=Lib.hid G;clear G;clear D E;have H:=Lib.hid q;clear q;generalize N:w.alloc (.cells #[.slice u o.length a,vp,vc] 28)=w0 at *;clear N;refine Calls.mono (l10OneO_ok o w0 _ _ _ S F K) ?_;rintro e1 w1 ⟨r,rfl,hg1,e⟩;have y:=e.ints (by simp[zeros];omega);obtain⟨O,l,rfl,_,_⟩:=y.shape;have p:(zeros o.length).length=o.length:=by simp[zeros]
 rw[p] at y;have e:Own w0.heap.size w1 (.slice O o.length l) (zeros o.length):=by rw[p] at e;exact e
 simp only[p];clear p y;go_wp2
 go_loopw [1,6] (λmv i wr=>∃k:Nat,i=.int .i64 ((o.length:Int)-1-k)/\mv=.int .i64 (elTo o o.length m k).2/\k<=o.length/\Ext w0 wr /\
   Own w0.heap.size wr (.slice O o.length l) (elTo o o.length m k).1) (λ_ i _=>(intOf i+1).toNat)
 case atStart=>exact⟨0,by simp,rfl,by omega,hg1,e⟩
 case round=>
  clear e;obtain⟨k,rfl,rfl,hk,hg,hO⟩:=hrel;obtain⟨P,hm0,hm1⟩:=U.out.2 k hk;by_cases Q:k<o.length
  ·obtain ⟨g,capg,z,hgb,hgs⟩:=hO.form (by omega)
   rw[P] at z;obtain⟨rfl,_⟩:O=some ⟨g,0,none⟩/\l=capg:=by cases z;exact⟨rfl,rfl⟩
   clear z;obtain⟨b2,off2,rfl,_,_,gY⟩:=Ints.at F (o.length-1-k) (by omega);have ae:=hg.cell H.out (by simp);have af:=hg.cell gY (by simp);have b:=U.out.1 (o.length-1-k) (by omega);have hc:=hO.cell (o.length-1-k) (by omega);have hf:=hO.frozen (o.length-1-k);have n:elTo o o.length m (k+1)=((elTo o o.length m k).1.set (o.length-1-k) ((elTo o o.length m k).2%gt o (o.length-1-k)),(elTo o o.length m k).2/gt o (o.length-1-k)):=rfl;have I:=Lib.hid n;clear n;obtain⟨R,hg2⟩:=hO.store (o.length-1-k) ((elTo o o.length m k).2%gt o (o.length-1-k));have A:Ext w0 (wr.setCell ⟨g,o.length-1-k,none⟩ (.int .i64 ((elTo o o.length m k).2%gt o (o.length-1-k)))):=grown_own hg hg2 (λj hj Q=>by cases hj;omega);have V:=A.cell H.out (by simp);have W:=A.cell gY (by simp);clear gY P;have X:((o.length:Int)-1-k).toNat=o.length-1-k:=by omega
   generalize J:o.length-1-k=i at *;generalize (elTo o o.length m k).1=L at *;generalize (elTo o o.length m k).2=M at *;have Y:2<=gt o i:=b.1;have Z:gt o i<=7:=b.2;have HI:=Lib.hid J;clear J b;go_wp2;go_roundw
   case rel=>exact⟨k+1,by congr 1;omega,by rw[I.out],by omega,A,by rw[I.out];exact R⟩
   case measure=>simp[intOf];omega
  ·have T:k=o.length:=by omega
   subst T;clear P;go_wp2;go_ret;exact⟨_,rfl,grown_trans C hg,hO.weak (by have:=HS.out;omega)⟩
theorem l12Orders_ok (P:Pr) (hP:Valid P) (w:World) (pv O:Value) (U:List (List Int)) (Z Su:Nat->Prop) (E:PresV Z w pv P) (F:Rows2 Su w O U) (Q:SeqOk P U) (hl:U.length<=100) :
  Calls Tryz.prog 298 #[pv,O] w (Ret w λw' v=>Own w.heap.size w' v (ordsU P U)):=by
 have ab:=hP.n6;obtain⟨vo,vp,vc,rfl,h3⟩:=E;have k:=PresP.box h3 28;have l:Ext w (w.alloc (.cells #[vo,vp,vc] 28)):=World.grownBy_alloc _ _ _;have G:=Rows2.ext F l;obtain⟨ao,capo,fo,hoi⟩:=k.ordAt;obtain⟨au,capu,rfl,_,_⟩:=Sl.shape F;have m:(w.alloc (.cells #[vo,vp,vc] 28)).heap.size=w.heap.size+1:=by simp
 have n:=ordsU_len P U;have B:=Lib.hid (And.intro Q n);clear Q n k F;go_enter Tryz.func298,Tryz.ntmps298;go_wp2;have R:=Lib.hid m;clear m;generalize H:w.alloc (.cells #[vo,vp,vc] 28)=w0 at *;clear H;go_loopw [5,6] (λov I wr=>∃(i:Nat) (v4:Value),v4=ov/\I=.int .i64 i/\i<=U.length/\Ext w0 wr/\Own w0.heap.size wr v4 ((ordsU P U).take i)) (λ_ I _=>U.length-(intOf I).toNat)
 case atStart=>exact⟨0,_,rfl,rfl,by omega,World.grownBy_alloc _ _ _,by rw[<-R.out];exact World.ownsRow_lit w0 #[] 0 (Nat.le_refl _) (by decide) rfl⟩
 case round=>
  obtain⟨i,v4,rfl,rfl,hi,S,hO⟩:=hrel;by_cases a:i<U.length
  ·have T:(i:Int)<U.length:=by omega
   obtain⟨b,off,a2,p,rfl,_,_,J,V⟩:=Rows2.at G i a;have e:(ordsU P U).take (i+1)=(ordsU P U).take i++[gt P.orders (dep (gt U i))]:=by rw[take_succ_gt _ i (by rw[B.out.2];exact a),ordsU_at P U i a]
   obtain⟨z,C⟩:∃z,z=gt U i:=⟨_,rfl⟩;rw[<-C] at J V e;obtain⟨d,D⟩:∃d,d=dep z:=⟨_,rfl⟩;rw[<-D] at e;have K:d<P.orders.length:=by rw[D,C];exact(B.out.1.1 _ (gtMem a)).2.1
   have q:((ordsU P U).take i).length<=1000000:=by rw[List.length_take];omega
   have W:=Lib.hid (And.intro D (And.intro C q));clear D C q;have X:(d:Int)<P.orders.length:=by omega
   obtain⟨Y,oo,rfl,_,_,hcd⟩:=Ints.at hoi d K;have L:=Lib.hid e;clear e;have e1:∀w',Ext w0 w'->w'.cell? ⟨w.heap.size,0,none⟩=some (.slice (some ⟨Y,oo,none⟩) P.orders.length capo):=λw' h=>h.cell fo (by simp);have e2:∀w',Ext w0 w'->w'.cell? ⟨b,off+i,none⟩=some (.slice a2 z.length p):=λw' h=>h.cell J (by simp);have e3:∀w',Ext w0 w'->w'.cell? ⟨Y,oo+d,none⟩=some (.int .i64 (gt P.orders d)):=λw' h=>h.cell hcd (by simp);clear J hcd;go_wp2
   go_region_held3 (λw'=>Ext w0 w') (first|exact grown_trans S (grown_drew _ _)|assumption|exact grown_trans g (World.grownBy_alloc _ _ _))
    (first
     | (go_at_call 289;refine Calls.mono (Calls.rel2 (w0:=w0) (by assumption) (l12Depth_ok _ z _ Any (Ints.sub (Ints.ext V (by assumption)) (λ_ _ _=>trivial)))) ?_;rintro eE wE ⟨vE,rfl,g,r,gJ,u⟩;rw[<-W.out.1] at u;subst u)
     | (refine step_app_int rfl _ _ rfl w0.heap.size _ ((ordsU P U).take i) (gt P.orders d) rfl wE (hO.ext0 (grown_trans (grown_drew _ _) r)) rfl rfl W.out.2.2 g.size ?_;intro v5 w5 y M;have A:Ext w0 w5:=grown_own g M (λj hj a=>by have:=(hO.lt j hj).1;omega)))
   clear e1 e2 e3;rw[<-L.out] at y;go_wp2;go_roundw
   case rel=>exact⟨i+1,v5,rfl,by go_num,by omega,A,y⟩
   case measure=>simp[intOf];omega
  ·have N:i=U.length:=by omega
   subst N;rw[List.take_of_length_le (by rw[B.out.2];exact Nat.le_refl _)] at hO;obtain⟨az,capz,fM,_,_⟩:=(hO.ints (by rw[B.out.2];omega)).shape;subst fM;go_wp2;go_ret;exact⟨_,rfl,grown_trans l S,hO.weak (by have:=R.out;omega)⟩
theorem l12Product_ok (P:Pr) (G:Grp P) (w:World) (pv V W:Value) (U:List (List Int)) (A:List Int) (Sp Su Sa:Nat->Prop) (J:PresV Sp w pv P) (K:Rows2 Su w V U) (ha:Ints Sa w W A) (X:∀z∈U,Vec P.orders z) (hl:U.length<=A.length)
  (Y:∀i,i<U.length->0<=gt A i/\gt A i<=1000) :
  Calls Tryz.prog 299 #[pv,V,W] w (Ret w λw' v=>Own w.heap.size w' v (prodR P U A U.length)):=by
 have hP:=G.v;have ag:=hP.n6;obtain⟨vo,vp,vc,rfl,h3⟩:=J;have n:=PresP.box h3 28;have b:Ext w (w.alloc (.cells #[vo,vp,vc] 28)):=World.grownBy_alloc _ _ _;have L:=Rows2.ext K b;have M:=ha.ext b;obtain⟨au,capu,rfl,_,_⟩:=Sl.shape K;obtain⟨aa,capa,rfl,_,_⟩:=ha.shape;have p:(w.alloc (.cells #[vo,vp,vc] 28)).heap.size=w.heap.size+1:=by simp
 obtain⟨N,fB,fu,_,_,O,q,u,e⟩:=n.at;simp only[Nat.zero_add] at q u;have Q:=Lib.hid (And.intro X Y);clear X Y n K ha;go_enter Tryz.func299,Tryz.ntmps299;go_wp2_with fail
 have Z:=Lib.hid p;clear p;generalize R:w.alloc (.cells #[vo,vp,vc] 28)=w0 at *;clear R;refine Calls.mono (l10One_ok P hP w0 _ Any ⟨_,_,_,rfl,e⟩) ?_;rintro e1 w1 ⟨r,rfl,hg1,ho1⟩;go_wp2;go_loopw [7,8] (λov S wr=>∃i:Nat,S=.int .i64 i/\i<=U.length/\Ext w0 wr/\Own w.heap.size wr ov (prodR P U A i)) (λ_ S _=>U.length-(intOf S).toNat)
 case atStart=>exact⟨0,rfl,by omega,hg1,ho1.weak (by have:=Z.out;omega)⟩
 case round=>
  clear ho1;obtain⟨i,rfl,hi,a,hO⟩:=hrel;have g:=G.prodR_vec Q.out.1 A i hi;have y:(prodR P U A i).length=P.orders.length:=g.1;have B:=hO.ints (by omega);obtain⟨ay,capy,gM,_,_⟩:=B.shape;subst gM;by_cases j:i<U.length
  ·have ac:(i:Int)<U.length:=by omega
   have ai:(i:Int)<A.length:=by omega
   obtain⟨bb,off,a2,C,rfl,_,_,hc,hr⟩:=Rows2.at (Rows2.ext L a) i j;obtain⟨ba,oa,rfl,_,_,hca⟩:=Ints.at (M.ext a) i (by omega);have k:=Q.out.1 _ (gtMem j);have D:=Q.out.2 i j;have E:prodR P U A (i+1)=rMul P (prodR P U A i) (pwZ P (gt U i) (gt A i)):=rfl;have l:=G.pwZ_vec k (gt A i);have F:(pwZ P (gt U i) (gt A i)).length<=6:=by rw[l.1];omega
   have m:=Lib.hid (And.intro k (And.intro l (And.intro F (And.intro g (And.intro D E)))));clear k l F g D E y;have e1:∀w',Ext wr w'->w'.cell? ⟨w.heap.size,0,none⟩=some N:=λw' h=>(grown_trans a h).cell O (by simp);have e2:∀w',Ext wr w'->w'.cell? ⟨w.heap.size,1,none⟩=some fB:=λw' h=>(grown_trans a h).cell q (by simp);have e3:∀w',Ext wr w'->w'.cell? ⟨w.heap.size,2,none⟩=some fu:=λw' h=>(grown_trans a h).cell u (by simp);have e4:∀w',Ext wr w'->w'.cell? ⟨bb,off+i,none⟩=some (.slice a2 (gt U i).length C):=λw' h=>h.cell hc (by simp);have e5:∀w',Ext wr w'->w'.cell? ⟨ba,oa+i,none⟩=some (.int .i64 (gt A i)):=λw' h=>h.cell hca (by simp);clear hc hca;go_wp2
   go_region_held3 (λw'=>Ext wr w') (first|exact grown_drew _ _|assumption)
    (first
     | (go_at_call 106;refine Calls.mono (Calls.rel (w0:=wr) (by assumption) (l10Pow_ok P G _ _ _ (gt U i) _ Any Any ⟨_,_,_,rfl,Pres3.ext (Pres3.ext e a) (by assumption)⟩ (Ints.sub (Ints.ext hr (by assumption)) (λ_ _ _=>trivial)) m.out.1 (by have:=m.out.2.2.2.2.1;omega))) ?_;rintro eA wA ⟨vA,rfl,eH,fK,jm⟩;have H:=jm.ints (by have:=m.out.2.2.1;omega))
     | (go_at_call 240;refine Calls.mono (Calls.rel (w0:=wr) (by assumption) (l08Mul_ok P hP _ _ _ _ (prodR P U A i) _ Any Any Any ⟨_,_,_,rfl,Pres3.ext (Pres3.ext e a) (by assumption)⟩ (Ints.sub (Ints.ext B (by assumption)) (λ_ _ _=>trivial)) H m.out.2.2.2.1 m.out.2.1)) ?_;rintro eB wB ⟨vB,rfl,hgB,hsB,I⟩))
   clear e1 e2 e3 e4 e5;rw[<-m.out.2.2.2.2.2] at I;go_wp2;go_roundw
   case rel=>exact⟨i+1,by go_num,by omega,grown_trans a hgB,I.weak (by have:=a.size;have:=Z.out;omega)⟩
   case measure=>simp[intOf];omega
  ·have T:i=U.length:=by omega
   subst T;clear y;go_wp2;go_ret;exact⟨_,rfl,grown_trans b a,hO⟩
def markAt (N:Nat) (f:Nat->Nat):Nat->List Bool
 | 0=>List.replicate N false
 | k+1=>(markAt N f k).set (f k) true
theorem markAt_len (N:Nat) (f:Nat->Nat) (k:Nat):(markAt N f k).length=N:=by
 induction k with
 | zero=>simp[markAt]
 | succ k a=>simp only[markAt,List.length_set];exact a
theorem markAt_true (N:Nat) (f:Nat->Nat) (k t:Nat) (a:t<N):gt (markAt N f k) t=true↔∃j,j<k/\f j=t:=by
 induction k with
 | zero=>simp[markAt,gt,a]
 | succ k b=>
  simp only[markAt];by_cases e:f k=t
  ·rw [e,gt_set_eq _ _ _ (by rw[markAt_len];exact a)]
   exact⟨λ_=>⟨k,by omega,e⟩,λ_=>rfl⟩
  ·rw [gt_set_ne _ _ _ _ e,b]
   exact ⟨λ⟨j,h1,h2⟩=>⟨j,by omega,h2⟩,λ⟨j,h1,h2⟩=>by
    rcases Nat.lt_succ_iff_lt_or_eq.1 h1 with h|h
    ·exact⟨j,h,h2⟩
    ·subst h;exact absurd h2 e⟩
def prodN (P:Pr) (U:List (List Int)) (k:Nat):List Int:=prodR P U (elAt (shapeP (ordsU P U)) (k:Int)) U.length
theorem Grp.marks_elems {P:Pr}(G:Grp P) {H:List Int->Prop}(S:Sub P H) (t:Nat) (e:t<(ordP P).toNat) :
  gt (markAt (ordP P).toNat (λk=>(num P (prodN P (cseq P H) k)).toNat) (prodU P (cseq P H) (cseq P H).length).toNat) t=true↔H (elAt P (t:Int)):=by
 have g:=λz i=>S.vec z ((G.seq_facts S).2.1 z i);have a:∀k,Vec P.orders (prodN P (cseq P H) k):=λk=>G.prodR_vec g _ _ (Nat.le_refl _);rw[markAt_true _ _ _ _ e,G.mem_prods S];constructor
 ·rintro ⟨j,hj,h⟩
  have n:=num_bd G.v (a j);refine⟨(j:Int),by omega,by omega,?_⟩;have b:num P (prodN P (cseq P H) j)=(t:Int):=by omega
  rw[<-b,elAt_num G.v (a j)];rfl
 ·rintro ⟨m,h1,b,h3⟩
  refine⟨m.toNat,by omega,?_⟩
  have l:prodN P (cseq P H) m.toNat=elAt P (t:Int):=by
   unfold prodN;rw[show((m.toNat:Nat):Int)=m by omega];exact h3.symm
  rw[l,num_elAt G.v _ (by omega) (by omega)];omega
noncomputable def elemsTo (P:Pr) (H:List Int->Prop) (k:Nat):List (List Int):=by
 classical exact(List.range k).filterMap (λt:Nat=>if H (elAt P (t:Int)) then some (elAt P (t:Int)) else none)
theorem elemsTo_succ (P:Pr) (H:List Int->Prop) (k:Nat):elemsTo P H (k+1)=elemsTo P H k++(by classical exact if H (elAt P (k:Int)) then [elAt P (k:Int)] else []):=by
 unfold elemsTo;rw[List.range_succ,List.filterMap_append];congr 1
 by_cases h:H (elAt P (k:Int))<;>simp[h]
theorem elemsTo_all (P:Pr) (H:List Int->Prop):elemsTo P H (ordP P).toNat=elemsIn P H:=by
 unfold elemsTo elemsIn;rfl
theorem elemsTo_len (P:Pr) (H:List Int->Prop) (k:Nat):(elemsTo P H k).length<=k:=by
 unfold elemsTo;have:=List.length_filterMap_le (λt:Nat=>by classical exact(if H (elAt P (t:Int)) then some (elAt P (t:Int)) else none)) (List.range k);rw[List.length_range] at this;exact this
end Go.Proofs.YtdcobapnlpeaaaaGreat
