/- Merged from templates. -/
import Derived.Test.YtoakmefajbbggaaGreatH8
set_option maxRecDepth 100000
set_option maxHeartbeats 8000000
namespace Go.Proofs.YtoakmefajbbggaaGreat
open Go.RowKit
noncomputable def cjU (P:Pr) (u:List (List Int)) (x:List Int):List (List Int):=cseq P (genP P (λz=>z∈conjL P u x))
abbrev gP (P:Pr) (u:List (List Int)):List Int->Prop:=genP P (λz=>z∈u)
section
variable {P:Pr}(G:Grp P)
include G
theorem Grp.cjU_gen {u:List (List Int)}(a:SubB P u) {x:List Int}(hx:Vec P.orders x):genP P (λz=>z∈conjL P u x)=cjS P (gP P u) x:=by
 have h:=G.genP_conjL (G.subB a) hx;rw[<-a.2] at h;exact h
theorem Grp.cjU_eq {u:List (List Int)}(a:SubB P u) {x:List Int}(hx:Vec P.orders x):cjU P u x=cseq P (cjS P (gP P u) x):=by
 unfold cjU;rw[G.cjU_gen a hx]
theorem Grp.cjU_subB {u:List (List Int)}(a:SubB P u) {x:List Int}(hx:Vec P.orders x):SubB P (cjU P u x):=by
 rw[G.cjU_eq a hx];exact G.subB_cseq (G.cj_sub (G.subB a) hx)
theorem Grp.gP_cjU {u:List (List Int)}(a:SubB P u) {x:List Int}(hx:Vec P.orders x):gP P (cjU P u x)=cjS P (gP P u) x:=by
 rw[G.cjU_eq a hx];exact G.genP_cseq (G.cj_sub (G.subB a) hx)
theorem Grp.cjS_mul {K:List Int->Prop}(S:Sub P K) {g h:List Int}(b:Vec P.orders g) (e:Vec P.orders h):cjS P (cjS P K g) h=cjS P K (rMul P g h):=by
 refine funext λx=>propext ⟨?_,?_⟩
 ·rintro ⟨y,⟨z,a,rfl⟩,rfl⟩
  exact⟨z,a,by rw[G.conj_mul (S.vec z a) b e]⟩
 ·rintro ⟨z,a,rfl⟩
  exact⟨_,⟨z,a,rfl⟩,by rw[G.conj_mul (S.vec z a) b e]⟩
end
open Classical in
noncomputable def cnS (P:Pr) (u:List (List Int)) (S:List (List (List Int))):Nat->List (List (List Int)) × Nat
 | 0=>(S,0)
 | t+1=>if cjU P u (elAt P (t:Int))∈(cnS P u S t).1 then cnS P u S t else ((cnS P u S t).1++[cjU P u (elAt P (t:Int))],(cnS P u S t).2+1)
theorem cnS_no {P:Pr}{u:List (List Int)}{S:List (List (List Int))}{t:Nat}(h:cjU P u (elAt P (t:Int))∈(cnS P u S t).1):cnS P u S (t+1)=cnS P u S t:=by
 rw[cnS,if_pos h]
theorem cnS_yes {P:Pr}{u:List (List Int)}{S:List (List (List Int))}{t:Nat}(h:¬cjU P u (elAt P (t:Int))∈(cnS P u S t).1) :
  cnS P u S (t+1)=((cnS P u S t).1++[cjU P u (elAt P (t:Int))],(cnS P u S t).2+1):=by
 rw[cnS,if_neg h]
theorem cnS_le (P:Pr) (u:List (List Int)) (S:List (List (List Int))):∀t,(cnS P u S t).2<=t
 | 0=>Nat.le_refl _
 | t + 1=>by
  have:=cnS_le P u S t;unfold cnS;split
  ·omega
  ·show (cnS P u S t).2+1<=t+1
   omega
structure SeenC (P:Pr) (S:List (List (List Int))):Prop where
 sub:∀v∈S,SubB P v
 one:S.Nodup
theorem Grp.cnS_seen {P:Pr}(G:Grp P) {u:List (List Int)}(k:SubB P u) {S:List (List (List Int))}(l:SeenC P S):∀t,t<=(ordP P).toNat->SeenC P (cnS P u S t).1
 | 0,_=>l
 | t + 1,ht=>by
  have j:=Grp.cnS_seen G k l t (by omega);by_cases h:cjU P u (elAt P (t:Int))∈(cnS P u S t).1
  ·rw[cnS_no h];exact j
  ·rw [cnS_yes h]
   refine⟨λv i => ?_,?_⟩
   ·rcases List.mem_append.1 i with i|i
    ·exact j.sub v i
    ·rw[List.mem_singleton.1 i];exact G.cjU_subB k (G.elAtV (by omega))
   ·rw [List.nodup_append]
    exact⟨j.one,by simp,λa ha b m e=>h (by rw[List.mem_singleton.1 m] at e;rw[<-e];exact ha)⟩
theorem cnS_mem (P:Pr) (u:List (List Int)) (S:List (List (List Int))):∀t v,v∈(cnS P u S t).1↔v∈S\/∃j,j<t/\v=cjU P u (elAt P (j:Int))
 | 0,v=>by simp[cnS]
 | t + 1,v=>by
  have e:=cnS_mem P u S t;by_cases h:cjU P u (elAt P (t:Int))∈(cnS P u S t).1
  ·rw [cnS_no h,e v]
   constructor
   ·rintro (h1|⟨j,h1,a⟩)
    ·exact .inl h1
    ·exact .inr ⟨j,by omega,a⟩
   ·rintro (h1|⟨j,h1,a⟩)
    ·exact .inl h1
    ·rcases Nat.lt_succ_iff_lt_or_eq.1 h1 with b|b
     ·exact .inr ⟨j,b,a⟩
     ·subst b;rw[a];exact(e _).1 h
  ·rw [cnS_yes h,List.mem_append,e v,List.mem_singleton]
   constructor
   ·rintro ((h1|⟨j,h1,a⟩)|h1)
    ·exact .inl h1
    ·exact .inr ⟨j,by omega,a⟩
    ·exact .inr ⟨t,by omega,h1⟩
   ·rintro (h1|⟨j,h1,a⟩)
    ·exact .inl (.inl h1)
    ·rcases Nat.lt_succ_iff_lt_or_eq.1 h1 with b|b
     ·exact .inl (.inr ⟨j,b,a⟩)
     ·subst b;exact .inr a
section
variable {P:Pr}{G:Grp P}
def toE (G:Grp P) (H:List Int->Prop):El G->Prop:=λx=>H x.1
def ofE (A:El G->Prop) (x:List Int):Prop:=∃h:Vec P.orders x,A ⟨x,h⟩
theorem toE_sg {H:List Int->Prop}(S:Sub P H):SG (toE G H):=⟨S.one,λ_ _ h k=>S.mul _ _ h k,λ_ h=>S.inv _ h⟩
theorem ofE_sub {A:El G->Prop}(S:SG A):Sub P (ofE A):=
 ⟨λ_ h=>h.1,⟨G.oneV,S.one⟩,λ_ _ ⟨hx,ax⟩ ⟨hy,ay⟩=>⟨G.mulV hx hy,S.mul _ _ ax ay⟩,λ_ ⟨hx,ax⟩=>⟨G.invV hx,S.inv _ ax⟩⟩
theorem toE_ofE (A:El G->Prop):toE G (ofE A)=A:=funext λx=>propext ⟨λ⟨_,h⟩=>h,λh=>⟨x.2,h⟩⟩
theorem order_cd {H:List Int->Prop}(S:Sub P H):prodU P (cseq P H) (cseq P H).length=(cd (toE G H):Int):=by
 rw[G.order_elems S]
 have h1:((elsIn (toE G H)).map (λx:El G=>x.1)).Nodup:=by
  refine List.nodup_iff_pairwise_ne.2 ?_;rw[List.pairwise_map];exact(List.nodup_iff_pairwise_ne.1 (elsIn_nodup _)).imp (λ{a b} i e=>i (Subtype.ext e))
 have j:=(List.perm_ext_iff_of_nodup (elemsIn_nodup G.v H) h1).2 (λx=>by
  rw[elemsIn_mem G.v S.vec,List.mem_map];constructor
  ·intro hx
   exact⟨⟨x,S.vec x hx⟩,elsIn_mem.2 hx,rfl⟩
  ·rintro ⟨y,hy,rfl⟩
   exact elsIn_mem.1 hy)
 rw[j.length_eq,List.length_map];rfl
def pvU (G:Grp P) (u:List (List Int)):Nat->Prop:=pv (toE G (gP P u))
theorem ordU (G:Grp P) {u:List (List Int)}(a:SubB P u):prodU P u u.length=(prd P (pvU G u) P.orders.length 0:Nat):=by
 have S:=G.subB a;have h:=order_cd (G:=G) S;rw[cd_eq (toE_sg S)] at h;have e:cseq P (genP P λx=>x∈u)=u:=a.2.symm;rw[e] at h;exact h
noncomputable def prF (P:Pr) (Q:Nat->Prop) (d:Nat):Nat:=prd P Q d 0
theorem prd_app (Q:Nat->Prop):∀f d,prd P Q (f+1) d=prd P Q f d*prd P Q 1 (d+f)
 | 0,d=>by
  show prd P Q 1 d=1*prd P Q 1 (d+0)
  rw[Nat.one_mul];rfl
 | f+1,d=>by
  have a:=prd_app Q f (d+1);rw[prd,a,<-Nat.mul_assoc,show d+1+f=d+(f+1) by omega];conv=>rhs;rw[prd]
open Classical in
theorem prF_succ (Q:Nat->Prop) (d:Nat):prF P Q (d+1)=prF P Q d*(if Q d then (gt P.orders d).toNat else 1):=by
 unfold prF;rw[prd_app,Nat.zero_add,prd,prd,Nat.mul_one]
def hallTo (P:Pr) (pr:List Int):Nat->Int
 | 0=>1
 | k+1=>if gt P.orders k∈pr then hallTo P pr k*gt P.orders k else hallTo P pr k
abbrev hallO (P:Pr) (pr:List Int):Int:=hallTo P pr P.orders.length
theorem hallTo_prF (G:Grp P) (pr:List Int):∀k,k<=P.orders.length->hallTo P pr k=(prF P (λd=>gt P.orders d∈pr) k:Nat)
 | 0,_=>rfl
 | k+1,h=>by
  classical
  have b:=hallTo_prF G pr k (by omega);obtain⟨q,h1,h2,h3⟩:=ordN G (show k<P.orders.length by omega);rw[hallTo,prF_succ,b];by_cases a:gt P.orders k∈pr
  ·rw[if_pos a,if_pos a,Int.natCast_mul,h2,<-h1]
  ·rw[if_neg a,if_neg a,Nat.mul_one]
theorem hallO_eq (G:Grp P) (pr:List Int):hallO P pr=(prd P (λd=>gt P.orders d∈pr) P.orders.length 0:Nat):=hallTo_prF G pr _ (Nat.le_refl _)
theorem prd_dvd_iff (G:Grp P) {Q R:Nat->Prop}(A:∀d,Q d->d<P.orders.length) (B:∀j k,j<P.orders.length->k<P.orders.length->gt P.orders j=gt P.orders k->(R j↔R k)) :
  prd P Q P.orders.length 0∣prd P R P.orders.length 0↔∀d,Q d->R d:=by
 constructor
 ·intro h d z
  refine Classical.byContradiction λC => ?_;have l:=A d z;obtain⟨q,h1,D,h3⟩:=ordN G l
  have E:(gt P.orders d).toNat∣prd P Q P.orders.length 0:=by
   have p:=prd_mul (P:=P) (Q:=λk=>k=d) (R:=λk=>Q k/\k≠d) P.orders.length 0 (λk _ _ e i=>i.2 e)
   have u:prd P (λk=>k=d\/(Q k/\k≠d)) P.orders.length 0=prd P Q P.orders.length 0:=prd_congr _ _ (λk _ _=>⟨λi=>i.elim (λe=>e▸z) (λi=>i.1),λi=>by
    by_cases e:k=d
    ·exact .inl e
    ·exact .inr ⟨i,e⟩⟩)
   rw[<-u,<-p];refine Nat.dvd_mul_right_of_dvd ?_ _
   have key:∀f s,s<=d->d<s+f->prd P (λk=>k=d) f s=(gt P.orders d).toNat:=by
    intro f;induction f with
    | zero=>intro s a b;omega
    | succ f w=>
     intro s a b;rw[prd];by_cases e:s=d
     ·subst e
      rw[if_pos rfl];have F:prd P (λk=>k=s) f (s+1)=prd P (λ_=>False) f (s+1):=prd_congr _ _ (λk _ _=>⟨λe=>by omega,λi=>i.elim⟩)
      have h1:∀f t,prd P (λ_=>False) f t=1:=by
       intro f;induction f with
       | zero=>intro t;rfl
       | succ f w=>intro t;rw[prd,if_neg (λi=>i),w]
      rw[F,h1,Nat.mul_one]
     ·rw [if_neg e,Nat.one_mul]
      exact w (s+1) (by omega) (by omega)
   rw[key _ _ (Nat.zero_le _) (by omega)];exact Nat.dvd_refl _
  have m:Nat.Coprime (gt P.orders d).toNat (prd P R P.orders.length 0):=prd_cop1 G (by rw[D];exact h3) _ _ (Nat.zero_add _) (λk hk y e=>C ((B k d hk l (by
   obtain⟨r,g1,g2,_⟩:=ordN G hk;omega)).1 y))
  exact cop_ndvd (G:=G) l m (Nat.dvd_trans E h)
 ·intro h
  have p:=prd_mul (P:=P) (Q:=Q) (R:=λk=>R k/\¬Q k) P.orders.length 0 (λk _ _ hk i=>i.2 hk)
  have u:prd P (λk=>Q k\/(R k/\¬Q k)) P.orders.length 0=prd P R P.orders.length 0:=prd_congr _ _ (λk _ _=>⟨λi=>i.elim (h k) (λi=>i.1),λi=>by
   by_cases e:Q k
   ·exact .inl e
   ·exact .inr ⟨i,e⟩⟩)
  rw[<-u,<-p];exact Nat.dvd_mul_right _ _
theorem prd_one (G:Grp P) {Q:Nat->Prop} : ∀f d,d+f=P.orders.length->prd P Q f d=1->∀k,d<=k->k<P.orders.length->¬Q k
 | 0,d,hd,_,k,a,b=>by omega
 | f + 1,d,hd,h,k,a,b=>by
  obtain⟨q,h1,h2,h3⟩:=ordN G (show d<P.orders.length by omega);rw[prd] at h;have j:=prd_pos G Q f (d+1) (by omega);by_cases i:Q d
  ·rw [if_pos i,h2] at h
   have:=Nat.mul_le_mul_left q j;omega
  ·rw [if_neg i,Nat.one_mul] at h
   by_cases e:k=d
   ·subst e;exact i
   ·exact prd_one G f (d+1) (by omega) h k (by omega) b
theorem mem_same (pr:List Int) (j k:Nat) (h:gt P.orders j=gt P.orders k):gt P.orders j∈pr↔gt P.orders k∈pr:=by rw[h]
def HallP (P:Pr) (pr:List Int) (u:List (List Int)):Prop:=SubB P u/\prodU P u u.length=hallO P pr
theorem pi_iff (G:Grp P) {u:List (List Int)}(a:SubB P u) (pr:List Int):prodU P u u.length∣hallO P pr↔∀d,pvU G u d->gt P.orders d∈pr:=by
 rw[ordU G a,hallO_eq G,Int.natCast_dvd_natCast];exact prd_dvd_iff G (λd b=>b.1) (λj k _ _ e=>mem_same pr j k e)
theorem hall_iff (G:Grp P) {u:List (List Int)}(i:SubB P u) (pr:List Int):prodU P u u.length=hallO P pr↔∀d,pvU G u d↔(d<P.orders.length/\gt P.orders d∈pr):=by
 constructor
 ·intro h d
  have h1:=(pi_iff G i pr).1 (by rw[h];exact Int.dvd_refl _);refine⟨λb=>⟨b.1,h1 d b⟩,λb=>Classical.byContradiction λl => ?_⟩;rw[ordU G i,hallO_eq G,Int.natCast_inj] at h;have j:=prd_mul (P:=P) (Q:=pvU G u) (R:=λk=>gt P.orders k∈pr/\¬pvU G u k) P.orders.length 0 (λk _ _ hk a=>a.2 hk)
  have m:prd P (λk=>pvU G u k\/(gt P.orders k∈pr/\¬pvU G u k)) P.orders.length 0=prd P (λd=>gt P.orders d∈pr) P.orders.length 0:=prd_congr _ _ (λk _ _=>⟨λa=>a.elim (h1 k) (λa=>a.1),λa=>by
   by_cases e:pvU G u k
   ·exact .inl e
   ·exact .inr ⟨a,e⟩⟩)
  rw[m,<-h] at j;have p:prd P (λk=>gt P.orders k∈pr/\¬pvU G u k) P.orders.length 0=1:=Nat.eq_of_mul_eq_mul_left (prd_pos G (pvU G u) _ _ (Nat.zero_add _)) (by rw[j,Nat.mul_one]);exact prd_one G _ _ (Nat.zero_add _) p d (Nat.zero_le _) b.1 ⟨b.2,l⟩
 ·intro h
  rw[ordU G i,hallO_eq G,Int.natCast_inj];exact prd_congr _ _ (λk _ hk=>(h k).trans ⟨λa=>a.2,λa=>⟨by omega,a⟩⟩)
theorem hall_over (G:Grp P) (pr:List Int) {u:List (List Int)}(D:SubB P u) (i:prodU P u u.length∣hallO P pr):∃A:El G->Prop,SG A/\(∀d,pv A d↔(d<P.orders.length/\gt P.orders d∈pr))/\∀x,toE G (gP P u) x->A x:=by
 obtain⟨A,l,p⟩:=hall_ex G (λq=>q∈pr);have S:=toE_sg (G:=G) (G.subB D);obtain⟨g,hg⟩:=hall_dom (π :=λq=>q∈pr) l S p ((pi_iff G D pr).1 i);refine⟨λx=>A (g⁻¹ * (x*g)),pull_sg l g,λd => ?_,hg⟩;-- a conjugate has the same depths: its order is the same
 have e:cd (λx=>A (g⁻¹ * (x*g)))=cd A:=by
  have h1:((elsIn A).map (λx=>g*(x*g⁻¹))).Nodup:=by
   refine List.nodup_iff_pairwise_ne.2 ?_;rw[List.pairwise_map];refine(List.nodup_iff_pairwise_ne.1 (elsIn_nodup _)).imp (λ{a b} r e=>r ?_);have:=congrArg (λz=>g⁻¹ * (z*g)) e;simpa only[El.ass,El.ilc,El.il,El.or] using this
  rw[cd_list h1 (H:=λx=>A (g⁻¹ * (x*g))) (λx => ?_),List.length_map]
  ·rfl
  ·rw [List.mem_map]
   constructor
   ·rintro ⟨y,hy,rfl⟩
    have E:g⁻¹ * (g*(y*g⁻¹)*g)=y:=by simp only[El.ass,El.ilc,El.il,El.or]
    show A (g⁻¹ * (g*(y*g⁻¹)*g))
    rw[E];exact elsIn_mem.1 hy
   ·intro hx
    exact⟨_,elsIn_mem.2 hx,by simp only[El.ass,El.irc,El.ir,El.or]⟩
 have hex:∀x,A (g⁻¹ * (x*g))->ep x (aP P (λq=>q∈pr))=1:=λx hx=>by
  have h1:=exp_of_pv (π :=λq=>q∈pr) l (λd i=>((p d).1 i).2) hx;rw[ep_conj] at h1;have F:=congrArg (λz=>g*(z*g⁻¹)) h1;simpa only[El.ass,El.irc,El.ir,El.or,El.ol] using F
 have w:∀d,pv (λx=>A (g⁻¹ * (x*g))) d->gt P.orders d∈pr:=λd i=>Classical.byContradiction λI=>
  cop_ndvd (G:=G) i.1 (a_ndvd G (π :=λq=>q∈pr) i.1 I) (pv_of_exp (N:=λx=>x=1) hex i pv_one)
 refine⟨λi=>⟨i.1,w d i⟩,λi => ?_⟩;have j:=(ofE_sub (pull_sg l g));have hB:=G.subB_cseq j
 have B:toE G (gP P (cseq P (ofE (λx=>A (g⁻¹ * (x*g))))))=λx=>A (g⁻¹ * (x*g)):=by
  rw[show gP P (cseq P (ofE (λx=>A (g⁻¹ * (x*g)))))=ofE (λx=>A (g⁻¹ * (x*g))) from G.genP_cseq j,toE_ofE]
 have m:prodU P (cseq P (ofE (λx=>A (g⁻¹ * (x*g))))) (cseq P (ofE (λx=>A (g⁻¹ * (x*g))))).length=hallO P pr:=by
  rw[order_cd (G:=G) j,toE_ofE,e,cd_eq l,hallO_eq G,Int.natCast_inj];exact prd_congr _ _ (λk _ hk=>(p k).trans ⟨λC=>C.2,λC=>⟨by omega,C⟩⟩)
 have:=((hall_iff G hB pr).1 m d).2 i;unfold pvU at this;rwa [B] at this
theorem hall_step (G:Grp P) (pr:List Int) {u:List (List Int)}(b:SubB P u) (i:prodU P u u.length∣hallO P pr) (p:prodU P u u.length≠hallO P pr) :
  ∃ t:Nat,t<(ordP P).toNat/\¬gP P u (elAt P (t:Int))/\prodU P (cseq P (extP P (gP P u) (elAt P (t:Int)))) (cseq P (extP P (gP P u) (elAt P (t:Int)))).length∣hallO P pr /\
   ∀H,Sub P H->H (elAt P (t:Int))->(∀K,Sub P K->K (elAt P (t:Int))->∀x,H x->K x)->∀d,pv (toE G H) d->gt P.orders d∈pr:=by
 obtain⟨A,SA,q,hle⟩:=hall_over G pr b i
 have j:¬ ∀x,A x->toE G (gP P u) x:=λh=>p ((hall_iff G b pr).2 (λd=>by
  have e:A=toE G (gP P u):=funext λx=>propext ⟨h x,hle x⟩;show pv (toE G (gP P u)) d↔_
  rw[<-e];exact q d))
 obtain⟨x,hx⟩:=Classical.not_forall.1 j;obtain⟨r,hxu⟩:=Classical.not_imp.1 hx;obtain⟨h1,D⟩:=G.num_lt x.2;refine⟨(num P x.1).toNat,h1,?_⟩;rw[D];have k:=ofE_sub SA;have a:ofE A x.1:=⟨x.2,r⟩;refine⟨hxu,?_,λH F _ l d i => ?_⟩
 ·have C:Sub P (extP P (gP P u) x.1):=G.genP_sub (λy hy=>hy.elim (λh=>(G.subB b).vec y h) (λh=>h▸x.2))
  have w:=G.subB_cseq C;rw[pi_iff G w];intro d i
  have B:∀y,toE G (gP P (cseq P (extP P (gP P u) x.1))) y->A y:=λy hy=>by
   have e:gP P (cseq P (extP P (gP P u) x.1))=extP P (gP P u) x.1:=G.genP_cseq C;have E:extP P (gP P u) x.1 y.1:=by rw[<-e];exact hy
   obtain⟨_,h5⟩:=genP_le k (λz m=>m.elim (λm=>⟨(G.subB b).vec z m,hle ⟨z,(G.subB b).vec z m⟩ m⟩) (λe=>by rw[e];exact a)) E;exact h5
  exact((q d).1 (pv_mono B i)).2
 ·have B:∀y,toE G H y->A y:=λy hy=>(l _ k a y.1 hy).2
  exact((q d).1 (pv_mono B i)).2
theorem hall_conj (G:Grp P) {pr:List Int}{u v:List (List Int)}(i:HallP P pr u) (j:HallP P pr v):∃x,Vec P.orders x/\v=cjU P u x:=by
 have B:=toE_sg (G:=G) (G.subB i.1);have C:=toE_sg (G:=G) (G.subB j.1);have D:=(hall_iff G i.1 pr).1 i.2;have E:=(hall_iff G j.1 pr).1 j.2;obtain⟨g,hg⟩:=hall_dom (π :=λq=>q∈pr) C B E (λd F=>((D d).1 F).2);refine⟨g.1,g.2,?_⟩
 have p:∀y,cjS P (gP P u) g.1 y->gP P v y:=by
  rintro y ⟨z,k,rfl⟩;exact hg ⟨z,(G.subB i.1).vec z k⟩ k
 have h1:=G.order_le (G.cj_sub (G.subB i.1) g.2) (G.subB j.1) p;have l:cseq P (cjS P (gP P u) g.1)=cjU P u g.1:=(G.cjU_eq i.1 g.2).symm;have r:cseq P (gP P v)=v:=j.1.2.symm;-- equal orders: conjugation keeps the number of elements
 have hB:=G.cjU_subB i.1 g.2
 have I:prodU P (cjU P u g.1) (cjU P u g.1).length=prodU P u u.length:=by
  have w:=order_cd (G:=G) (G.cj_sub (G.subB i.1) g.2);rw[l] at w;have A:=order_cd (G:=G) (G.subB i.1);have J:cseq P (gP P u)=u:=i.1.2.symm;rw[w];rw[show genP P (λz=>z∈u)=gP P u from rfl,J] at A;rw[A]
  have K:((elsIn (toE G (gP P u))).map (λx=>g⁻¹ * (x*g))).Nodup:=by
   refine List.nodup_iff_pairwise_ne.2 ?_;rw[List.pairwise_map];refine(List.nodup_iff_pairwise_ne.1 (elsIn_nodup _)).imp (λ{a b} m e=>m ?_);have:=congrArg (λz=>g*(z*g⁻¹)) e;simpa only[El.ass,El.irc,El.ir,El.or] using this
  rw[cd_list K (H:=toE G (cjS P (gP P u) g.1)) (λx => ?_),List.length_map]
  ·rfl
  ·rw [List.mem_map]
   constructor
   ·rintro ⟨y,hy,rfl⟩
    exact⟨y.1,elsIn_mem.1 hy,rfl⟩
   ·rintro ⟨z,k,e⟩
    exact⟨⟨z,(G.subB i.1).vec z k⟩,elsIn_mem.2 k,Subtype.ext e.symm⟩
 have L:∀x,gP P v x->cjS P (gP P u) g.1 x:=h1.2 (by
  rw[l]
  have:prodU P (cseq P (genP P λx=>x∈v)) (cseq P (genP P λx=>x∈v)).length=prodU P v v.length:=by
   show prodU P (cseq P (gP P v)) (cseq P (gP P v)).length=_
   rw[r]
  rw[this,I,i.2,j.2])
 have e:gP P v=cjS P (gP P u) g.1:=funext λx=>propext ⟨L x,p x⟩;rw[<-r,e,l]
theorem cjU_order (G:Grp P) {u:List (List Int)}(i:SubB P u) {g:List Int}(j:Vec P.orders g):prodU P (cjU P u g) (cjU P u g).length=prodU P u u.length:=by
 have m:=G.order_elems (G.cj_sub (G.subB i) j);have h1:=G.order_elems (G.subB i);have p:cseq P (cjS P (genP P λx=>x∈u) g)=cjU P u g:=(G.cjU_eq i j).symm;have q:cseq P (genP P λx=>x∈u)=u:=i.2.symm;rw[p] at m;rw[q] at h1;rw[m,h1]
 have r:((elemsIn P (genP P λx=>x∈u)).map (λy=>rConj P y g)).Nodup:=by
  refine List.nodup_iff_pairwise_ne.2 ?_;rw[List.pairwise_map];refine(List.nodup_iff_pairwise_ne.1 (elemsIn_nodup G.v _)).imp_of_mem (λ{a b} ha w k e=>k ?_);have A:=(G.subB i).vec a ((elemsIn_mem G.v (G.subB i).vec a).1 ha);have B:=(G.subB i).vec b ((elemsIn_mem G.v (G.subB i).vec b).1 w);rw[<-G.conj_back A j,<-G.conj_back B j,e]
 have C:=(List.perm_ext_iff_of_nodup (elemsIn_nodup G.v (cjS P (genP P λx=>x∈u) g)) r).2 (λx=>by
  rw[elemsIn_mem G.v (G.cj_sub (G.subB i) j).vec,List.mem_map];constructor
  ·rintro ⟨z,l,rfl⟩
   exact⟨z,(elemsIn_mem G.v (G.subB i).vec z).2 l,rfl⟩
  ·rintro ⟨z,l,rfl⟩
   exact⟨z,(elemsIn_mem G.v (G.subB i).vec z).1 l,rfl⟩)
 rw[C.length_eq,List.length_map]
theorem hall_cjU (G:Grp P) {pr:List Int}{u:List (List Int)}(a:HallP P pr u) {x:List Int}(hx:Vec P.orders x):HallP P pr (cjU P u x):=
 ⟨G.cjU_subB a.1 hx,by rw[cjU_order G a.1 hx];exact a.2⟩
def HallL (P:Pr) (pr:List Int) (L:List (List (List Int))):Prop:=L.Pairwise (subLt P)/\∀u,u∈L↔HallP P pr u
theorem HallL.one {pr:List Int}{L M:List (List (List Int))}(h:HallL P pr L) (k:HallL P pr M):L=M:=
 sorted_one (λ_=>subLt_irrefl) (λ_ _ _=>subLt_trans) h.1 k.1 (λu=>(h.2 u).trans (k.2 u).symm)
theorem hall_all (G:Grp P) {pr:List Int}{u:List (List Int)}(a:HallP P pr u) (v:List (List Int)):HallP P pr v↔∃j,j<(ordP P).toNat/\v=cjU P u (elAt P (j:Int)):=by
 constructor
 ·intro b
  obtain⟨x,hx,e⟩:=hall_conj G a b;obtain⟨h1,i⟩:=G.num_lt hx;exact⟨_,h1,by rw[i];exact e⟩
 ·rintro ⟨j,k,rfl⟩
  exact hall_cjU G a (G.elAtV k)
end
theorem tk {P:Program}{b:Array Oper}{Q:Exit->Act->World->Prop}{k:Region.Mode}{S:World->Prop}{j:Oper}{v:Value}{e:Nat}{l p:Array Bool}{a q:Act}{w:World}(i:Nat)
  (h:wpAnyH P k b Q S e p q w)
  (r:b[i]? = some j:=by rfl) (u:Region.noSelect b=true:=by kernel_rfl) (y:Region.free k b l i=true:=by kernel_rfl) (z:(Region.ready k b l).contains i=true:=by kernel_rfl)
  (A:Region.wanted j (yielded b a.tmps)=true:=by rfl)
  (hy:∀w,S w->(execOp a.eval j).run P w=.ok (.value v) w:=by (intro w m;(try dsimp only at m);go_simp;try with_reducible rfl))
  (B:l.setIfInBounds i true=p:=by (first|(simp only[List.setIfInBounds_toArray,List.set_cons_zero,List.set_cons_succ];rfl)|rfl))
  (ha:a.put j.dst v=q:=by (first|(simp only[Act.put,List.getElem_toArray,List.getElem_cons_succ,List.getElem_cons_zero,List.setIfInBounds_toArray,List.set_cons_zero,List.set_cons_succ];rfl)|rfl))
  (C:∀c a w,Q (.panic c) (a.put j.dst v) w->Q (.panic c) a w:=by (intro _ _ _ h;exact h)) (D:S w:=by assumption):wpAnyH P k b Q S (e+1) l a w:=by
 subst B ha;exact wpAnyH_take r u y z C (Or.inl ⟨A,hy⟩) D h
theorem tku {P:Program}{b:Array Oper}{Q:Exit->Act->World->Prop}{j:Region.Mode}{S:World->Prop}{k:Oper}{e:Nat}{l m:Array Bool}{a p:Act}{w:World}(i:Nat)
  (h:wpAnyH P j b Q S e m p w)
  (q:b[i]? = some k:=by rfl) (r:Region.noSelect b=true:=by kernel_rfl) (u:Region.free j b l i=true:=by kernel_rfl) (y:(Region.ready j b l).contains i=true:=by kernel_rfl)
  (z:Region.wanted k (yielded b a.tmps)=false:=by rfl)
  (A:l.setIfInBounds i true=m:=by (first|(simp only[List.setIfInBounds_toArray,List.set_cons_zero,List.set_cons_succ];rfl)|rfl))
  (ha:a.put k.dst undef=p:=by (first|(simp only[Act.put,List.getElem_toArray,List.getElem_cons_succ,List.getElem_cons_zero,List.setIfInBounds_toArray,List.set_cons_zero,List.set_cons_succ];rfl)|rfl))
  (B:∀c a w,Q (.panic c) (a.put k.dst undef) w->Q (.panic c) a w:=by (intro _ _ _ h;exact h)) (C:S w:=by assumption):wpAnyH P j b Q S (e+1) l a w:=by
 subst A ha;exact wpAnyH_take q r u y B (Or.inr ⟨z,rfl⟩) C h
theorem rd1 {P:Program}{b:Array Oper}{Q:Exit->Act->World->Prop}{j:Region.Mode}{S:World->Prop}{o:Oper}{e:Nat}{l k:Array Bool}{a:Act}{w:World}(i:Nat)
  (h:∀K':Act->World->Prop,Shut (∀a w,S w->(S w->wpAnyH P j b Q S e k a w)->K' a w)->if Region.wanted o (yielded b a.tmps)=true then Oper.wp P o a w K' Q else K' (a.put o.dst undef) w)
  (m:Region.ready j b l=[i]:=by kernel_rfl) (p:b[i]? = some o:=by rfl)
  (q:l.setIfInBounds i true=k:=by (first|(simp only[List.setIfInBounds_toArray,List.set_cons_zero,List.set_cons_succ];rfl)|rfl)):wpAnyH P j b Q S (e+1) l a w:=by
 subst q;exact wpAnyH_ready m (by simp) (AllReadyH.cons p h AllReadyH.nil)
theorem rd2 {P:Program}{b:Array Oper}{Q:Exit->Act->World->Prop}{k:Region.Mode}{S:World->Prop}{o o2:Oper}{e:Nat}{l q r:Array Bool}{a:Act}{w:World}(i j:Nat)
  (h:∀K':Act->World->Prop,Shut (∀a w,S w->(S w->wpAnyH P k b Q S e q a w)->K' a w)->if Region.wanted o (yielded b a.tmps)=true then Oper.wp P o a w K' Q else K' (a.put o.dst undef) w)
  (u:∀K':Act->World->Prop,Shut (∀a w,S w->(S w->wpAnyH P k b Q S e r a w)->K' a w)->if Region.wanted o2 (yielded b a.tmps)=true then Oper.wp P o2 a w K' Q else K' (a.put o2.dst undef) w)
  (y:Region.ready k b l=[i,j]:=by kernel_rfl) (z:b[i]? = some o:=by rfl) (m:b[j]? = some o2:=by rfl)
  (A:l.setIfInBounds i true=q:=by (first|(simp only[List.setIfInBounds_toArray,List.set_cons_zero,List.set_cons_succ];rfl)|rfl))
  (p:l.setIfInBounds j true=r:=by (first|(simp only[List.setIfInBounds_toArray,List.set_cons_zero,List.set_cons_succ];rfl)|rfl)):wpAnyH P k b Q S (e+1) l a w:=by
 subst A p;exact wpAnyH_ready y (by simp) (AllReadyH.cons z h (AllReadyH.cons m u AllReadyH.nil))
theorem ko {P:Program}{e:Array Oper}{Q:Exit->Act->World->Prop}{i:Region.Mode}{S:World->Prop}{b:Nat}{l:Array Bool}{a j:Act}{w:World}{K:Act->World->Prop}
  (k:Shut (∀a w,S w->(S w->wpAnyH P i e Q S b l a w)->K a w)) (m:S w) (h:S w->wpAnyH P i e Q S b l j w)
  (ha:a=j:=by (first|(simp only[Act.put,List.getElem_toArray,List.getElem_cons_succ,List.getElem_cons_zero,List.setIfInBounds_toArray,List.set_cons_zero,List.set_cons_succ];rfl)|rfl)):K a w:=by
 subst ha;exact k.out _ _ m h
theorem indexInt_ok (l:List Int) (x:Int) (w:World) (v:Value) (S:Nat->Prop) (z:Ints S w v l) :
  Calls Tryz.prog 174 #[v,.int .i64 x] w (Ret w λ_ r=>∃k:Int,r=.int .i64 k/\(0<=k↔x∈l)):=by
 obtain⟨a,c,rfl,_,_⟩:=z.shape;have I:=Lib.hid z;clear z;go_enter Tryz.func174,Tryz.ntmps174;go_wp2;go_loopw [8] (λA wr=>∃i:Nat,A=.int .i64 i/\i<=l.length/\Ext w wr/\Hid (∀j,j<i->gt l j≠x)) (λA _=>l.length-(intOf A).toNat)
 case atStart=>exact⟨0,by go_num,by omega,Ext.refl _,Lib.hid (λj B=>by omega)⟩
 case round=>
  obtain⟨i,rfl,hi,hg,hN⟩:=hrel;by_cases p:i<l.length
  ·have H:(i:Int)<l.length:=by omega
   obtain⟨b,o,hab,_,_,hc⟩:=Ints.at I.out i p;subst hab;have C:=hg.cell hc (by simp);by_cases m:gt l i=x
   ·have q:x∈l:=by rw[<-m];exact gt_mem p
    rw[m] at C;have D:=Lib.hid q;clear q m hc;go_wp2;go_ret;exact⟨_,rfl,hg,(i:Int),rfl,⟨λ_=>D.out,λ_=>by omega⟩⟩
   ·have E:(x == gt l i)=false:=by
     have:¬x=gt l i:=λe=>m e.symm;simpa using this
    have u:∀j,j<i+1->gt l j≠x:=λj B=>by
     rcases Nat.lt_succ_iff_lt_or_eq.1 B with h|h
     ·exact hN.out j h
     ·rw[h];exact m
    have F:=Lib.hid u;clear u m hc hN;generalize gt l i=y at *;go_wp2;clear E;go_roundw
    case rel=>exact⟨i+1,by go_num,by omega,hg,F⟩
    case measure=>simp[intOf];omega
  ·have G:i=l.length:=by omega
   have q:¬x∈l:=λh=>by
    obtain⟨j,B,e⟩:=mem_gt h;exact hN.out j (by omega) e
   have J:¬(i:Int)<l.length:=by omega
   have D:=Lib.hid q;clear q G hN;go_wp2;go_ret;exact⟨_,rfl,hg,-1,rfl,⟨λh=>by omega,λh=>absurd h D.out⟩⟩
theorem containsInt_ok (l:List Int) (x:Int) (w:World) (v:Value) (S:Nat->Prop) (b:Ints S w v l) :
  Calls Tryz.prog 96 #[v,.int .i64 x] w (Ret w λ_ r=>r=.bool (decide (x∈l))):=by
 have e:=indexInt_ok l x w v S b;obtain⟨a,c,rfl,_,_⟩:=b.shape;go_enter Tryz.func96,Tryz.ntmps96;go_wp2_with fail
 refine Calls.mono e ?_;rintro j m ⟨v1,rfl,hg1,k,rfl,hk⟩;have i:=Lib.hid hk;clear hk e;go_wp2;go_ret;refine⟨_,rfl,hg1,?_⟩;show Value.bool (decide (0<=k))=_
 rw[decide_eq_decide.2 i.out]
theorem hallTo_le {P:Pr}(hP:Valid P) (pr:List Int):∀k,k<=P.orders.length->1<=hallTo P pr k/\hallTo P pr k<=prodTo P.orders k
 | 0,_=>⟨Int.le_refl 1,Int.le_refl 1⟩
 | k+1,h=>by
  obtain⟨h1,h2⟩:=hallTo_le hP pr k (by omega);have a:=hP.ord7 k (by omega);have b:1*1<=hallTo P pr k*gt P.orders k:=Int.mul_le_mul h1 (by omega) (by omega) (by omega);have e:hallTo P pr k*gt P.orders k<=prodTo P.orders k*gt P.orders k:=Int.mul_le_mul_of_nonneg_right h2 (by omega);have i:prodTo P.orders k*1<=prodTo P.orders k*gt P.orders k:=Int.mul_le_mul_of_nonneg_left (by omega) (by omega);unfold hallTo prodTo;split<;>omega
theorem hallTo_729 {P:Pr}(hP:Valid P) (pr:List Int) (k:Nat) (hk:k<=P.orders.length):1<=hallTo P pr k/\hallTo P pr k<=729:=by
 have h1:=hallTo_le hP pr k hk;have a:=hP.pre k hk;omega
theorem hallTo_yes {P:Pr}{pr:List Int}{k:Nat}(h:gt P.orders k∈pr):hallTo P pr (k+1)=hallTo P pr k*gt P.orders k:=by rw[hallTo,if_pos h]
theorem hallTo_no {P:Pr}{pr:List Int}{k:Nat}(h:¬gt P.orders k∈pr):hallTo P pr (k+1)=hallTo P pr k:=by rw[hallTo,if_neg h]
theorem hallOrder_ok (P:Pr) (hP:Valid P) (pr:List Int) (w:World) (p v:Value) (O S:Nat->Prop) (K:PresP O w p P) (E:Ints S w v pr) :
  Calls Tryz.prog 108 #[p,v] w (Ret w λ_ r=>r=.int .i64 (hallO P pr)):=by
 have Q:=hP.n6;obtain⟨pb,po,rfl⟩:=K.shape;obtain⟨W,capo,hco0,hoi⟩:=K.ordAt;obtain⟨a,c,rfl,_,_⟩:=E.shape;have R:=Lib.hid E;clear E;go_enter Tryz.func108,Tryz.ntmps108;go_wp2;clear hco0;go_loopw [5,13] (λT F wr=>∃i:Nat,T=.int .i64 (hallTo P pr i)/\F=.int .i64 i/\i<=P.orders.length/\Ext w wr) (λ_ F _=>P.orders.length-(intOf F).toNat)
 case atStart=>exact⟨0,rfl,by go_num,by omega,Ext.refl _⟩
 case round=>
  obtain⟨i,rfl,rfl,hi,D⟩:=hrel;by_cases y:i<P.orders.length
  ·have L:(i:Int)<P.orders.length:=by omega
   obtain⟨b,o,hab,_,_,hc⟩:=Ints.at hoi i y;subst hab;have z:=D.cell hc (by simp);have U:=hallTo_729 hP pr i hi;have A:=hallTo_729 hP pr (i+1) y;have e := @hallTo_yes P pr i;have k := @hallTo_no P pr i;obtain⟨q,M⟩:∃q,q=gt P.orders i:=⟨_,rfl⟩;obtain⟨N,B⟩:∃h,h=hallTo P pr i:=⟨_,rfl⟩;rw[<-M] at z e k;rw[<-B] at U e k ⊢;have l:=containsInt_ok pr q wr _ S (Ints.ext R.out D);have G:=Lib.hid (And.intro e (And.intro k A));clear e k A hc M B;go_wp2_with fail
   refine Calls.mono l ?_;rintro X Y ⟨v1,rfl,hg1,rfl⟩;clear l z;have m:=grown_trans D hg1;by_cases u:q∈pr
   ·have C:decide (q∈pr)=true:=decide_eq_true u
    have j:=G.out.1 u;have H:=G.out.2.2;rw[j] at H;have Z:wrap64 (N*q)=N*q:=IntWalk.wrap64_in _ (by omega);rw[C];have I:=Lib.hid j;clear j u C;go_wp2;go_roundw
    case rel=>exact⟨i+1,by rw[I.out],by go_num,by omega,m⟩
    case measure=>simp[intOf];omega
   ·have C:decide (q∈pr)=false:=decide_eq_false u
    have j:=G.out.2.1 u;rw[C];have I:=Lib.hid j;clear j u C;go_wp2;go_roundw
    case rel=>exact⟨i+1,by rw[I.out],by go_num,by omega,m⟩
    case measure=>simp[intOf];omega
  ·have J:i=P.orders.length:=by omega
   have V:¬(i:Int)<P.orders.length:=by omega
   subst J;go_wp2;go_ret;exact⟨_,rfl,D,rfl⟩
def PrSet (pr:List Int):Prop:=∀i,i<pr.length->primeB (gt pr i)=true/\(0<i->gt pr (i-1)<gt pr i)
theorem isPrimeSet_ok (pr:List Int) (w:World) (v:Value) (S:Nat->Prop) (G:Ints S w v pr) :
  Calls Tryz.prog 107 #[v] w (Ret w λ_ r=>∃b:Bool,r=.bool b/\(b=true↔PrSet pr)):=by
 obtain⟨a,c,rfl,_,_⟩:=G.shape;have K:=Lib.hid G;clear G;go_enter Tryz.func107,Tryz.ntmps107;go_wp2;go_loopw [7] (λH wr=>∃i:Nat,H=.int .i64 i/\i<=pr.length/\Ext w wr/\Hid (∀j,j<i->primeB (gt pr j)=true/\(0<j->gt pr (j-1)<gt pr j))) (λH _=>pr.length-(intOf H).toNat)
 case atStart=>exact⟨0,by go_num,by omega,Ext.refl _,Lib.hid (λj I=>by omega)⟩
 case round=>
  obtain⟨i,rfl,hi,hg,hN⟩:=hrel;by_cases D:i<pr.length
  ·have L:(i:Int)<pr.length:=by omega
   obtain⟨b,o,hab,_,_,hc⟩:=Ints.at K.out i D;subst hab;have z:=hg.cell hc (by simp);have m:=isGroupPrime_ok (gt pr i) wr;have e:(primeB (gt pr i)=true/\(0<i->gt pr (i-1)<gt pr i)->False)->¬PrSet pr:=λh O=>h (O i D)
   have l:primeB (gt pr i)=true->(0<i->gt pr (i-1)<gt pr i)->Hid (∀j,j<i+1->primeB (gt pr j)=true/\(0<j->gt pr (j-1)<gt pr j)):=λh1 Q=>Lib.hid (λj I=>by
    rcases Nat.lt_succ_iff_lt_or_eq.1 I with h|h
    ·exact hN.out j h
    ·subst h;exact⟨h1,Q⟩)
   rcases Nat.eq_zero_or_pos i with M|M
   ·subst M
    obtain⟨q,A⟩:∃q,q=gt pr 0:=⟨_,rfl⟩;rw[<-A] at z m e l;obtain⟨pb,y⟩:∃pb,pb=primeB q:=⟨_,rfl⟩;rw[<-y] at m e l;have C:=Lib.hid (And.intro e l);clear e l hc A y hN;have z:wr.cell? ⟨b,o,none⟩=some (.int .i64 q):=z;go_wp2_with fail
    refine Calls.mono m ?_;rintro R T ⟨rfl,rfl⟩;cases pb with
    | false=>
     have u:=C.out.1 (λh=>by cases h.1);have E:=Lib.hid u;clear u;go_wp2;go_ret;exact⟨_,rfl,hg,false,rfl,by simpa using E.out⟩
    | true=>
     have u:=C.out.2 rfl (λh=>by omega);go_wp2;go_roundw
     case rel=>exact⟨1,by go_num,by omega,hg,u⟩
     case measure=>simp[intOf];omega
   ·obtain ⟨b2,o2,hab2,_,_,hc2⟩:=Ints.at K.out (i-1) (by omega)
    cases hab2
    have p:=hg.cell hc2 (by simp);obtain⟨q,A⟩:∃q,q=gt pr i:=⟨_,rfl⟩;obtain⟨q',F⟩:∃q',q'=gt pr (i-1):=⟨_,rfl⟩;rw[<-A] at z m e l;rw[<-F] at p e l;obtain⟨pb,y⟩:∃pb,pb=primeB q:=⟨_,rfl⟩;rw[<-y] at m e l;have C:=Lib.hid (And.intro e l);clear e l hc hc2 A F y hN;obtain⟨k,rfl⟩:∃k,i=k+1:=⟨i-1,by omega⟩;have p:wr.cell? ⟨b,o+k,none⟩=some (.int .i64 q'):=by rw[Nat.add_sub_cancel] at p;exact p
    have U:(((k+1:Nat):Int)>0):=by omega
    have V:((k+1:Nat):Int)-1=(k:Int):=by omega
    have W:wrap64 (((k+1:Nat):Int)-1)=(k:Int):=by rw[IntWalk.wrap64_in _ (by omega)];omega
    go_wp2_with fail
    refine Calls.mono m ?_;rintro R T ⟨rfl,rfl⟩;clear m;cases pb with
    | false=>
     have u:=C.out.1 (λh=>by cases h.1);have E:=Lib.hid u;clear u;go_wp2;go_ret;exact⟨_,rfl,hg,false,rfl,by simpa using E.out⟩
    | true=>
     by_cases A:q'<q
     ·have u:=C.out.2 rfl (λ_=>A)
      have J:¬q'≥q:=by omega
      go_wp2;go_roundw
      case rel=>exact⟨k+1+1,by go_num,by omega,hg,u⟩
      case measure=>simp[intOf];omega
     ·have u:=C.out.1 (λh=>A (h.2 (by omega)))
      have J:q'≥q:=by omega
      have E:=Lib.hid u;clear u;go_wp2;go_ret;exact⟨_,rfl,hg,false,rfl,by simpa using E.out⟩
  ·have B:PrSet pr:=λj I=>hN.out j (by omega)
   have X:¬(i:Int)<pr.length:=by omega
   have N:=Lib.hid B;clear B hN;go_wp2;go_ret
   first|exact⟨_,rfl,hg,true,rfl,by simpa using N.out⟩|exact⟨_,rfl,hg,.inr ⟨rfl,N.out⟩⟩
open Classical in
noncomputable def hcC (P:Pr) (pr:List Int):Int:=if rconsB P=true then (if PrSet pr then (if 128<ordP P then 3 else 0) else 2) else 1
theorem hc_zero {P:Pr}{pr:List Int}(h:hcC P pr=0):rconsB P=true/\PrSet pr/\ordP P<=128:=by
 unfold hcC at h;by_cases h1:rconsB P=true
 ·rw [if_pos h1] at h
  by_cases a:PrSet pr
  ·rw [if_pos a] at h
   by_cases b:128<ordP P
   ·rw[if_pos b] at h;cases h
   ·exact⟨h1,a,by omega⟩
  ·rw[if_neg a] at h;cases h
 ·rw[if_neg h1] at h;cases h
theorem l01PrimeR_ok (n:Int) (w:World):Calls Tryz.prog 117 #[.int .i64 n] w (Ret w λ_ v=>v=.bool (primeB n)):=by
 refine Calls.mono (l01Prime_ok n w) ?_;rintro e w' ⟨rfl,rfl⟩;exact⟨_,rfl,Ext.refl _,rfl⟩
theorem hallCode_ok (P:Pr) (pr:List Int) (w:World) (p v:Value) (z S:Nat->Prop) (A:PresP z w p P) (B:Ints S w v pr) :
  Calls Tryz.prog 102 #[p,v] w (Ret w λ_ r=>r=.int .i64 (hcC P pr)):=by
 obtain⟨pb,po,rfl⟩:=A.shape;obtain⟨C,vp6,vc6,_,_,hc0,hc1,hc2,h36⟩:=A.at;have b:=isConsistent_ok P w (.agg #[C,vp6,vc6]) z ⟨_,_,_,rfl,h36⟩;rw[icons_eq] at b;obtain⟨a,c,rfl,_,_⟩:=B.shape;have E:=Lib.hid B;clear B;go_enter Tryz.func102,Tryz.ntmps102;go_wp2_with fail
 clear hc0 hc1 hc2;refine Calls.mono b ?_;rintro I F ⟨v1,rfl,k,rfl⟩;cases q:rconsB P with
 | false=>
  have e:hcC P pr=1:=by unfold hcC;rw[if_neg (by rw[q];decide)]
  have m:=Lib.hid e;clear e q b;go_wp2;go_ret;exact⟨_,rfl,k,by rw[m.out];rfl⟩
 | true=>
  have G:=grp_of_r q;have u:=isPrimeSet_ok pr F _ S (Ints.ext E.out k);have D:=Lib.hid q;clear q b;go_wp2_with fail
  refine Calls.mono u ?_;rintro J H ⟨K,rfl,hg2,r,rfl,y⟩;clear u;have i:=grown_trans k hg2;cases r with
  | false=>
   have e:hcC P pr=2:=by unfold hcC;rw[if_pos D.out,if_neg (λh=>by have:=y.2 h;cases this)]
   have m:=Lib.hid e;clear e y;go_wp2;go_ret;exact⟨_,rfl,i,by rw[m.out];rfl⟩
  | true=>
   have e:hcC P pr=if 128<ordP P then 3 else 0:=by unfold hcC;rw[if_pos D.out,if_pos (y.1 rfl)]
   have m:=Lib.hid e;clear e y;go_wp2_with fail
   refine Calls.mono (orderOf_ok H _ P z G.v (A.ext i)) ?_;rintro L M ⟨rfl,rfl⟩;by_cases j:128<ordP P
   ·have e:=m.out
    rw[if_pos j] at e;have l:=Lib.hid e;clear e;go_wp2;go_ret;exact⟨_,rfl,i,by rw[l.out];rfl⟩
   ·have e:=m.out
    rw[if_neg j] at e;have l:=Lib.hid e;clear e;go_wp2;go_ret;exact⟨_,rfl,i,by rw[l.out];rfl⟩
set_option linter.unusedSimpArgs false in
theorem l20Primes_ok (pr:List Int) (w:World) (v:Value) (S:Nat->Prop) (J:Ints S w v pr) :
  Calls Tryz.prog 182 #[v] w (Ret w λ_ r=>∃b:Bool,r=.bool b/\(b=true↔PrSet pr)):=by
 obtain⟨a,c,rfl,_,_⟩:=J.shape;have V:=Lib.hid J;clear J;go_enter Tryz.func182,Tryz.ntmps182;go_wp2;go_loopw [3] (λK wr=>∃i:Nat,K=.int .i64 i/\i<=pr.length/\Ext w wr/\Hid (∀j,j<i->primeB (gt pr j)=true/\(0<j->gt pr (j-1)<gt pr j))) (λK _=>pr.length-(intOf K).toNat)
 case atStart=>exact⟨0,by go_num,by omega,Ext.refl _,Lib.hid (λj L=>by omega)⟩
 case round=>
  obtain⟨i,rfl,hi,B,hN⟩:=hrel;by_cases E:i<pr.length
  ·have W:(i:Int)<pr.length:=by omega
   obtain⟨b,o,hab,_,_,X⟩:=Ints.at V.out i E;subst hab;have l:∀w',Ext wr w'->w'.cell? ⟨b,o+i,none⟩=some (.int .i64 (gt pr i)):=λw' h=>(grown_trans B h).cell X (by simp);have y:(primeB (gt pr i)=true/\(0<i->gt pr (i-1)<gt pr i)->False)->¬PrSet pr:=λh Z=>h (Z i E)
   have z:primeB (gt pr i)=true->(0<i->gt pr (i-1)<gt pr i)->Hid (∀j,j<i+1->primeB (gt pr j)=true/\(0<j->gt pr (j-1)<gt pr j)):=λh1 h2=>Lib.hid (λj L=>by
    rcases Nat.lt_succ_iff_lt_or_eq.1 L with h|h
    ·exact hN.out j h
    ·subst h;exact⟨h1,h2⟩)
   have e:0<i->∀w',Ext wr w'->w'.cell? ⟨b,o+(i-1),none⟩=some (.int .i64 (gt pr (i-1))):=λI w' h=>by
    obtain⟨b2,o2,hab2,_,_,M⟩:=Ints.at V.out (i-1) (by omega);cases hab2
    exact(grown_trans B h).cell M (by simp)
   obtain⟨q,F⟩:∃q,q=gt pr i:=⟨_,rfl⟩;obtain⟨q',G⟩:∃q',q'=gt pr (i-1):=⟨_,rfl⟩;rw[<-F] at l y z;rw[<-G] at e y z;have H:=Lib.hid (And.intro y (And.intro z e));clear y z e X F G hN;by_cases p:primeB q=false
   ·have A:=H.out.1 (λh=>by have:=h.1;rw[p] at this;cases this)
    have N:=Lib.hid A;clear A;go_wp2;refine wp_region_held_drew (S:=(λw'=>Ext wr w')) (by kernel_rfl) (by first|exact grown_drew _ _|assumption) (λm => ?_);refine tk 0 ?_;refine tk 1 ?_;refine tk 2 ?_;refine tk 3 ?_;refine rd1 4 (λO u => ?_);go_simp;go_at_call 117;refine Calls.mono (Calls.rel (w0:=wr) (by first|assumption|exact grown_drew _ _) (l01PrimeR_ok q _)) ?_;rintro Q R ⟨T,rfl,hgP,hsP,rfl⟩;go_wp2_with fail
    refine ko u ?_ (λm => ?_)
    ·first|exact grown_drew _ _|assumption
    clear u O;refine tk 5 ?_;refine tk 6 ?_;refine tku 7 ?_;refine tku 8 ?_;refine tku 9 ?_;refine tku 10 ?_;refine tku 11 ?_;refine tku 12 ?_;refine tku 13 ?_;refine tku 14 ?_;refine tku 15 ?_;refine tku 16 ?_;refine tku 17 ?_;refine tku 18 ?_;refine tku 19 ?_;refine tku 20 ?_;refine tk 21 ?_;refine wpAnyH_done (by kernel_rfl) ?_ _;clear l;go_wp2;go_ret;exact⟨_,rfl,grown_trans B hgP,false,rfl,by simpa using N.out⟩
   ·have p:primeB q=true:=by simpa using p
    rcases Nat.eq_zero_or_pos i with I|I
    ·subst I
     have A:=H.out.2.1 p (λh=>by omega);have l:∀w',Ext wr w'->w'.cell? ⟨b,o,none⟩=some (.int .i64 q):=l;go_wp2;refine wp_region_held_drew (S:=(λw'=>Ext wr w')) (by kernel_rfl) (by first|exact grown_drew _ _|assumption) (λm => ?_);refine tk 0 ?_;refine tk 1 ?_;refine tk 2 ?_;refine tk 3 ?_;refine rd1 4 (λO u => ?_);go_simp;go_at_call 117;refine Calls.mono (Calls.rel (w0:=wr) (by first|assumption|exact grown_drew _ _) (l01PrimeR_ok q _)) ?_;rintro Q R ⟨T,rfl,hgP,hsP,rfl⟩;go_wp2_with fail
     refine ko u ?_ (λm => ?_)
     ·first|exact grown_drew _ _|assumption
     clear u O;refine tk 5 ?_;refine tk 6 ?_;refine tk 7 ?_;refine tk 8 ?_;refine tk 9 ?_;refine tku 10 ?_;refine tku 11 ?_;refine tku 12 ?_;refine tku 13 ?_;refine tku 14 ?_;refine tku 15 ?_;refine tku 16 ?_;refine tku 17 ?_;refine tku 18 ?_;refine tku 19 ?_;refine tk 20 ?_;refine tk 21 ?_;refine wpAnyH_done (by kernel_rfl) ?_ _;clear l;go_wp2;go_roundw
     case rel=>exact⟨1,by go_num,by omega,grown_trans B hgP,A⟩
     case measure=>simp[intOf];omega
    ·have e:=H.out.2.2 I
     obtain⟨k,D⟩:∃k,i=k+1:=⟨i-1,by omega⟩
     have e:∀w',Ext wr w'->w'.cell? ⟨b,o+k,none⟩=some (.int .i64 q'):=λw' h=>by
      have:=e w' h;rw[D,Nat.add_sub_cancel] at this;exact this
     have ab:(i:Int)>0:=by omega
     have ac:(0:Int)<=(i:Int):=by omega
     have ad:IntKind.i64.wrap ((i:Int)-1)=(k:Int):=by rw[IntWalk.i64_in _ (by omega)];omega
     have ae:(0:Int)<=(k:Int):=by omega
     have af:(k:Int)<pr.length:=by omega
     have HI:=Lib.hid D;clear D;by_cases F:q'<q
     ·have A:=H.out.2.1 p (λ_=>F)
      have U:¬q<=q':=by omega
      go_wp2
      go_region_held3 (λw'=>Ext wr w') (first|exact grown_drew _ _|exact Ext.refl _|assumption)
       (first
        | (go_at_call 117;refine Calls.mono (Calls.rel (w0:=wr) (by assumption) (l01PrimeR_ok q _)) ?_;rintro Q R ⟨T,rfl,hgP,hsP,rfl⟩))
      clear l e;go_wp2;go_roundw
      case rel=>exact⟨i+1,by go_num,by omega,grown_trans B hgP,A⟩
      case measure=>simp[intOf];omega
     ·have A:=H.out.1 (λh=>F (h.2 (by omega)))
      have U:q<=q':=by omega
      have N:=Lib.hid A;clear A;go_wp2
      go_region_held3 (λw'=>Ext wr w') (first|exact grown_drew _ _|exact Ext.refl _|assumption)
       (first
        | (go_at_call 117;refine Calls.mono (Calls.rel (w0:=wr) (by assumption) (l01PrimeR_ok q _)) ?_;rintro Q R ⟨T,rfl,hgP,hsP,rfl⟩))
      clear l e;go_wp2;go_ret;exact⟨_,rfl,grown_trans B hgP,false,rfl,by simpa using N.out⟩
  ·have C:PrSet pr:=λj L=>hN.out j (by omega)
   have ag:¬(i:Int)<pr.length:=by omega
   have Y:=Lib.hid C;clear C hN;go_wp2;go_ret
   first|exact⟨_,rfl,B,true,rfl,by simpa using Y.out⟩|exact⟨_,rfl,B,.inr ⟨rfl,Y.out⟩⟩
theorem l20Code_ok (P:Pr) (pr:List Int) (w:World) (pv v:Value) (M S:Nat->Prop) (H:PresV M w pv P) (I:Ints S w v pr) :
  Calls Tryz.prog 104 #[pv,v] w (Ret w λ_ r=>r=.int .i64 (hcC P pr)):=by
 obtain⟨vo,vp,vc,rfl,h3⟩:=H;have A:=PresP.box h3 28;have i:Ext w (w.alloc (.cells #[vo,vp,vc] 28)):=World.grownBy_alloc _ _ _;obtain⟨B,vp6,vc6,_,_,l,j,k,h36⟩:=A.at;simp only[Nat.zero_add] at j k;have C:∀w',Ext (w.alloc (.cells #[vo,vp,vc] 28)) w'->w'.cell? ⟨w.heap.size,0,none⟩=some B/\w'.cell? ⟨w.heap.size,1,none⟩=some vp6/\w'.cell? ⟨w.heap.size,2,none⟩=some vc6:=λw' h=>⟨h.cell l (by simp),h.cell j (by simp),h.cell k (by simp)⟩;have N:=Lib.hid C;clear C A;have q:=l08Group_ok P _ (.agg #[B,vp6,vc6]) Any ⟨_,_,_,rfl,h36⟩;obtain⟨a,c,rfl,_,_⟩:=I.shape;have O:=Lib.hid (Ints.ext I i);clear I;go_enter Tryz.func104,Tryz.ntmps104;go_wp2_with fail
 clear l j k;generalize J:w.alloc (.cells #[vo,vp,vc] 28)=w0 at *;clear J;refine Calls.mono q ?_;rintro R Q ⟨v1,rfl,u,rfl⟩;cases D:rconsB P with
 | false=>
  have e:hcC P pr=1:=by unfold hcC;rw[if_neg (by rw[D];decide)]
  have z:=Lib.hid e;clear e D q;go_wp2;go_ret;exact⟨_,rfl,grown_trans i u,by rw[z.out];rfl⟩
 | true=>
  have G:=grp_of_r D;have E:=l20Primes_ok pr Q _ S (Ints.ext O.out u);have K:=Lib.hid D;clear D q;go_wp2_with fail
  refine Calls.mono E ?_;rintro T L ⟨U,rfl,hg2,r,rfl,F⟩;clear E;have b:=grown_trans u hg2;cases r with
  | false=>
   have e:hcC P pr=2:=by unfold hcC;rw[if_pos K.out,if_neg (λh=>by have:=F.2 h;cases this)]
   have z:=Lib.hid e;clear e F;go_wp2;go_ret;exact⟨_,rfl,grown_trans i b,by rw[z.out];rfl⟩
  | true=>
   have e:hcC P pr=if 128<ordP P then 3 else 0:=by unfold hcC;rw[if_pos K.out,if_pos (F.1 rfl)]
   have z:=Lib.hid e;clear e F;obtain⟨l,j,k⟩:=N.out L b;go_wp2_with fail
   clear l j k;refine Calls.mono (l10Order_ok L _ P Any G.v ⟨_,_,_,rfl,Pres3.ext h36 b⟩) ?_;rintro V W ⟨X,rfl,hg3,rfl⟩;have m:=grown_trans b hg3;by_cases p:128<ordP P
   ·have e:=z.out
    rw[if_pos p] at e;have y:=Lib.hid e;clear e;go_wp2;go_ret;exact⟨_,rfl,grown_trans i m,by rw[y.out];rfl⟩
   ·have e:=z.out
    rw[if_neg p] at e;have y:=Lib.hid e;clear e;go_wp2;go_ret;exact⟨_,rfl,grown_trans i m,by rw[y.out];rfl⟩
def prtN (p:Nat):Nat->Nat->Nat
 | 0,_=>1
 | f+1,n=>if n%p=0 then p*prtN p f (n/p) else 1
theorem prtN_fuel {p:Nat}(e:2<=p):∀f g n,1<=n->n<=f->n<=g->prtN p f n=prtN p g n
 | 0,g,n,h1,h2,_=>by omega
 | f+1,0,n,h1,_,h3=>by omega
 | f + 1,g+1,n,h1,h2,h3=>by
  unfold prtN;by_cases h:n%p=0
  ·rw [if_pos h,if_pos h]
   have i:n/p<n:=Nat.div_lt_self h1 e
   have a:1<=n/p:=by
    rcases Nat.eq_zero_or_pos (n/p) with b|b
    ·have:=Nat.div_add_mod n p
     rw[b,h] at this;omega
    ·exact b
   rw[prtN_fuel e f g (n/p) a (by omega) (by omega)]
  ·rw[if_neg h,if_neg h]
theorem prt_ex (p n:Nat):∃k,k=prtN p n n:=⟨_,rfl⟩
noncomputable def prt (p n:Nat):Nat:=Classical.choose (prt_ex p n)
theorem prt_def (p n:Nat):prt p n=prtN p n n:=Classical.choose_spec (prt_ex p n)
theorem prt_mul {p n:Nat}(a:2<=p) (b:1<=n):prt p (p*n)=p*prt p n:=by
 have h1:1<=p*n:=Nat.mul_pos (by omega) b
 have e:n<p*n:=by
  have:2*n<=p*n:=Nat.mul_le_mul_right n a;omega
 rw[prt_def,prt_def];obtain⟨k,hk⟩:∃k,p*n=k+1:=⟨p*n-1,by omega⟩;rw[hk];conv=>lhs;unfold prtN
 rw[<-hk,Nat.mul_mod_right,if_pos rfl,Nat.mul_div_cancel_left n (by omega)];rw[prtN_fuel a k n n b (by omega) (Nat.le_refl _)]
theorem prt_other {p:Nat}(b:2<=p) {q:Nat}(u:1<=q) (w:∀m,p∣q*m->p∣m):∀n,1<=n->prt p (q*n)=prt p n:=by
 intro n;induction n using Nat.strongRecOn with
 | ind n y=>
  intro a;by_cases h:p∣n
  ·obtain ⟨m,rfl⟩:=h
   have i:1<=m:=by
    rcases Nat.eq_zero_or_pos m with h|h
    ·subst h;simp at a
    ·exact h
   have l:m<p*m:=by
    have:2*m<=p*m:=Nat.mul_le_mul_right m b;omega
   rw[Nat.mul_left_comm,prt_mul b (Nat.mul_pos u i),prt_mul b i,y m l i]
  ·have h1:¬p∣q*n:=λr=>h (w n r)
   have e:∀k,1<=k->¬p∣k->prt p k=1:=λk hk a=>by
    rw[prt_def];obtain⟨j,rfl⟩:∃j,k=j+1:=⟨k-1,by omega⟩;unfold prtN;rw[if_neg (λr=>a (Nat.dvd_of_mod_eq_zero r))]
   rw[e _ (Nat.mul_pos u a) h1,e _ a h]
theorem prime_cancel {p q:Nat}(b:p=2\/p=3\/p=5\/p=7) (e:q=2\/q=3\/q=5\/q=7) (a:p≠q) (m:Nat) (h:p∣q*m):p∣m:=
 Nat.Coprime.dvd_of_dvd_mul_left (cop7 b e a) h
section
variable {P:Pr}
theorem prt_prd (G:Grp P) (Q:Nat->Prop) {p:Nat}(j:p=2\/p=3\/p=5\/p=7):∀f d,d+f=P.orders.length->prt p (prd P Q f d)=prd P (λk=>Q k/\gt P.orders k=(p:Int)) f d
 | 0,d,_=>by
  show prt p 1=1
  rw[prt_def];unfold prtN;rw[if_neg];rcases j with rfl|rfl|rfl|rfl<;>decide
 | f + 1,d,h=>by
  have l:=prt_prd G Q j f (d+1) (by omega);have a:=prd_pos G Q f (d+1) (by omega);have b:2<=p:=by omega
  obtain⟨q,h1,h2,h3⟩:=ordN G (show d<P.orders.length by omega);unfold prd;by_cases i:Q d
  ·rw [if_pos i,h2]
   by_cases r:gt P.orders d=(p:Int)
   ·have:q=p:=by omega
    subst this;rw[if_pos ⟨i,r⟩,prt_mul b a,l]
   ·have u:p≠q:=λe=>r (by rw[h1,e])
    rw[if_neg (λw=>r w.2),Nat.one_mul,prt_other b (by omega) (λm y=>prime_cancel j h3 u m y) _ a,l]
  ·rw[if_neg i,if_neg (λw=>i w.1),Nat.one_mul,Nat.one_mul,l]
theorem prd_le (G:Grp P) (Q R:Nat->Prop) (h:∀k,k<P.orders.length->Q k->R k):prd P Q P.orders.length 0<=prd P R P.orders.length 0:=by
 have h1:prd P Q P.orders.length 0∣prd P R P.orders.length 0:=by
  have b:=prd_mul (P:=P) (Q:=Q) (R:=λk=>R k/\¬Q k) P.orders.length 0 (λk _ _ hk a=>a.2 hk)
  have i:prd P (λk=>Q k\/(R k/\¬Q k)) P.orders.length 0=prd P R P.orders.length 0:=prd_congr _ _ (λk _ hk=>⟨λa=>a.elim (h k (by omega)) (λa=>a.1),λa=>by
   by_cases e:Q k
   ·exact .inl e
   ·exact .inr ⟨a,e⟩⟩)
  rw[<-i,<-b];exact Nat.dvd_mul_right _ _
 exact Nat.le_of_dvd (prd_pos G R _ _ (Nat.zero_add _)) h1
theorem prd_all (G:Grp P):((prd P (λ_=>True) P.orders.length 0:Nat):Int)=ordP P:=by
 have key:∀k,k<=P.orders.length->((prF P (λ_=>True) k:Nat):Int)=prodTo P.orders k:=by
  intro k;induction k with
  | zero=>intro _;rfl
  | succ k a=>
   intro h;obtain⟨q,h1,h2,h3⟩:=ordN G (show k<P.orders.length by omega);rw[prF_succ,if_pos trivial,Int.natCast_mul,a (by omega),h2,prodTo,h1]
 exact key _ (Nat.le_refl _)
theorem prd_729 (G:Grp P) (Q:Nat->Prop):1<=prd P Q P.orders.length 0/\prd P Q P.orders.length 0<=729:=by
 have h1:=prd_pos G Q _ _ (Nat.zero_add _);have a:=prd_le G Q (λ_=>True) (λ_ _ _=>trivial);have b:=prd_all G;have e:ordP P<=729:=G.v.le729;omega
theorem prd_eq_iff (G:Grp P) (Q R:Nat->Prop) (j:∀d,Q d->d<P.orders.length):prd P (λd=>Q d/\R d) P.orders.length 0=prd P Q P.orders.length 0↔∀d,Q d->R d:=by
 have b:=prd_mul (P:=P) (Q:=λd=>Q d/\R d) (R:=λd=>Q d/\¬R d) P.orders.length 0 (λk _ _ hk a=>a.2 hk.2)
 have l:prd P (λk=>(Q k/\R k)\/(Q k/\¬R k)) P.orders.length 0=prd P Q P.orders.length 0:=prd_congr _ _ (λk _ _=>⟨λa=>a.elim (λa=>a.1) (λa=>a.1),λa=>by
  by_cases e:R k
  ·exact .inl ⟨a,e⟩
  ·exact .inr ⟨a,e⟩⟩)
 rw[l] at b;constructor
 ·intro h d i
  refine Classical.byContradiction λm => ?_;rw[h] at b;have p:prd P (λd=>Q d/\¬R d) P.orders.length 0=1:=Nat.eq_of_mul_eq_mul_left (prd_pos G Q _ _ (Nat.zero_add _)) (by rw[b,Nat.mul_one]);exact prd_one G _ _ (Nat.zero_add _) p d (Nat.zero_le _) (j d i) ⟨i,m⟩
 ·intro h
  exact prd_congr _ _ (λk _ _=>⟨λa=>a.1,λa=>⟨a,h k a⟩⟩)
end
theorem w64n (k:Nat) (h:k<=100000):wrap64 (k:Int)=(k:Int):=IntWalk.wrap64_in _ (by omega)
theorem i64n (k:Nat) (h:k<=100000):IntKind.i64.wrap (k:Int)=(k:Int):=IntWalk.i64_in _ (by omega)
theorem l01Part_ok (n p:Nat) (N:1<=n) (I:2<=p) (B:n<=100000) (O:p<=100000) (w:World) :
  Calls Tryz.prog 274 #[.int .i64 (n:Int),.int .i64 (p:Int)] w (Ret w λ_ r=>r=.int .i64 ((prt p n:Nat):Int)):=by
 go_enter Tryz.func274,Tryz.ntmps274;go_wp2;go_loopw [0,5] (λC Q wr=>∃m o:Nat,C=.int .i64 (m:Int)/\Q=.int .i64 (o:Int)/\1<=m/\m<=n/\o*m<=n/\1<=o/\w=wr/\Hid (o*prt p m=prt p n)) (λC _ _=>(intOf C).toNat)
 case atStart=>exact⟨n,1,rfl,rfl,N,Nat.le_refl _,by omega,by omega,rfl,Lib.hid (Nat.one_mul _)⟩
 case round=>
  obtain⟨m,o,rfl,rfl,hm1,hm2,hom,ho1,rfl,A⟩:=hrel;have R:o<=n:=Nat.le_trans (Nat.le_mul_of_pos_right o (by omega)) hom;have a:((m:Int)%(p:Int))=((m%p:Nat):Int):=(Int.natCast_emod m p).symm;have J:(0:Int)<(p:Int):=by omega
  by_cases u:m%p=0
  ·have S:(m:Int)%(p:Int)=0:=by rw[a,u];rfl
   have i:=Nat.div_add_mod m p;rw[u,Nat.add_zero] at i;obtain⟨q,D⟩:∃q,q=m/p:=⟨_,rfl⟩;rw[<-D] at i
   have j:1<=q:=by
    rcases Nat.eq_zero_or_pos q with h|h
    ·rw[h] at i;simp at i;omega
    ·exact h
   have y:q<m:=by
    have:2*q<=p*q:=Nat.mul_le_mul_right q I;omega
   have K:(m:Int)/(p:Int)=(q:Int):=by
    rw[D];exact(Int.natCast_ediv m p).symm
   have l:o*p*q<=n:=by rw[Nat.mul_assoc,i];exact hom
   have z:o*p<=n:=Nat.le_trans (Nat.le_mul_of_pos_right (o*p) j) l;have L:(o:Int)*(p:Int)=((o*p:Nat):Int):=(Int.natCast_mul o p).symm;have b:1<=o*p:=Nat.mul_pos ho1 (by omega);have E:Hid (o*p*prt p q=prt p n):=Lib.hid (by rw[<-A.out,<-i,prt_mul I j,Nat.mul_assoc]);have F:q<=n:=by omega
   have G:=Lib.hid (And.intro l (And.intro b y));clear l b i D a u hom A y;generalize o*p=op at *;have H:=w64n op (Nat.le_trans z B);go_wp2;go_roundw
   case rel=>exact⟨q,op,rfl,by first|rfl|exact congrArg (Value.int .i64) H,j,F,G.out.1,G.out.2.1,by first|trivial|rfl,E⟩
   case measure=>have:=G.out.2.2;simp[intOf];omega
  ·have T:¬(m:Int)%(p:Int)=0:=by rw[a];omega
   have M:prt p m=1:=by
    rw[prt_def];obtain⟨k,rfl⟩:∃k,m=k+1:=⟨m-1,by omega⟩;unfold prtN;rw[if_neg u]
   have e:(o:Int)=((prt p n:Nat):Int):=by rw[<-A.out,M,Nat.mul_one]
   have U:=Lib.hid e;clear e M A a u;go_wp2;go_ret;refine⟨_,rfl,Ext.refl _,?_⟩;show Value.int .i64 (o:Int)=_
   rw[U.out]
section
variable {P:Pr}(G:Grp P)
noncomputable def szP (P:Pr) (H:List Int->Prop):Int:=prodU P (cseq P H) (cseq P H).length
include G in
include G in
include G in
include G in
include G in
include G in
end
end Go.Proofs.YtoakmefajbbggaaGreat
namespace Go.Proofs.YtoakmefajbbggaaGreat
open Go.RowKit
open Classical
def elOf {P:Pr}(G:Grp P) (x:List Int) (h:Vec P.orders x):El G:=⟨x,h⟩
noncomputable def mkE {P:Pr}(G:Grp P) (x:List Int):El G:=if h:Vec P.orders x then elOf G x h else 1
theorem mkE_val {P:Pr}(G:Grp P) {x:List Int}(h:Vec P.orders x):(mkE G x).1=x:=by unfold mkE;rw[dif_pos h];rfl
theorem mkE_el {P:Pr}(G:Grp P) (x:El G):mkE G x.1=x:=Subtype.ext (mkE_val G x.2)
section
variable {P:Pr}(G:Grp P)
include G
theorem dcTo_vec (H K:List Int->Prop):∀k,k<=(ordP P).toNat->∀x∈dcTo P H K k,Vec P.orders x
 | 0,_,x,hx=>by cases hx
 | k + 1,hk,x,hx=>by
  by_cases h:dcSeen P H K (dcTo P H K k) k
  ·rw[dcTo_seen h] at hx;exact dcTo_vec H K k (by omega) x hx
  ·rw [dcTo_new h] at hx
   rcases List.mem_append.1 hx with h1|h1
   ·exact dcTo_vec H K k (by omega) x h1
   ·rw[List.mem_singleton.1 h1];exact elAt_vec G.v (k:Int) (by omega)
theorem dcSeen_dD {H K:List Int->Prop}{x:List Int}(hx:Vec P.orders x) {k:Nat}(hk:k<(ordP P).toNat) (h:dD (toE G H) (toE G K) (mkE G x) (mkE G (elAt P (k:Int)))):dcSeen P H K [x] k:=by
 obtain⟨a,b,ha,hb,e⟩:=h;refine⟨x,List.mem_singleton.2 rfl,a.1,b.1,ha,hb,?_⟩;have i:=congrArg Subtype.val e;rw[mkE_val G (elAt_vec G.v (k:Int) (by omega))] at i
 have j:rMul P (rMul P a.1 x) b.1=elAt P (k:Int):=by
  rw[i];show _=rMul P (rMul P a.1 (mkE G x).1) b.1;rw[mkE_val G hx]
 rw[j,num_elAt G.v (k:Int) (by omega) (by omega)]
theorem dD_seen {H K:List Int->Prop}(S:Sub P H) (R:Sub P K) {c:List (List Int)}(l:∀x∈c,Vec P.orders x) {k:Nat}(h:dcSeen P H K c k):∃x∈c,dD (toE G H) (toE G K) (mkE G x) (mkE G (elAt P (k:Int))):=by
 obtain⟨x,hx,a,b,ha,j,e⟩:=h;have i:=l x hx;refine⟨x,hx,⟨a,S.vec a ha⟩,⟨b,R.vec b j⟩,ha,j,Subtype.ext ?_⟩;rw[mkE_val G (elAt_vec G.v (k:Int) (by omega)),e];show _=rMul P (rMul P a (mkE G x).1) b
 rw[mkE_val G i];exact elAt_num G.v (G.mulV (G.mulV (S.vec a ha) i) (R.vec b j))
theorem Grp.dcTo_rep {H K:List Int->Prop}(S:Sub P H) (R:Sub P K):DRep (toE G H) (toE G K) ((dcTo P H K (ordP P).toNat).map (mkE G)):=by
 have m:=toE_sg (G:=G) S;have p:=toE_sg (G:=G) R
 have key:∀k,k<=(ordP P).toNat->(dcTo P H K k).Pairwise (λx y=>¬dD (toE G H) (toE G K) (mkE G x) (mkE G y))/\∀j,j<k->∃x∈dcTo P H K k,dD (toE G H) (toE G K) (mkE G x) (mkE G (elAt P (j:Int))):=by
  intro k;induction k with
  | zero=>intro _;exact⟨List.Pairwise.nil,λj e=>by omega⟩
  | succ k q=>
   intro hk;obtain⟨h1,h2⟩:=q (by omega);have i:=dcTo_vec G H K k (by omega);by_cases h:dcSeen P H K (dcTo P H K k) k
   ·rw [dcTo_seen h]
    refine⟨h1,λj e => ?_⟩;by_cases a:j=k
    ·subst a;exact dD_seen G S R i h
    ·exact h2 j (by omega)
   ·rw [dcTo_new h]
    refine⟨?_,λj e => ?_⟩
    ·rw [List.pairwise_append]
     refine⟨h1,List.pairwise_singleton _ _,λx hx y hy b => ?_⟩;rw[List.mem_singleton.1 hy] at b;obtain⟨z,r,l⟩:=dcSeen_dD G (i x hx) (by omega) b;rw[List.mem_singleton.1 r] at l;exact h ⟨x,hx,l⟩
    ·by_cases a:j=k
     ·subst a
      exact⟨_,List.mem_append.2 (.inr (List.mem_singleton.2 rfl)),dD_self m p _⟩
     ·obtain ⟨x,hx,b⟩:=h2 j (by omega)
      exact⟨x,List.mem_append.2 (.inl hx),b⟩
 obtain⟨h1,h2⟩:=key _ (Nat.le_refl _);refine⟨List.pairwise_map.2 h1,λg => ?_⟩;obtain⟨u,w⟩:=G.num_lt g.2;obtain⟨x,hx,b⟩:=h2 _ u;rw[w,mkE_el] at b;exact⟨_,List.mem_map.2 ⟨x,hx,rfl⟩,b⟩
end
section
variable {P:Pr}(G:Grp P)
include G
theorem Grp.els_len:((els G).length:Int)=ordP P:=by
 have q:=G.v.ordP_pos
 have h1:((els G).map (λx:El G=>(num P x.1).toNat)).Nodup:=by
  rw[List.nodup_iff_pairwise_ne,List.pairwise_map];refine(List.nodup_iff_pairwise_ne.1 (els_nodup G)).imp (λ{a b} i e=>i (Subtype.ext ?_));have ha:=G.num_lt a.2;have j:=G.num_lt b.2;rw[<-ha.2,<-j.2,e]
 have k:=(List.perm_ext_iff_of_nodup h1 (List.nodup_range (n:=(ordP P).toNat))).2 (λm=>by
  rw[List.mem_map,List.mem_range];constructor
  ·rintro⟨x,_,rfl⟩;exact(G.num_lt x.2).1
  ·intro r
   have l:=elAt_vec G.v (m:Int) (by omega);refine⟨mkE G (elAt P (m:Int)),els_mem G _,?_⟩;rw[mkE_val G l,num_elAt G.v (m:Int) (by omega) (by omega)];rfl)
 have p:=k.length_eq;rw[List.length_map,List.length_range] at p;omega
end
end Go.Proofs.YtoakmefajbbggaaGreat
namespace Go.Proofs.YtoakmefajbbggaaGreat
open Go.RowKit
def nrP (P:Pr) (H:List Int->Prop) (x:List Int):Prop:=Vec P.orders x/\∀y,H y->H (rConj P y x)
theorem Grp.nr_pw {P:Pr}(G:Grp P) {H:List Int->Prop}(S:Sub P H) {x:List Int}(h:nrP P H x) (k:Nat):nrP P H (pw P x k):=by
 induction k with
 | zero=>exact⟨G.oneV,λy hy=>by rw[pw_zero,G.conj_one (S.vec y hy)];exact hy⟩
 | succ k a=>exact⟨G.pw_vec h.1 _,λy hy=>by rw[pw_succ,<-G.conj_mul (S.vec y hy) (G.pw_vec h.1 k) h.1];exact h.2 _ (a.2 y hy)⟩
theorem Grp.nr_sub {P:Pr}(G:Grp P) {H:List Int->Prop}(S:Sub P H):Sub P (nrP P H):=
 ⟨λ_ h=>h.1,⟨G.oneV,λy hy=>by rw[G.conj_one (S.vec y hy)];exact hy⟩,
  λx z hx a=>⟨G.mulV hx.1 a.1,λy hy=>by rw[<-G.conj_mul (S.vec y hy) hx.1 a.1];exact a.2 _ (hx.2 y hy)⟩,
  λx hx=>by obtain⟨k,hk⟩:=G.inv_pw hx.1;rw[hk];exact G.nr_pw S hx k⟩
theorem movesInto_ok (P:Pr) (G:Grp P) (w:World) (p N I O:Value) (U:List (List Int)) (X:List Int) (H:List Int->Prop) (J Q R T:Nat->Prop) (S:Sub P H) (K:PresP J w p P) (V:Rows2 Q w N U) (W:Rows2 R w I (cseq P H)) (hx:Ints T w O X) (Y:∀x∈U,Vec P.orders x) (Z:Vec P.orders X) :
  Calls Tryz.prog 80 #[p,N,I,O] w (Ret w λ_ v=>∃r:Bool,v=.bool r/\(r=true↔∀y∈U,H (rConj P y X))):=by
 have hP:=G.v;have ad:=hP.n6;obtain⟨pb,po,rfl⟩:=K.shape;obtain⟨au,capu,rfl,_,hul⟩:=Sl.shape V;obtain⟨av,nv,capv,hvv⟩:∃a n c,I=Value.slice a n c:=by obtain⟨a,c,e,_⟩:=Sl.shape W;exact⟨_,_,_,e⟩
 subst hvv;obtain⟨ax,capx,rfl,_,_⟩:=hx.shape;have F:=Lib.hid (And.intro Y Z);clear Y Z;go_enter Tryz.func80,Tryz.ntmps80;go_wp2;go_loopw [13] (λL wr=>∃(i:Nat),L=.int .i64 i/\i<=U.length/\Ext w wr/\Hid (∀k,k<i->H (rConj P (gt U k) X))) (λL _=>U.length-(intOf L).toNat)
 case atStart=>exact⟨0,rfl,by omega,grown_refl _ _,Lib.hid (λk hk=>by omega)⟩
 case round=>
  obtain⟨i,rfl,hi,l,hH⟩:=hrel;by_cases q:i<U.length
  ·have aa:(i:Int)<U.length:=by omega
   obtain⟨b,off,ay,capy,rfl,_,_,hc,hy⟩:=Rows2.at V i q;have D:=l.cell hc (by simp);have u:=F.out.1 _ (gtMem q);obtain⟨y,z⟩:∃y,y=gt U i:=⟨_,rfl⟩;rw[<-z] at D hy u;have E:=Lib.hid (And.intro z u);clear z u hc;go_wp2_with fail
   refine Calls.mono (conjugate_ok P hP wr _ _ _ y X J Q T (K.ext l) (Ints.ext hy l) (hx.ext l) E.out.2 F.out.2) ?_;rintro eC wC ⟨vC,rfl,hgC,A⟩;rw[G.iConj_eq E.out.2 F.out.2] at A;have B:=G.conjV E.out.2 F.out.2;have C:=A.ints (by rw[B.1];omega);obtain⟨aC,nC,capC,hvC⟩:∃a n c,vC=Value.slice a n c:=by obtain⟨a,c,e,_⟩:=C.shape;exact⟨_,_,_,e⟩
   subst hvC;have M:=Lib.hid B;clear B A D;have j:=grown_trans l hgC;go_wp2_with fail
   refine Calls.mono (isMember_ok P G wC _ _ _ H (rConj P y X) J R _ S (K.ext j) (Rows2.ext W j) C M.out) ?_;rintro eM wM ⟨vM,rfl,hgM,r,rfl,hr⟩;have HR:=Lib.hid hr;clear hr C;cases r with
   | true=>
    go_wp2;go_roundw
    case rel=>exact⟨i+1,by go_num,by omega,grown_trans j hgM,Lib.hid (λk hk=>by
     rcases Nat.lt_succ_iff_lt_or_eq.1 hk with h|h
     ·exact hH.out k h
     ·rw[h,<-E.out.1];exact HR.out.1 (by simp))⟩
    case measure=>simp[intOf];omega
   | false=>
    go_wp2;go_ret
    exact ⟨_,rfl,grown_trans j hgM,false,rfl,by
     constructor
     ·intro h;cases h
     ·intro h
      have:=HR.out.2 (by rw[E.out.1];exact h _ (gtMem q));cases this⟩
  ·have ag:i=U.length:=by omega
   have HF:=Lib.hid (show ∀y∈U,H (rConj P y X) from λy hy=>by
    obtain⟨m,hm,rfl⟩:=mem_gt hy;exact hH.out m (by omega))
   go_wp2;go_ret
   first
    | exact⟨_,rfl,l,true,rfl,by simpa using HF.out⟩
    | exact⟨_,rfl,l,.inr ⟨rfl,HF.out⟩⟩
end Go.Proofs.YtoakmefajbbggaaGreat
namespace Go.Proofs.YtoakmefajbbggaaGreat
section
variable {P:Pr}(G:Grp P)
include G
theorem Grp.cj_kept {C:List Int->Prop}(S:Sub P C) {g:List Int}(a:Vec P.orders g) (h:∀x,C x->C (rConj P x g)):cjS P C g=C:=by
 have e:=G.invV a
 have b:∀k x,C x->C (rConj P x (pw P g k)):=λk=>by
  induction k with
  | zero=>intro x hx;rw[pw_zero,G.conj_one (S.vec x hx)];exact hx
  | succ k i=>
   intro x hx;rw[pw_succ,<-G.conj_mul (S.vec x hx) (G.pw_vec a k) a];exact h _ (i x hx)
 refine funext λx=>propext ⟨?_,λhx => ?_⟩
 ·rintro⟨y,hy,rfl⟩;exact h y hy
 ·obtain ⟨k,hk⟩:=G.inv_pw a
  have h1:=b k x hx;rw[<-hk] at h1;refine⟨_,h1,?_⟩;rw[G.conj_mul (S.vec x hx) e a,G.inv_mul a,G.conj_one (S.vec x hx)]
end
section
variable {P:Pr}(G:Grp P)
include G
theorem Grp.cseq_one {H K:List Int->Prop}(S:Sub P H) (T:Sub P K) (h:cseq P H=cseq P K):H=K:=by
 rw[<-G.genP_cseq S,<-G.genP_cseq T,h]
theorem Grp.nr_cj {H:List Int->Prop}(S:Sub P H) {w:List Int}(h:nrP P H w):cjS P H w=H:=G.cj_kept S h.1 h.2
theorem Grp.cj_same {H:List Int->Prop}(S:Sub P H) {x t:List Int}(hx:Vec P.orders x) (a:Vec P.orders t):cjS P H x=cjS P H t↔nrP P H (rMul P x (rInv P t)):=by
 have b:=G.invV a;have i:=G.mulV hx b;constructor
 ·intro h
  refine⟨i,λy hy => ?_⟩;have h1:cjS P H x (rConj P y x):=⟨y,hy,rfl⟩;rw[h] at h1;obtain⟨z,j,e⟩:=h1;rw[<-G.conj_mul (S.vec y hy) hx b,e,G.conj_back (S.vec z j) a];exact j
 ·intro h
  have e:rMul P (rMul P x (rInv P t)) t=x:=by rw[G.ass hx b a,G.inv_mul a,G.grp.er _ hx]
  rw[<-e,<-G.cjS_mul S i a,G.nr_cj S h]
end
open Classical in
noncomputable def fdL (P:Pr) (H:List Int->Prop):Nat->List (List (List Int))
 | 0=>[]
 | t+1=>if cseq P (cjS P H (elAt P t))∈fdL P H t then fdL P H t else fdL P H t++[cseq P (cjS P H (elAt P t))]
theorem fdL_yes {P:Pr}{H:List Int->Prop}{t:Nat}(h:cseq P (cjS P H (elAt P t))∈fdL P H t):fdL P H (t+1)=fdL P H t:=by unfold fdL;rw[if_pos h];cases t<;>rfl
theorem fdL_no {P:Pr}{H:List Int->Prop}{t:Nat}(h:¬cseq P (cjS P H (elAt P t))∈fdL P H t):fdL P H (t+1)=fdL P H t++[cseq P (cjS P H (elAt P t))]:=by
 rw[fdL,if_neg h]
theorem fdL_ix (P:Pr) (H:List Int->Prop) (t:Nat):∃l:List Nat,fdL P H t=l.map (λi=>cseq P (cjS P H (elAt P (i:Nat))))/\(∀i∈l,i<t)/\(l.map (λi=>cseq P (cjS P H (elAt P (i:Nat))))).Nodup/\∀j,j<t->cseq P (cjS P H (elAt P (j:Nat)))∈fdL P H t:=by
 induction t with
 | zero=>exact⟨[],rfl,by simp,by simp,λj m=>by omega⟩
 | succ t u=>
  obtain⟨l,h1,h2,h3,r⟩:=u;by_cases h:cseq P (cjS P H (elAt P t))∈fdL P H t
  ·rw [fdL_yes h]
   refine⟨l,h1,λi p=>by have:=h2 i p;omega,h3,λj m => ?_⟩;rcases Nat.lt_succ_iff_lt_or_eq.1 m with k|k
   ·exact r j k
   ·rw[k];exact h
  ·rw [fdL_no h]
   refine⟨l++[t],by rw[List.map_append,<-h1];rfl,λi p => ?_,?_,λj m => ?_⟩
   ·rcases List.mem_append.1 p with k|k
    ·have:=h2 i k;omega
    ·have:i=t:=by simpa using k
     omega
   ·rw [List.map_append,List.nodup_append]
    refine⟨h3,by simp,λa ha b w e=>h ?_⟩;have q:b=cseq P (cjS P H (elAt P t)):=by simpa using w
    rw[<-q,<-e,h1];exact ha
   ·rcases Nat.lt_succ_iff_lt_or_eq.1 m with k|k
    ·exact List.mem_append_left _ (r j k)
    ·rw[k];exact List.mem_append_right _ (by simp)
theorem nodup_inj {α m:Type}{f:α->m}{l:List α}(h:(l.map f).Nodup) {a b:α}(ha:a∈l) (k:b∈l) (e:f a=f b):a=b:=by
 induction l with
 | nil=>cases ha
 | cons c l p=>
  rw[List.map_cons,List.nodup_cons] at h;rcases List.mem_cons.1 ha with rfl|j
  ·rcases List.mem_cons.1 k with rfl|i
   ·rfl
   ·exact absurd (List.mem_map.2 ⟨b,i,e.symm⟩) h.1
  ·rcases List.mem_cons.1 k with rfl|i
   ·exact absurd (List.mem_map.2 ⟨a,j,e⟩) h.1
   ·exact p h.2 j i
theorem Grp.fd_count {P:Pr}(G:Grp P) {H:List Int->Prop}(S:Sub P H):((fdL P H (ordP P).toNat).length:Int)*szP P (nrP P H)=ordP P:=by
 have hP:=G.v;have K:=hP.ordP_pos;obtain⟨L,h1,h2,A,h4⟩:=fdL_ix P H (ordP P).toNat;have y:=G.nr_sub S;let C:Nat->El G:=λi=>⟨elAt P (i:Nat),elAt_vec hP _ (by omega)⟩
 let m:Nat->El G:=λi=>(C i)⁻¹
 have key:∀i j:Nat,eqv (toE G (nrP P H)) (m i) (m j)↔cseq P (cjS P H (elAt P (i:Nat)))=cseq P (cjS P H (elAt P (j:Nat))):=λi j=>by
  have p:=elAt_vec hP (i:Int) (by omega);have q:=elAt_vec hP (j:Int) (by omega)
  have e:eqv (toE G (nrP P H)) (m i) (m j)↔nrP P H (rMul P (elAt P (i:Nat)) (rInv P (elAt P (j:Nat)))):=by
   show nrP P H (rMul P (rInv P (rInv P (elAt P (i:Nat)))) (rInv P (elAt P (j:Nat))))↔_
   rw[G.inv_inv p]
  rw[e,<-G.cj_same S p q];exact⟨λh=>by rw[h],λh=>G.cseq_one (G.cj_sub S p) (G.cj_sub S q) h⟩
 have r:cd (λ_:El G=>True)=(ordP P).toNat:=by
  rw[cd_list (H:=λ_:El G=>True) (l:=(List.range (ordP P).toNat).map C) ?_ ?_]
  ·rw[List.length_map,List.length_range]
  ·rw [List.nodup_iff_pairwise_ne,List.pairwise_map]
   refine(List.pairwise_lt_range).imp_of_mem (λ{a b} ha D w e => ?_);have M:elAt P (a:Nat)=elAt P (b:Nat):=congrArg Subtype.val e;have O:=List.mem_range.1 ha;have Q:=List.mem_range.1 D;have R:=num_elAt hP (a:Int) (by omega) (by omega);have T:=num_elAt hP (b:Int) (by omega) (by omega);rw[M,T] at R;omega
  ·intro x
   refine⟨λ_=>trivial,λ_=>List.mem_map.2 ⟨(num P x.1).toNat,?_,Subtype.ext ?_⟩⟩
   ·have:=num_bd hP x.2;rw[List.mem_range];omega
   ·have:=num_bd hP x.2
    show elAt P (((num P x.1).toNat:Nat):Int)=x.1
    rw[show(((num P x.1).toNat:Nat):Int)=num P x.1 by omega];exact elAt_num hP x.2
 have E:=cd_mul (N:=toE G (nrP P H)) (B:=λ_:El G=>True) (toE_sg y) (ts:=L.map m) ?_ (λ_ _ _ _=>trivial) ?_ ?_
 ·rw [r,List.length_map] at E
  have U:=order_cd (G:=G) y;rw[h1,List.length_map];unfold szP;rw[U,<-Int.natCast_mul,<-E];omega
 ·rw [List.nodup_iff_pairwise_ne,List.pairwise_map]
  have F:=List.nodup_iff_pairwise_ne.1 A;rw[List.pairwise_map] at F;refine F.imp (λ{a b} w e=>w ?_);have:=(key a b).1 (by rw[e];exact eqv_refl (toE_sg y) _);exact this
 ·intro t V u W h
  obtain⟨i,z,rfl⟩:=List.mem_map.1 V;obtain⟨j,X,rfl⟩:=List.mem_map.1 W;rw[nodup_inj A z X ((key i j).1 h)]
 ·intro x _
  have I:=G.invV x.2;have D:=num_bd hP I;have k:=h4 (num P (rInv P x.1)).toNat (by omega);rw[h1] at k;obtain⟨i,z,Y⟩:=List.mem_map.1 k;refine⟨m i,List.mem_map.2 ⟨i,z,rfl⟩,?_⟩;have J:=(key i (num P (rInv P x.1)).toNat).2 Y
  have Z:m (num P (rInv P x.1)).toNat=x:=by
   apply Subtype.ext;show rInv P (elAt P (((num P (rInv P x.1)).toNat:Nat):Int))=x.1
   rw[show(((num P (rInv P x.1)).toNat:Nat):Int)=num P (rInv P x.1) by omega,elAt_num hP I,G.inv_inv x.2]
  rw[Z] at J;exact J
end Go.Proofs.YtoakmefajbbggaaGreat
namespace Go.Proofs.YtoakmefajbbggaaGreat
open Go.RowKit
theorem isZero_true {l:List Int} : isZeroB l=true↔∀k,k<l.length->gt l k=0:=by
 unfold isZeroB allB;simp
def cycP (P:Pr) (X y:List Int):Prop:=∃k,y=pw P X k
theorem Grp.cyc_sub {P:Pr}(G:Grp P) {X:List Int}(a:Vec P.orders X):Sub P (cycP P X):=
 G.sub_closed (λ_ ⟨k,e⟩=>by rw[e];exact G.pw_vec a k) ⟨0,rfl⟩ (λ_ _ ⟨k,e⟩ ⟨l,e2⟩=>⟨k+l,by rw[e,e2,G.pw_add a]⟩)
theorem cyc_min {P:Pr}{X:List Int}{K:List Int->Prop}(S:Sub P K) (a:K X):∀x,cycP P X x->K x:=λ_ ⟨k,e⟩=>by rw[e];exact S.pw a k
theorem Grp.cyc_self {P:Pr}(G:Grp P) {X:List Int}(a:Vec P.orders X):cycP P X X:=⟨1,(G.pw_one a).symm⟩
theorem hallTo_dvd1 {P:Pr}(pr:List Int) (d:Nat):hallTo P pr d∣hallTo P pr (d+1):=by
 by_cases h:gt P.orders d∈pr
 ·rw[hallTo_yes h];exact Int.dvd_mul_right _ _
 ·rw[hallTo_no h];exact Int.dvd_refl _
theorem hallTo_dvd {P:Pr}(pr:List Int) {d n:Nat}(h:d<=n):hallTo P pr d∣hallTo P pr n:=by
 induction n with
 | zero=>
  have:d=0:=by omega
  subst this;exact Int.dvd_refl _
 | succ n a=>
  rcases Nat.lt_or_ge d (n+1) with h1|h1
  ·exact Int.dvd_trans (a (by omega)) (hallTo_dvd1 pr n)
  ·have:d=n+1:=by omega
   subst this;exact Int.dvd_refl _
theorem orderOfElement2_ok (P:Pr) (G:Grp P) (w:World) (p x:Value) (X:List Int) (Sp Sx:Nat->Prop) (O:PresP Sp w p P) (hx:Ints Sx w x X) (Q:Vec P.orders X) :
  Calls Tryz.prog 179 #[p,x] w (Ret w λ_ v=>∃m:Int,v=.int .i64 m/\1<=m/\m<=729/\∀pr:List Int,(∀d,pv (toE G (cycP P X)) d->gt P.orders d∈pr)->m∣hallO P pr):=by
 have hP:=G.v;have ai:=hP.n6;obtain⟨pb,po,rfl⟩:=O.shape;obtain⟨ao,capo,hco0,R⟩:=O.ordAt;have S:=Lib.hid hco0;clear hco0;have D:=hP.le729;have q:∀d,d<=P.orders.length->prodTo P.orders d<=729:=λd K=>by have:=hP.pre d K;omega
 have r:=Lib.hid q;clear q D;go_enter Tryz.func179,Tryz.ntmps179;go_wp2;go_loopw [5,6,7] (λkv dv nv wr=>∃(d:Nat) (m:Int),dv=.int .i64 d/\kv=.int .i64 m/\d<=P.orders.length/\1<=m/\m<=prodTo P.orders d/\Ext w wr/\Ints Any wr nv (pw P X m.toNat)/\T P d (pw P X m.toNat)/\Hid (∀pr:List Int,(∀d,pv (toE G (cycP P X)) d->gt P.orders d∈pr)->m∣hallTo P pr d)) (λ_ dv _ _=>P.orders.length-(intOf dv).toNat)
 case atStart=>
  have e:pw P X (1:Int).toNat=X:=G.pw_one Q;exact⟨0,1,rfl,rfl,by omega,by omega,by simp[prodTo],Ext.refl _,by rw[e];exact Ints.sub hx (λ_ _ _=>trivial),by rw[e];exact T_zero.2 Q,Lib.hid (λ_ _=>Int.one_dvd _)⟩
 case round=>
  obtain⟨d,m,rfl,rfl,K,hm1,E,B,u,L,y⟩:=hrel;obtain⟨Y,U⟩:∃Y,Y=pw P X m.toNat:=⟨_,rfl⟩;rw[<-U] at u L;have M:=Lib.hid U;clear U;have V:m<=729:=by have:=r.out d K;omega
  have ak:Y.length<=P.orders.length/\P.orders.length<=Y.length:=by rw[L.1.1];omega
  obtain⟨an,capn,rfl,_,_⟩:=u.shape;have l:=Lib.hid (And.intro L E);clear L E;cases hz:isZeroB Y with
  | true=>
   have h0:∀pr:List Int,(∀d,pv (toE G (cycP P X)) d->gt P.orders d∈pr)->m∣hallO P pr:=λpr h=>Int.dvd_trans (y.out pr h) (hallTo_dvd pr K);have H0:=Lib.hid h0;clear h0;go_wp2_with (go_at_call 187;refine(isZero_ok _ _ wr Any u).mono ?_;rintro C w1 ⟨rfl,rfl⟩)
   go_ret;exact⟨_,rfl,B,m,rfl,hm1,V,H0.out⟩
  | false=>
   have i:d<P.orders.length:=by
    rcases Nat.lt_or_ge d P.orders.length with h|h
    ·exact h
    ·exfalso
     have:isZeroB Y=true:=isZero_true.2 (λk hk=>l.out.1.2 k (by omega));rw[hz] at this;cases this
   obtain⟨b,off,hab,_,_,hc⟩:=Ints.at u d (by omega);cases hab
   have ap:(d:Int)<Y.length:=by omega
   by_cases a:gt Y d=0
   ·have hb:(gt Y d != 0)=false:=by simp[a]
    have F:=l.out.1.up a;have z:Hid (∀pr:List Int,(∀d,pv (toE G (cycP P X)) d->gt P.orders d∈pr)->m∣hallTo P pr (d+1)):=Lib.hid (λpr h=>Int.dvd_trans (y.out pr h) (hallTo_dvd1 pr d))
    have j:m<=prodTo P.orders (d+1):=by
     have h1:=l.out.2;have h2:=hP.ord7 d i;have h3:prodTo P.orders d*1<=prodTo P.orders d*gt P.orders d:=Int.mul_le_mul_of_nonneg_left (by omega) (by omega);simp only[prodTo];omega
    have H:=Lib.hid (And.intro F j);clear F j;clear a;go_wp2_with (go_at_call 187;refine(isZero_ok _ _ wr Any u).mono ?_;rintro C w1 ⟨rfl,rfl⟩)
    go_roundw
    case rel=>exact⟨d+1,m,by go_num,rfl,by omega,hm1,H.out.2,B,by rw[<-M.out];exact u,by rw[<-M.out];exact H.out.1,z⟩
    case measure=>simp[intOf];omega
   ·have hb:(gt Y d != 0)=true:=by simp[a]
    have ho:=hP.ord7 d i
    have z:Hid (∀pr:List Int,(∀d,pv (toE G (cycP P X)) d->gt P.orders d∈pr)->m*gt P.orders d∣hallTo P pr (d+1)):=Lib.hid (λpr h=>by
     have W:pv (toE G (cycP P X)) d:=⟨i,⟨Y,l.out.1.1⟩,⟨m.toNat,M.out⟩,l.out.1.2,a⟩;rw[hallTo_yes (h d W)];exact Int.mul_dvd_mul (y.out pr h) (Int.dvd_refl _))
    obtain⟨b2,off2,hab2,_,_,hc2⟩:=Ints.at (R.ext B) d i;cases hab2
    have I:=B.cell S.out (by simp);have ar:(d:Int)<P.orders.length:=by omega
    have A:=G.pw_order i l.out.1
    have C:pw P Y (gt P.orders d).toNat=pw P X (m*gt P.orders d).toNat:=by
     rw[M.out,<-G.pw_mul Q];congr 1
     have:((m.toNat*(gt P.orders d).toNat:Nat):Int)=m*gt P.orders d:=by
      rw[Int.natCast_mul,show((m.toNat:Nat):Int)=m by omega,show(((gt P.orders d).toNat:Nat):Int)=gt P.orders d by omega]
     omega
    rw[C] at A;have e2:iPow P Y (gt P.orders d)=pw P X (m*gt P.orders d).toNat:=by rw[G.iPow_eq l.out.1.1];exact C
    have j:m*gt P.orders d<=prodTo P.orders (d+1):=Int.mul_le_mul_of_nonneg_right l.out.2 (by omega);have au:prodTo P.orders (d+1)<=729:=r.out (d+1) (by omega)
    have Z:1<=m*gt P.orders d:=by
     have:1*1<=m*gt P.orders d:=Int.mul_le_mul hm1 (by omega) (by omega) (by omega);omega
    have av:IntKind.i64.wrap (m*gt P.orders d)=m*gt P.orders d:=IntWalk.i64_in _ (by omega);have N:=Lib.hid (And.intro e2 (And.intro A j));clear C e2 A j a;go_wp2_with (first|(go_at_call 187;refine(isZero_ok _ _ wr Any u).mono ?_;rintro C w1 ⟨rfl,rfl⟩)|fail)
    refine Calls.mono (power_ok P hP wr _ _ _ (gt P.orders d) _ _ (O.ext B) u l.out.1.1 (by omega)) ?_;rintro eA wA ⟨vA,rfl,hgA,J⟩;rw[N.out.1] at J;have ae:=hgA.cell I (by simp);have af:=hgA.cell hc2 (by simp);have aa:Ints Any wA vA (pw P X (m*gt P.orders d).toNat):=J.ints (by rw[N.out.2.1.1.1];omega);clear I hc2 hc;go_wp2;go_roundw
    case rel=>exact⟨d+1,m*gt P.orders d,by go_num,rfl,by omega,Z,N.out.2.2,grown_trans B hgA,aa,N.out.2.1,z⟩
    case measure=>simp[intOf];omega
theorem cnS_length (P:Pr) (u:List (List Int)) (S:List (List (List Int))):∀t,(cnS P u S t).1.length=S.length+(cnS P u S t).2
 | 0=>rfl
 | t + 1=>by
  have a:=cnS_length P u S t;by_cases h:cjU P u (elAt P (t:Int))∈(cnS P u S t).1
  ·rw[cnS_no h];exact a
  ·rw [cnS_yes h]
   simp only[List.length_append,List.length_singleton];omega
section
variable {P:Pr}(G:Grp P)
include G
end
end Go.Proofs.YtoakmefajbbggaaGreat
namespace Go.Proofs.YtoakmefajbbggaaGreat
open Go.Proofs Go.Shelf Go.RowKit Go.Lib Go.Sort
def cmpS (P:Pr) (u v:List (List Int)):Int:=if cmpI (prodU P u u.length) (prodU P v v.length)=0 then cmpL u.flatten v.flatten else cmpI (prodU P u u.length) (prodU P v v.length)
theorem cmpS_neg {P:Pr}{u v:List (List Int)} : cmpS P u v<0↔subLt P u v:=by
 unfold cmpS subLt;rcases cmpI_cases (prodU P u u.length) (prodU P v v.length) with⟨h,k⟩|⟨h,k⟩|⟨h,k⟩<;>rw[h]
 ·rw[if_neg (by omega)];exact⟨λ_ => .inl k,λ_=>by omega⟩
 ·rw[if_pos rfl];exact⟨λh => .inr ⟨k,h⟩,λh=>(h.elim (λh=>(by omega)) (λh=>h.2))⟩
 ·rw[if_neg (by omega)];exact⟨λh=>by omega,λh=>by omega⟩
theorem cmpS_swap (P:Pr) (u v:List (List Int)):cmpS P v u = - cmpS P u v:=by
 unfold cmpS;rw[cmpL_swap u.flatten v.flatten];rcases cmpI_cases (prodU P u u.length) (prodU P v v.length) with⟨h,k⟩|⟨h,k⟩|⟨h,k⟩<;>rcases cmpI_cases (prodU P v v.length) (prodU P u u.length) with⟨a,k'⟩|⟨a,k'⟩|⟨a,k'⟩<;>rw[h,a]
 all_goals first|omega|rfl
theorem swo_cmpS (P:Pr):SWO (ltOf (cmpS P)) where
 irrefl x:=by
  have:=cmpS_swap P x x;unfold ltOf;rw[decide_eq_false_iff_not];omega
 trans x y z h k:=by
  unfold ltOf at *;rw[decide_eq_true_iff] at *;exact cmpS_neg.2 (subLt_trans (cmpS_neg.1 h) (cmpS_neg.1 k))
 ntrans x y z h k:=by
  unfold ltOf at *;rw[decide_eq_false_iff_not] at *;intro i;have b:=cmpS_neg.1 i;unfold subLt at b;rw[cmpS_neg] at h k;unfold subLt at h k;have h1:=cmpL_swap x.flatten y.flatten;have m:=cmpL_swap y.flatten z.flatten;have p:=cmpL_swap x.flatten z.flatten;rcases b with b|⟨e,b⟩
  ·have:¬prodU P x x.length<prodU P y y.length:=λa=>h (.inl a)
   have:¬prodU P y y.length<prodU P z z.length:=λa=>k (.inl a);omega
  ·have hx:¬prodU P x x.length<prodU P y y.length:=λa=>h (.inl a)
   have hy:¬prodU P y y.length<prodU P z z.length:=λa=>k (.inl a);have j:prodU P x x.length=prodU P y y.length:=by omega
   have l:prodU P y y.length=prodU P z z.length:=by omega
   have c1:¬cmpL x.flatten y.flatten<0:=λa=>h (.inr ⟨j,a⟩);have c2:¬cmpL y.flatten z.flatten<0:=λa=>k (.inr ⟨l,a⟩);have q:=cmpL_le_trans z.flatten y.flatten x.flatten (by omega) (by omega);omega
end Go.Proofs.YtoakmefajbbggaaGreat
namespace Go.Proofs.YtoakmefajbbggaaGreat
open Go.RowKit
section
variable {P:Pr}
def Usable (G:Grp P) (pr:List Int) (U:List (List Int)) (t:Nat):Prop:=
 ¬ gP P U (elAt P (t:Int))/\prodU P (cseq P (extP P (gP P U) (elAt P (t:Int)))) (cseq P (extP P (gP P U) (elAt P (t:Int)))).length∣hallO P pr /\
  ∀d,pv (toE G (cycP P (elAt P (t:Int)))) d->gt P.orders d∈pr
theorem hall_use (G:Grp P) (pr:List Int) {u:List (List Int)}(e:SubB P u) (i:prodU P u u.length∣hallO P pr) (a:prodU P u u.length≠hallO P pr):∃t,t<(ordP P).toNat/\Usable G pr u t:=by
 obtain⟨t,h1,h2,h3,h4⟩:=hall_step G pr e i a;have b:=G.elAtV h1;exact⟨t,h1,h2,h3,h4 _ (G.cyc_sub b) (G.cyc_self b) (λK j k=>cyc_min j k)⟩
structure GrI (G:Grp P) (pr:List Int) (U U':List (List Int)) (t:Nat):Prop where
 sub:SubB P U'
 dv:prodU P U' U'.length∣hallO P pr
 up:prodU P U U.length<prodU P U' U'.length\/(U'=U/\∀j,j<t->¬Usable G pr U j)
theorem GrI.start {G:Grp P}{pr:List Int}{U:List (List Int)}(a:SubB P U) (b:prodU P U U.length∣hallO P pr):GrI G pr U U 0:=⟨a,b,.inr ⟨rfl,λj e=>by omega⟩⟩
theorem GrI.skip {G:Grp P}{pr:List Int}{U U':List (List Int)}{t:Nat}(h:GrI G pr U U' t) (b:¬Usable G pr U' t):GrI G pr U U' (t+1):=by
 refine⟨h.sub,h.dv,?_⟩;rcases h.up with h1|⟨h1,h2⟩
 ·exact .inl h1
 ·refine .inr ⟨h1,λj e => ?_⟩
  rcases Nat.lt_succ_iff_lt_or_eq.1 e with a|a
  ·exact h2 j a
  ·subst a;rw[<-h1];exact b
theorem ext_sub (G:Grp P) {U:List (List Int)}(a:SubB P U) {x:List Int}(hx:Vec P.orders x):Sub P (extP P (gP P U) x):=
 G.genP_sub (λy hy=>hy.elim (λh=>(G.subB a).vec y h) (λh=>h▸hx))
theorem GrI.take {G:Grp P}{pr:List Int}{U U':List (List Int)}{t:Nat}(h:GrI G pr U U' t) (i:t<(ordP P).toNat) (j:¬gP P U' (elAt P (t:Int)))
  (k:prodU P (cseq P (extP P (gP P U') (elAt P (t:Int)))) (cseq P (extP P (gP P U') (elAt P (t:Int)))).length∣hallO P pr):GrI G pr U (cseq P (extP P (gP P U') (elAt P (t:Int)))) (t+1):=by
 have l:=G.elAtV i;have e:=ext_sub G h.sub l;refine⟨G.subB_cseq e,k,.inl ?_⟩;have h1:=G.order_le (G.subB h.sub) e (λx hx=>genP_mem (.inl hx));have m:cseq P (genP P λx=>x∈U')=U':=h.sub.2.symm;rw[m] at h1
 have b:prodU P U' U'.length<prodU P (cseq P (extP P (gP P U') (elAt P (t:Int)))) (cseq P (extP P (gP P U') (elAt P (t:Int)))).length:=by
  rcases Int.lt_or_eq_of_le h1.1 with a|a
  ·exact a
  ·exact absurd (h1.2 a _ (genP_mem (.inr rfl))) j
 rcases h.up with a|⟨a,_⟩
 ·omega
 ·rw [a] at b
  rw[a];exact b
theorem GrI.fin {G:Grp P}{pr:List Int}{U U':List (List Int)}(h:GrI G pr U U' (ordP P).toNat) (b:SubB P U) (e:prodU P U U.length∣hallO P pr) (a:prodU P U U.length≠hallO P pr):prodU P U U.length<prodU P U' U'.length:=by
 rcases h.up with h1|⟨_,i⟩
 ·exact h1
 ·obtain ⟨t,j,hU⟩:=hall_use G pr b e a
  exact absurd hU (i t j)
theorem genP_snoc (P:Pr) (U:List (List Int)) (x:List Int):genP P (λz=>z∈U++[x])=extP P (gP P U) x:=by
 unfold extP;rw[genP_or];congr 1
 funext z
 rw[List.mem_append,List.mem_singleton]
theorem hall_pos (G:Grp P) (pr:List Int):1<=hallO P pr/\hallO P pr<=729:=hallTo_729 G.v pr _ (Nat.le_refl _)
theorem dvd_le {a b:Int}(h:a∣b) (e:1<=b):a<=b:=Int.le_of_dvd (by omega) h
theorem emod_dvd {a b:Int} : a%b=0↔b∣a:=⟨Int.dvd_of_emod_eq_zero,Int.emod_eq_zero_of_dvd⟩
end
noncomputable def cjTo (P:Pr) (u:List (List Int)) (t:Nat):List (List (List Int)):=(cnS P u [] t).1
theorem cjTo_len (P:Pr) (u:List (List Int)) (t:Nat):(cjTo P u t).length<=t:=by
 have h1:=cnS_length P u [] t;have a:=cnS_le P u [] t;unfold cjTo;simp only[List.length_nil] at h1;omega
theorem cjTo_facts {P:Pr}(G:Grp P) {u:List (List Int)}(a:SubB P u) (t:Nat) (b:t<=(ordP P).toNat):SeenC P (cjTo P u t):=G.cnS_seen a ⟨λv h=>(by cases h),List.nodup_nil⟩ t b
theorem cjTo_hall {P:Pr}(G:Grp P) {pr:List Int}{u:List (List Int)}(a:HallP P pr u) (v:List (List Int)):v∈cjTo P u (ordP P).toNat↔HallP P pr v:=by
 unfold cjTo;rw[cnS_mem,hall_all G a];simp
theorem hallL_of {P:Pr}(G:Grp P) {pr:List Int}{u:List (List Int)}(q:HallP P pr u) {b:List (List (List Int))}(k:b.Perm (cjTo P u (ordP P).toNat)) (w:b.Pairwise (λx y=>0<=cmpS P y x)):HallL P pr b:=by
 have r:=cjTo_facts G q.1 _ (Nat.le_refl _);have l:b.Nodup:=k.symm.nodup r.one;have a:∀v∈b,SubB P v:=λv z=>r.sub v (k.mem_iff.1 z);refine⟨?_,λv=>(k.mem_iff).trans (cjTo_hall G q v)⟩;refine List.pairwise_iff_getElem.2 λi j m p e => ?_;have h1:=List.pairwise_iff_getElem.1 w i j m p e;have A:=List.pairwise_iff_getElem.1 l i j m p e;refine Classical.byContradiction λB => ?_;have:=subLt_total G (a _ (List.getElem_mem m)) (a _ (List.getElem_mem p)) A B;rw[<-cmpS_neg] at this;omega
section
variable {P:Pr}
theorem hall_some (G:Grp P) (pr:List Int):∃u,HallP P pr u:=by
 obtain⟨A,SA,b⟩:=hall_ex G (λq=>q∈pr);have S:=ofE_sub SA;refine⟨cseq P (ofE A),G.subB_cseq S,?_⟩;rw[order_cd (G:=G) S,toE_ofE,cd_eq SA,hallO_eq G,Int.natCast_inj];exact prd_congr _ _ (λk _ hk=>(b k).trans ⟨λa=>a.2,λa=>⟨by omega,a⟩⟩)
theorem HallL.pos (G:Grp P) {pr:List Int}{L:List (List (List Int))}(h:HallL P pr L):0<L.length:=by
 obtain⟨u,a⟩:=hall_some G pr;exact List.length_pos_of_mem ((h.2 u).2 a)
theorem HallL.nodup {pr:List Int}{L:List (List (List Int))}(h:HallL P pr L):L.Nodup:=
 List.nodup_iff_pairwise_ne.2 (h.1.imp (λ{a b} i e=>by subst e;exact subLt_irrefl i))
theorem HallL.len (G:Grp P) {pr:List Int}{L:List (List (List Int))}(h:HallL P pr L):L.length<=729:=by
 obtain⟨u,a⟩:=hall_some G pr;have h1:=nodup_sub_len L (cjTo P u (ordP P).toNat) h.nodup (λv b=>(cjTo_hall G a v).2 ((h.2 v).1 b));have e:=cjTo_len P u (ordP P).toNat;have i:ordP P<=729:=G.v.le729;omega
theorem HallL.row (G:Grp P) {pr:List Int}{L:List (List (List Int))}(h:HallL P pr L):∀u∈L,u.length<=6/\∀x∈u,x.length<=6:=λu b=>by
 have a:=((h.2 u).1 b).1;have:=G.sub_len a;have:=G.v.n6;exact⟨by omega,λx hx=>by rw[(a.1 x hx).1];omega⟩
end
open Classical in
noncomputable def hlL (P:Pr) (pr:List Int):List (List (List Int)):=if h:hcC P pr=0/\∃L,HallL P pr L then Classical.choose h.2 else []
theorem hl_ok {P:Pr}{pr:List Int}{L:List (List (List Int))}(h:hcC P pr=0) (a:HallL P pr L):hlL P pr=L:=by
 have hx:hcC P pr=0/\∃L,HallL P pr L:=⟨h,L,a⟩;unfold hlL;rw[dif_pos hx];exact HallL.one (Classical.choose_spec hx.2) a
theorem hl_no {P:Pr}{pr:List Int}(h:hcC P pr≠0):hlL P pr=[]:=by unfold hlL;rw[dif_neg (λa=>h a.1)]
theorem hl_bd (P:Pr) (pr:List Int):(hlL P pr).length<=729/\∀u∈hlL P pr,u.length<=6/\∀x∈u,x.length<=6:=by
 by_cases h:hcC P pr=0/\∃L,HallL P pr L
 ·obtain ⟨b,L,a⟩:=h
  have G:=grp_of_r (hc_zero b).1;rw[hl_ok b a];exact⟨a.len G,a.row G⟩
 ·unfold hlL;rw[dif_neg h];simp
theorem hl_len (P:Pr) (pr:List Int):(hlL P pr).length<=17408:=by have:=(hl_bd P pr).1;omega
noncomputable def syN (P:Pr) (q:Int):Int:=((hlL P [q]).length:Nat)
noncomputable def syC (P:Pr) (q:Int):Int:=hcC P [q]
end Go.Proofs.YtoakmefajbbggaaGreat
