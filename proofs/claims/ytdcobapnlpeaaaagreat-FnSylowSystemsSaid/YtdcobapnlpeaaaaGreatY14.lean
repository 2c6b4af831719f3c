/- Merged from templates. -/
import Derived.Test.YtdcobapnlpeaaaaGreatY13
import Derived.Maps.OwnSet
import Derived.Maps.StringElems
import Derived.StringKeys
set_option maxRecDepth 100000
set_option maxHeartbeats 8000000
namespace Go.Proofs.YtdcobapnlpeaaaaGreat
def iz (P:Pr) (K:List Int->Prop) (g x:List Int):Prop:=∃y,K y/\x=rConj P y g
section
variable {P:Pr}(G:Grp P)
include G
theorem Grp.ow {g:List Int}(a:Vec P.orders g):rConj P (zeros P.orders.length) g=zeros P.orders.length:=by
 unfold rConj;rw[G.grp.el _ a,G.inv_mul a]
theorem Grp.qA {x g:List Int}(hx:Vec P.orders x) (a:Vec P.orders g):rConj P (rInv P x) g=rInv P (rConj P x g):=by
 refine G.inv_of (G.conjV hx a) (G.conjV (G.invV hx) a) ?_;rw[<-G.conj_hom hx (G.invV hx) a,G.mul_inv hx,G.ow a]
theorem Grp.zA {H:List Int->Prop}(S:Sub P H) {g:List Int}(a:Vec P.orders g):Sub P (λy=>Vec P.orders y/\H (rConj P y g)):=
 ⟨λ_ h=>h.1,⟨G.oneV,by rw[G.ow a];exact S.one⟩,λx y hx hy=>⟨G.mulV hx.1 hy.1,by rw[G.conj_hom hx.1 hy.1 a];exact S.mul _ _ hx.2 hy.2⟩,
  λx hx=>⟨G.invV hx.1,by rw[G.qA hx.1 a];exact S.inv _ hx.2⟩⟩
theorem Grp.jB {K:List Int->Prop}(S:Sub P K) {g:List Int}(b:Vec P.orders g):Sub P (iz P K g):=by
 refine⟨?_,⟨_,S.one,(G.ow b).symm⟩,?_,?_⟩
 ·rintro x ⟨y,hy,rfl⟩;exact G.conjV (S.vec y hy) b
 ·rintro x x' ⟨y,hy,rfl⟩ ⟨e,a,rfl⟩
  exact⟨_,S.mul _ _ hy a,(G.conj_hom (S.vec y hy) (S.vec e a) b).symm⟩
 ·rintro x ⟨y,hy,rfl⟩
  exact⟨_,S.inv _ hy,(G.qA (S.vec y hy) b).symm⟩
theorem Grp.zB {K:List Int->Prop}(S:Sub P K) {g:List Int}(b:Vec P.orders g):genP P (λz=>z∈conjL P (cseq P K) g)=iz P K g:=by
 have e:=(G.seq_facts S).2.1
 have i:∀z,z∈conjL P (cseq P K) g->Vec P.orders z:=λz a=>by
  unfold conjL at a;obtain⟨y,hy,rfl⟩:=List.mem_map.1 a;exact G.conjV (S.vec y (e y hy)) b
 have j:=G.genP_sub (Q:=λz=>z∈conjL P (cseq P K) g) i;refine funext λx=>propext ⟨λh=>h _ (G.jB S b) (λz a => ?_),?_⟩
 ·unfold conjL at a
  obtain⟨y,hy,rfl⟩:=List.mem_map.1 a;exact⟨y,e y hy,rfl⟩
 ·rintro ⟨y,hy,rfl⟩
  have h1:genP P (λz=>z∈cseq P K) y:=by rw[G.genP_cseq S];exact hy
  exact(h1 _ (G.zA j b) (λz a=>⟨S.vec z (e z a),genP_mem (List.mem_map.2 ⟨z,a,rfl⟩)⟩)).2
omit G in
theorem zC (n j:Nat) (a:j<n):gt (gensOf n) j=unitV n j:=by
 unfold gensOf;have h:j<(List.range n).length:=by rw[List.length_range];exact a
 rw[gt_map _ _ _ h];simp[gt,a]
omit G in
theorem qB (n:Nat):(gensOf n).length=n:=by unfold gensOf;simp
end
end Go.Proofs.YtdcobapnlpeaaaaGreat
namespace Go.Proofs.YtdcobapnlpeaaaaGreat
open Go.RowKit
open Go.Maps (Keyed)
structure jC (κ ν : Type) where
 t:TypeId
 k:TypeId
 e:TypeId
 kv:κ -> Value
 kl:κ -> Lit
 mA:κ -> Prop
 ev:ν -> Value
 el:ν -> Lit
 oA:ν -> Prop
 z:ν
 keyed:Keyed Tryz.prog k
 und:Tryz.prog.underlying t=some (.map k e)
 key:∀a,mA a->keyOf Tryz.prog k (kv a)=some (kl a)
 inj:∀a c,kl a=kl c->a=c
 isKey:∀a,WideAt.IsKeyLit (kl a)
 elem:∀x,oA x->plainElem (H:=Unit) Tryz.prog e (ev x)=some (.lit (el x),[])
 inv:∀v x ps,plainElem (H:=Unit) Tryz.prog e v=some (.lit (el x),ps)->v=ev x
 zero:∀w,(zeroValue e).run Tryz.prog w=.ok (ev z) w
 tR:oA z
variable {κ ν : Type}
def fH (M:jC κ ν) (w:World) (b:Nat) (f:κ -> ν) (m:Nat):Prop:=
 ∃(n:Nat) (D:DataW Unit),w.ownsMap Tryz.prog M.k (plainElem Tryz.prog M.e) b n D/\n<=m/\Maps.IsMap D/\∀a,M.mA a->D.atKey (M.kl a) (.lit (M.el M.z))=.lit (M.el (f a))
theorem fH.made (M:jC κ ν) (w:World):fH M (w.alloc (.map #[] 0)) w.heap.size (λ_=>M.z) 0:=
 ⟨0,.map [],World.ownsMap_made _ _ _ _,Nat.le_refl _,Maps.isMap_empty,λa _=>by simp[WideAt.atKey_none]⟩
theorem fH.lt {M:jC κ ν}{w:World}{b:Nat}{f:κ -> ν}{m:Nat}(h:fH M w b f m):b<w.heap.size:=by
 obtain⟨n,D,h,_⟩:=h;exact h.lt
theorem fH.kept {M:jC κ ν}{w w':World}{b:Nat}{f:κ -> ν}{m:Nat}{r:Option Nat}(h:fH M w b f m) (e:w.grownBy w' r) (a:some b≠r):fH M w' b f m:=by
 obtain⟨n,D,h,h2⟩:=h;exact⟨n,D,h.kept e a,h2⟩
theorem fH.ext {M:jC κ ν}{w w':World}{b:Nat}{f:κ -> ν}{m:Nat}(h:fH M w b f m) (a:Ext w w'):fH M w' b f m:=h.kept a (by simp)
theorem fH.look {M:jC κ ν}{w:World}{b:Nat}{f:κ -> ν}{m:Nat}(h:fH M w b f m) (a:κ) (ha:M.mA a) :
  (Instr.lookup M.t (.map (some b)) (M.kv a) false).run Tryz.prog w=.ok (M.ev (f a)) w:=by
 obtain⟨n,D,h,_,_,g⟩:=h;obtain⟨v,ps,e,i⟩:=h.lookup M.keyed M.und (M.zero w) (M.elem M.z M.tR) (M.key a ha);rw[g a ha] at i;rw[e,M.inv _ _ _ i]
theorem fH.update [DecidableEq κ] {M:jC κ ν}{w:World}{b:Nat}{f:κ -> ν}{m:Nat}(h:fH M w b f m) (a:κ) (ha:M.mA a) (x:ν) (hx:M.oA x) (k:m<=1048576) :
  ∃w',(Instr.mapUpdate M.t (.map (some b)) (M.kv a) (M.ev x)).run Tryz.prog w=.ok () w'/\fH M w' b (λc=>if c=a then x else f c) (m+1)/\w.grownBy w' (some b):=by
 obtain⟨n,D,h,hn,i,hat⟩:=h;obtain⟨w',hrun,hown,hg⟩:=h.update M.keyed M.und (by unfold maxLen;omega) (M.key a ha) (M.elem x hx);refine⟨w',hrun,⟨n+1,_,hown,by omega,i.put _ _,?_⟩,hg⟩;intro c j;by_cases g:c=a
 ·subst g
  rw[Maps.atKey_put_same i (M.isKey c)];simp
 ·rw[Maps.atKey_put_other (λe=>g (M.inj _ _ e)),hat c j];simp[g]
theorem tS:Tryz.prog.underlying 4=some .bool:=by kernel_rfl
end Go.Proofs.YtdcobapnlpeaaaaGreat
namespace Go.Proofs.YtdcobapnlpeaaaaGreat
open Go.RowKit
theorem fH.congr {κ ν : Type}{M:jC κ ν}{w:World}{b:Nat}{f e:κ -> ν}{m:Nat}(h:fH M w b f m) (g:∀a,f a=e a):fH M w b e m:=by
 have:f=e:=funext g;rw[<-this];exact h
theorem lu:Tryz.prog.underlying 26=some (.slice 25):=by kernel_rfl
theorem Tryz.lz:(Tryz.prog.info? 25).map (λi=>(i.zero,i.size,i.bytes))=some (some (.slice none 0 0),1,24):=by kernel_rfl
noncomputable def dK (P:Pr) (u:List (List Int)) (x:List Int):List (List Int):=cseq P (genP P (λz=>z∈conjL P u x))
abbrev gP (P:Pr) (u:List (List Int)):List Int->Prop:=genP P (λz=>z∈u)
section
variable {P:Pr}(G:Grp P)
include G
theorem Grp.zD {u:List (List Int)}(a:SubB P u) {x:List Int}(hx:Vec P.orders x):genP P (λz=>z∈conjL P u x)=iz P (gP P u) x:=by
 have h:=G.zB (G.subB a) hx;rw[<-a.2] at h;exact h
theorem Grp.lB {u:List (List Int)}(a:SubB P u) {x:List Int}(hx:Vec P.orders x):dK P u x=cseq P (iz P (gP P u) x):=by
 unfold dK;rw[G.zD a hx]
theorem Grp.jD {u:List (List Int)}(a:SubB P u) {x:List Int}(hx:Vec P.orders x):SubB P (dK P u x):=by
 rw[G.lB a hx];exact G.subB_cseq (G.jB (G.subB a) hx)
theorem Grp.oB {u:List (List Int)}(a:SubB P u) {x:List Int}(hx:Vec P.orders x):gP P (dK P u x)=iz P (gP P u) x:=by
 rw[G.lB a hx];exact G.genP_cseq (G.jB (G.subB a) hx)
end
open Classical in
noncomputable def fu (P:Pr) (u:List (List Int)) (S:List (List (List Int))):Nat->List (List (List Int)) × Nat
 | 0=>(S,0)
 | t+1=>if dK P u (elAt P (t:Int))∈(fu P u S t).1 then fu P u S t else ((fu P u S t).1++[dK P u (elAt P (t:Int))],(fu P u S t).2+1)
theorem oC {P:Pr}{u:List (List Int)}{S:List (List (List Int))}{t:Nat}(h:dK P u (elAt P (t:Int))∈(fu P u S t).1):fu P u S (t+1)=fu P u S t:=by
 rw[fu,if_pos h]
theorem oD {P:Pr}{u:List (List Int)}{S:List (List (List Int))}{t:Nat}(h:¬dK P u (elAt P (t:Int))∈(fu P u S t).1) :
  fu P u S (t+1)=((fu P u S t).1++[dK P u (elAt P (t:Int))],(fu P u S t).2+1):=by
 rw[fu,if_neg h]
theorem tU (P:Pr) (u:List (List Int)) (S:List (List (List Int))):∀t,(fu P u S t).2<=t
 | 0=>Nat.le_refl _
 | t + 1=>by
  have:=tU P u S t;unfold fu;split
  ·omega
  ·show (fu P u S t).2+1<=t+1
   omega
structure qC (P:Pr) (S:List (List (List Int))):Prop where
 sub:∀v∈S,SubB P v
 one:S.Nodup
theorem Grp.tV {P:Pr}(G:Grp P) {u:List (List Int)}(j:SubB P u) {S:List (List (List Int))}(k:qC P S):∀t,t<=(ordP P).toNat->qC P (fu P u S t).1
 | 0,_=>k
 | t + 1,ht=>by
  have i:=Grp.tV G j k t (by omega);by_cases h:dK P u (elAt P (t:Int))∈(fu P u S t).1
  ·rw[oC h];exact i
  ·rw [oD h]
   refine⟨λv g => ?_,?_⟩
   ·rcases List.mem_append.1 g with g|g
    ·exact i.sub v g
    ·rw[List.mem_singleton.1 g];exact G.jD j (G.elAtV (by omega))
   ·rw [List.nodup_append]
    exact⟨i.one,by simp,λa ha b l e=>h (by rw[List.mem_singleton.1 l] at e;rw[<-e];exact ha)⟩
theorem tW (P:Pr) (u:List (List Int)) (S:List (List (List Int))):∀t v,v∈(fu P u S t).1↔v∈S\/∃j,j<t/\v=dK P u (elAt P (j:Int))
 | 0,v=>by simp[fu]
 | t + 1,v=>by
  have e:=tW P u S t;by_cases h:dK P u (elAt P (t:Int))∈(fu P u S t).1
  ·rw [oC h,e v]
   constructor
   ·rintro (h1|⟨j,h1,a⟩)
    ·exact .inl h1
    ·exact .inr ⟨j,by omega,a⟩
   ·rintro (h1|⟨j,h1,a⟩)
    ·exact .inl h1
    ·rcases Nat.lt_succ_iff_lt_or_eq.1 h1 with b|b
     ·exact .inr ⟨j,b,a⟩
     ·subst b;rw[a];exact(e _).1 h
  ·rw [oD h,List.mem_append,e v,List.mem_singleton]
   constructor
   ·rintro ((h1|⟨j,h1,a⟩)|h1)
    ·exact .inl h1
    ·exact .inr ⟨j,by omega,a⟩
    ·exact .inr ⟨t,by omega,h1⟩
   ·rintro (h1|⟨j,h1,a⟩)
    ·exact .inl (.inl h1)
    ·rcases Nat.lt_succ_iff_lt_or_eq.1 h1 with b|b
     ·exact .inl (.inr ⟨j,b,a⟩)
     ·subst b;exact .inr a
section
variable {P:Pr}{G:Grp P}
def ey (G:Grp P) (H:List Int->Prop):El G->Prop:=λx=>H x.1
def jE (A:El G->Prop) (x:List Int):Prop:=∃h:Vec P.orders x,A ⟨x,h⟩
theorem jF {H:List Int->Prop}(S:Sub P H):SG (ey G H):=⟨S.one,λ_ _ h k=>S.mul _ _ h k,λ_ h=>S.inv _ h⟩
theorem qD {A:El G->Prop}(S:SG A):Sub P (jE A):=
 ⟨λ_ h=>h.1,⟨G.oneV,S.one⟩,λ_ _ ⟨hx,ax⟩ ⟨hy,ay⟩=>⟨G.mulV hx hy,S.mul _ _ ax ay⟩,λ_ ⟨hx,ax⟩=>⟨G.invV hx,S.inv _ ax⟩⟩
theorem qE (A:El G->Prop):ey G (jE A)=A:=funext λx=>propext ⟨λ⟨_,h⟩=>h,λh=>⟨x.2,h⟩⟩
theorem kB {H:List Int->Prop}(S:Sub P H):prodU P (cseq P H) (cseq P H).length=(cd (ey G H):Int):=by
 rw[G.kX S]
 have h1:((jA (ey G H)).map (λx:El G=>x.1)).Nodup:=by
  refine List.nodup_iff_pairwise_ne.2 ?_;rw[List.pairwise_map];exact(List.nodup_iff_pairwise_ne.1 (jg _)).imp (λ{a b} g e=>g (Subtype.ext e))
 have i:=(List.perm_ext_iff_of_nodup (kY G.v H) h1).2 (λx=>by
  rw[elemsIn_mem G.v S.vec,List.mem_map];constructor
  ·intro hx
   exact⟨⟨x,S.vec x hx⟩,iq.2 hx,rfl⟩
  ·rintro ⟨y,hy,rfl⟩
   exact iq.1 hy)
 rw[i.length_eq,List.length_map];rfl
def fW (G:Grp P) (u:List (List Int)):Nat->Prop:=pv (ey G (gP P u))
theorem oF (G:Grp P) {u:List (List Int)}(a:SubB P u):prodU P u u.length=(dg P (fW G u) P.orders.length 0:Nat):=by
 have S:=G.subB a;have h:=kB (G:=G) S;rw[iZ (jF S)] at h;have e:cseq P (genP P λx=>x∈u)=u:=a.2.symm;rw[e] at h;exact h
noncomputable def lC (P:Pr) (Q:Nat->Prop) (d:Nat):Nat:=dg P Q d 0
theorem tX (Q:Nat->Prop):∀f d,dg P Q (f+1) d=dg P Q f d*dg P Q 1 (d+f)
 | 0,d=>by
  show dg P Q 1 d=1*dg P Q 1 (d+0)
  rw[Nat.one_mul];rfl
 | f+1,d=>by
  have a:=tX Q f (d+1);rw[dg,a,<-Nat.mul_assoc,show d+1+f=d+(f+1) by omega];conv=>rhs;rw[dg]
open Classical in
theorem qF (Q:Nat->Prop) (d:Nat):lC P Q (d+1)=lC P Q d*(if Q d then (gt P.orders d).toNat else 1):=by
 unfold lC;rw[tX,Nat.zero_add,dg,dg,Nat.mul_one]
theorem zF (G:Grp P) (Q:Nat->Prop):∀d,d<=P.orders.length->0<lC P Q d
 | 0,_=>Nat.one_pos
 | d+1,h=>by
  have a:=zF G Q d (by omega);obtain⟨q,_,h2,h3⟩:=fG G (show d<P.orders.length by omega);rw[qF];split
  ·exact Nat.mul_pos a (by omega)
  ·omega
def fo (P:Pr) (pr:List Int):Nat->Int
 | 0=>1
 | k+1=>if gt P.orders k∈pr then fo P pr k*gt P.orders k else fo P pr k
abbrev dU (P:Pr) (pr:List Int):Int:=fo P pr P.orders.length
theorem tY (G:Grp P) (pr:List Int):∀k,k<=P.orders.length->fo P pr k=(lC P (λd=>gt P.orders d∈pr) k:Nat)
 | 0,_=>rfl
 | k+1,h=>by
  classical
  have b:=tY G pr k (by omega);obtain⟨q,h1,h2,h3⟩:=fG G (show k<P.orders.length by omega);rw[fo,qF,b];by_cases a:gt P.orders k∈pr
  ·rw[if_pos a,if_pos a,Int.natCast_mul,h2,<-h1]
  ·rw[if_neg a,if_neg a,Nat.mul_one]
theorem kC (G:Grp P) (pr:List Int):dU P pr=(dg P (λd=>gt P.orders d∈pr) P.orders.length 0:Nat):=tY G pr _ (Nat.le_refl _)
theorem zG (G:Grp P) {Q R:Nat->Prop}(w:∀d,Q d->d<P.orders.length) (y:∀j k,j<P.orders.length->k<P.orders.length->gt P.orders j=gt P.orders k->(R j↔R k)) :
  dg P Q P.orders.length 0∣dg P R P.orders.length 0↔∀d,Q d->R d:=by
 constructor
 ·intro h d v
  refine Classical.byContradiction λz => ?_;have i:=w d v;obtain⟨q,h1,A,h3⟩:=fG G i
  have B:(gt P.orders d).toNat∣dg P Q P.orders.length 0:=by
   have m:=iN (P:=P) (Q:=λk=>k=d) (R:=λk=>Q k/\k≠d) P.orders.length 0 (λk _ _ e g=>g.2 e)
   have n:dg P (λk=>k=d\/(Q k/\k≠d)) P.orders.length 0=dg P Q P.orders.length 0:=fC _ _ (λk _ _=>⟨λg=>g.elim (λe=>e▸v) (λg=>g.1),λg=>by
    by_cases e:k=d
    ·exact .inl e
    ·exact .inr ⟨g,e⟩⟩)
   rw[<-n,<-m];refine Nat.dvd_mul_right_of_dvd ?_ _
   have key:∀f s,s<=d->d<s+f->dg P (λk=>k=d) f s=(gt P.orders d).toNat:=by
    intro f;induction f with
    | zero=>intro s a b;omega
    | succ f p=>
     intro s a b;rw[dg];by_cases e:s=d
     ·subst e
      rw[if_pos rfl];have C:dg P (λk=>k=s) f (s+1)=dg P (λ_=>False) f (s+1):=fC _ _ (λk _ _=>⟨λe=>by omega,λg=>g.elim⟩)
      have h1:∀f t,dg P (λ_=>False) f t=1:=by
       intro f;induction f with
       | zero=>intro t;rfl
       | succ f p=>intro t;rw[dg,if_neg (λg=>g),p]
      rw[C,h1,Nat.mul_one]
     ·rw [if_neg e,Nat.one_mul]
      exact p (s+1) (by omega) (by omega)
   rw[key _ _ (Nat.zero_le _) (by omega)];exact Nat.dvd_refl _
  have l:Nat.Coprime (gt P.orders d).toNat (dg P R P.orders.length 0):=mh G (by rw[A];exact h3) _ _ (Nat.zero_add _) (λk hk u e=>z ((y k d hk i (by
   obtain⟨r,g1,g2,_⟩:=fG G hk;omega)).1 u))
  exact kA (G:=G) i l (Nat.dvd_trans B h)
 ·intro h
  have m:=iN (P:=P) (Q:=Q) (R:=λk=>R k/\¬Q k) P.orders.length 0 (λk _ _ hk g=>g.2 hk)
  have n:dg P (λk=>Q k\/(R k/\¬Q k)) P.orders.length 0=dg P R P.orders.length 0:=fC _ _ (λk _ _=>⟨λg=>g.elim (h k) (λg=>g.1),λg=>by
   by_cases e:Q k
   ·exact .inl e
   ·exact .inr ⟨g,e⟩⟩)
  rw[<-n,<-m];exact Nat.dvd_mul_right _ _
theorem qG (G:Grp P) {Q:Nat->Prop} : ∀f d,d+f=P.orders.length->dg P Q f d=1->∀k,d<=k->k<P.orders.length->¬Q k
 | 0,d,hd,_,k,a,b=>by omega
 | f + 1,d,hd,h,k,a,b=>by
  obtain⟨q,h1,h2,h3⟩:=fG G (show d<P.orders.length by omega);rw[dg] at h;have i:=iG G Q f (d+1) (by omega);by_cases g:Q d
  ·rw [if_pos g,h2] at h
   have:=Nat.mul_le_mul_left q i;omega
  ·rw [if_neg g,Nat.one_mul] at h
   by_cases e:k=d
   ·subst e;exact g
   ·exact qG G f (d+1) (by omega) h k (by omega) b
theorem zH (pr:List Int) (j k:Nat) (h:gt P.orders j=gt P.orders k):gt P.orders j∈pr↔gt P.orders k∈pr:=by rw[h]
def gQ (P:Pr) (pr:List Int) (u:List (List Int)):Prop:=SubB P u/\prodU P u u.length=dU P pr
theorem oG (G:Grp P) {u:List (List Int)}(a:SubB P u) (pr:List Int):prodU P u u.length∣dU P pr↔∀d,fW G u d->gt P.orders d∈pr:=by
 rw[oF G a,kC G,Int.natCast_dvd_natCast];exact zG G (λd b=>b.1) (λj k _ _ e=>zH pr j k e)
theorem jS (G:Grp P) {u:List (List Int)}(g:SubB P u) (pr:List Int):prodU P u u.length=dU P pr↔∀d,fW G u d↔(d<P.orders.length/\gt P.orders d∈pr):=by
 constructor
 ·intro h d
  have h1:=(oG G g pr).1 (by rw[h];exact Int.dvd_refl _);refine⟨λb=>⟨b.1,h1 d b⟩,λb=>Classical.byContradiction λj => ?_⟩;rw[oF G g,kC G,Int.natCast_inj] at h;have i:=iN (P:=P) (Q:=fW G u) (R:=λk=>gt P.orders k∈pr/\¬fW G u k) P.orders.length 0 (λk _ _ hk a=>a.2 hk)
  have l:dg P (λk=>fW G u k\/(gt P.orders k∈pr/\¬fW G u k)) P.orders.length 0=dg P (λd=>gt P.orders d∈pr) P.orders.length 0:=fC _ _ (λk _ _=>⟨λa=>a.elim (h1 k) (λa=>a.1),λa=>by
   by_cases e:fW G u k
   ·exact .inl e
   ·exact .inr ⟨a,e⟩⟩)
  rw[l,<-h] at i;have m:dg P (λk=>gt P.orders k∈pr/\¬fW G u k) P.orders.length 0=1:=Nat.eq_of_mul_eq_mul_left (iG G (fW G u) _ _ (Nat.zero_add _)) (by rw[i,Nat.mul_one]);exact qG G _ _ (Nat.zero_add _) m d (Nat.zero_le _) b.1 ⟨b.2,j⟩
 ·intro h
  rw[oF G g,kC G,Int.natCast_inj];exact fC _ _ (λk _ hk=>(h k).trans ⟨λa=>a.2,λa=>⟨by omega,a⟩⟩)
theorem zI (G:Grp P) (pr:List Int) {u:List (List Int)}(C:SubB P u) (i:prodU P u u.length∣dU P pr):∃A:El G->Prop,SG A/\(∀d,pv A d↔(d<P.orders.length/\gt P.orders d∈pr))/\∀x,ey G (gP P u) x->A x:=by
 obtain⟨A,l,n⟩:=tP G (λq=>q∈pr);have S:=jF (G:=G) (G.subB C);obtain⟨g,hg⟩:=tQ (π :=λq=>q∈pr) l S n ((oG G C pr).1 i);refine⟨λx=>A (g⁻¹ * (x*g)),oh l g,λd => ?_,hg⟩;-- a conjugate has the same depths: its order is the same
 have e:cd (λx=>A (g⁻¹ * (x*g)))=cd A:=by
  have h1:((jA A).map (λx=>g*(x*g⁻¹))).Nodup:=by
   refine List.nodup_iff_pairwise_ne.2 ?_;rw[List.pairwise_map];refine(List.nodup_iff_pairwise_ne.1 (jg _)).imp (λ{a b} p e=>p ?_);have:=congrArg (λz=>g⁻¹ * (z*g)) e;simpa only[El.ass,El.iM,El.il,El.or] using this
  rw[nU h1 (H:=λx=>A (g⁻¹ * (x*g))) (λx => ?_),List.length_map]
  ·rfl
  ·rw [List.mem_map]
   constructor
   ·rintro ⟨y,hy,rfl⟩
    have D:g⁻¹ * (g*(y*g⁻¹)*g)=y:=by simp only[El.ass,El.iM,El.il,El.or]
    show A (g⁻¹ * (g*(y*g⁻¹)*g))
    rw[D];exact iq.1 hy
   ·intro hx
    exact⟨_,iq.2 hx,by simp only[El.ass,El.fB,El.ir,El.or]⟩
 have r:∀x,A (g⁻¹ * (x*g))->ep x (aP P (λq=>q∈pr))=1:=λx hx=>by
  have h1:=n9 (π :=λq=>q∈pr) l (λd i=>((n d).1 i).2) hx;rw[l8] at h1;have E:=congrArg (λz=>g*(z*g⁻¹)) h1;simpa only[El.ass,El.fB,El.ir,El.or,El.ol] using E
 have v:∀d,pv (λx=>A (g⁻¹ * (x*g))) d->gt P.orders d∈pr:=λd i=>Classical.byContradiction λF=>
  kA (G:=G) i.1 (mo G (π :=λq=>q∈pr) i.1 F) (mq (N:=λx=>x=1) r i om)
 refine⟨λi=>⟨i.1,v d i⟩,λi => ?_⟩;have j:=(qD (oh l g));have hB:=G.subB_cseq j
 have w:ey G (gP P (cseq P (jE (λx=>A (g⁻¹ * (x*g))))))=λx=>A (g⁻¹ * (x*g)):=by
  rw[show gP P (cseq P (jE (λx=>A (g⁻¹ * (x*g)))))=jE (λx=>A (g⁻¹ * (x*g))) from G.genP_cseq j,qE]
 have m:prodU P (cseq P (jE (λx=>A (g⁻¹ * (x*g))))) (cseq P (jE (λx=>A (g⁻¹ * (x*g))))).length=dU P pr:=by
  rw[kB (G:=G) j,qE,e,iZ l,kC G,Int.natCast_inj];exact fC _ _ (λk _ hk=>(n k).trans ⟨λB=>B.2,λB=>⟨by omega,B⟩⟩)
 have:=((jS G hB pr).1 m d).2 i;unfold fW at this;rwa [w] at this
theorem zJ (G:Grp P) (pr:List Int) {u:List (List Int)}(b:SubB P u) (g:prodU P u u.length∣dU P pr) (m:prodU P u u.length≠dU P pr) :
  ∃ t:Nat,t<(ordP P).toNat/\¬gP P u (elAt P (t:Int))/\prodU P (cseq P (extP P (gP P u) (elAt P (t:Int)))) (cseq P (extP P (gP P u) (elAt P (t:Int)))).length∣dU P pr /\
   ∀H,Sub P H->H (elAt P (t:Int))->(∀K,Sub P K->K (elAt P (t:Int))->∀x,H x->K x)->∀d,pv (ey G H) d->gt P.orders d∈pr:=by
 obtain⟨A,SA,n,hle⟩:=zI G pr b g
 have i:¬ ∀x,A x->ey G (gP P u) x:=λh=>m ((jS G b pr).2 (λd=>by
  have e:A=ey G (gP P u):=funext λx=>propext ⟨h x,hle x⟩;show pv (ey G (gP P u)) d↔_
  rw[<-e];exact n d))
 obtain⟨x,hx⟩:=Classical.not_forall.1 i;obtain⟨p,zK⟩:=Classical.not_imp.1 hx;obtain⟨h1,w⟩:=G.num_lt x.2;refine⟨(num P x.1).toNat,h1,?_⟩;rw[w];have j:=qD SA;have a:jE A x.1:=⟨x.2,p⟩;refine⟨zK,?_,λH C _ k d g => ?_⟩
 ·have v:Sub P (extP P (gP P u) x.1):=G.genP_sub (λy hy=>hy.elim (λh=>(G.subB b).vec y h) (λh=>h▸x.2))
  have q:=G.subB_cseq v;rw[oG G q];intro d g
  have r:∀y,ey G (gP P (cseq P (extP P (gP P u) x.1))) y->A y:=λy hy=>by
   have e:gP P (cseq P (extP P (gP P u) x.1))=extP P (gP P u) x.1:=G.genP_cseq v;have B:extP P (gP P u) x.1 y.1:=by rw[<-e];exact hy
   obtain⟨_,h5⟩:=genP_le j (λz l=>l.elim (λl=>⟨(G.subB b).vec z l,hle ⟨z,(G.subB b).vec z l⟩ l⟩) (λe=>by rw[e];exact a)) B;exact h5
  exact((n d).1 (gL r g)).2
 ·have r:∀y,ey G H y->A y:=λy hy=>(k _ j a y.1 hy).2
  exact((n d).1 (gL r g)).2
theorem zL (G:Grp P) {pr:List Int}{u v:List (List Int)}(i:gQ P pr u) (j:gQ P pr v):∃x,Vec P.orders x/\v=dK P u x:=by
 have A:=jF (G:=G) (G.subB i.1);have B:=jF (G:=G) (G.subB j.1);have C:=(jS G i.1 pr).1 i.2;have D:=(jS G j.1 pr).1 j.2;obtain⟨g,hg⟩:=tQ (π :=λq=>q∈pr) B A D (λd E=>((C d).1 E).2);refine⟨g.1,g.2,?_⟩
 have n:∀y,iz P (gP P u) g.1 y->gP P v y:=by
  rintro y ⟨z,k,rfl⟩;exact hg ⟨z,(G.subB i.1).vec z k⟩ k
 have h1:=G.tj (G.jB (G.subB i.1) g.2) (G.subB j.1) n;have l:cseq P (iz P (gP P u) g.1)=dK P u g.1:=(G.lB i.1 g.2).symm;have p:cseq P (gP P v)=v:=j.1.2.symm;-- equal orders: conjugation keeps the number of elements
 have hB:=G.jD i.1 g.2
 have F:prodU P (dK P u g.1) (dK P u g.1).length=prodU P u u.length:=by
  have r:=kB (G:=G) (G.jB (G.subB i.1) g.2);rw[l] at r;have w:=kB (G:=G) (G.subB i.1);have I:cseq P (gP P u)=u:=i.1.2.symm;rw[r];rw[show genP P (λz=>z∈u)=gP P u from rfl,I] at w;rw[w]
  have J:((jA (ey G (gP P u))).map (λx=>g⁻¹ * (x*g))).Nodup:=by
   refine List.nodup_iff_pairwise_ne.2 ?_;rw[List.pairwise_map];refine(List.nodup_iff_pairwise_ne.1 (jg _)).imp (λ{a b} m e=>m ?_);have:=congrArg (λz=>g*(z*g⁻¹)) e;simpa only[El.ass,El.fB,El.ir,El.or] using this
  rw[nU J (H:=ey G (iz P (gP P u) g.1)) (λx => ?_),List.length_map]
  ·rfl
  ·rw [List.mem_map]
   constructor
   ·rintro ⟨y,hy,rfl⟩
    exact⟨y.1,iq.1 hy,rfl⟩
   ·rintro ⟨z,k,e⟩
    exact⟨⟨z,(G.subB i.1).vec z k⟩,iq.2 k,Subtype.ext e.symm⟩
 have K:∀x,gP P v x->iz P (gP P u) g.1 x:=h1.2 (by
  rw[l]
  have:prodU P (cseq P (genP P λx=>x∈v)) (cseq P (genP P λx=>x∈v)).length=prodU P v v.length:=by
   show prodU P (cseq P (gP P v)) (cseq P (gP P v)).length=_
   rw[p]
  rw[this,F,i.2,j.2])
 have e:gP P v=iz P (gP P u) g.1:=funext λx=>propext ⟨K x,n x⟩;rw[<-p,e,l]
theorem qH (G:Grp P) {u:List (List Int)}(i:SubB P u) {g:List Int}(j:Vec P.orders g):prodU P (dK P u g) (dK P u g).length=prodU P u u.length:=by
 have m:=G.kX (G.jB (G.subB i) j);have h1:=G.kX (G.subB i);have n:cseq P (iz P (genP P λx=>x∈u) g)=dK P u g:=(G.lB i j).symm;have p:cseq P (genP P λx=>x∈u)=u:=i.2.symm;rw[n] at m;rw[p] at h1;rw[m,h1]
 have q:((elemsIn P (genP P λx=>x∈u)).map (λy=>rConj P y g)).Nodup:=by
  refine List.nodup_iff_pairwise_ne.2 ?_;rw[List.pairwise_map];refine(List.nodup_iff_pairwise_ne.1 (kY G.v _)).imp_of_mem (λ{a b} ha r k e=>k ?_);have w:=(G.subB i).vec a ((elemsIn_mem G.v (G.subB i).vec a).1 ha);have A:=(G.subB i).vec b ((elemsIn_mem G.v (G.subB i).vec b).1 r);rw[<-G.conj_back w j,<-G.conj_back A j,e]
 have B:=(List.perm_ext_iff_of_nodup (kY G.v (iz P (genP P λx=>x∈u) g)) q).2 (λx=>by
  rw[elemsIn_mem G.v (G.jB (G.subB i) j).vec,List.mem_map];constructor
  ·rintro ⟨z,l,rfl⟩
   exact⟨z,(elemsIn_mem G.v (G.subB i).vec z).2 l,rfl⟩
  ·rintro ⟨z,l,rfl⟩
   exact⟨z,(elemsIn_mem G.v (G.subB i).vec z).1 l,rfl⟩)
 rw[B.length_eq,List.length_map]
theorem zM (G:Grp P) {pr:List Int}{u:List (List Int)}(a:gQ P pr u) {x:List Int}(hx:Vec P.orders x):gQ P pr (dK P u x):=
 ⟨G.jD a.1 hx,by rw[qH G a.1 hx];exact a.2⟩
def gR (P:Pr) (pr:List Int) (L:List (List (List Int))):Prop:=L.Pairwise (subLt P)/\∀u,u∈L↔gQ P pr u
theorem gR.one {pr:List Int}{L M:List (List (List Int))}(h:gR P pr L) (k:gR P pr M):L=M:=
 sorted_one (λ_=>subLt_irrefl) (λ_ _ _=>subLt_trans) h.1 k.1 (λu=>(h.2 u).trans (k.2 u).symm)
theorem tZ (G:Grp P) {pr:List Int}{u:List (List Int)}(a:gQ P pr u) (v:List (List Int)):gQ P pr v↔∃j,j<(ordP P).toNat/\v=dK P u (elAt P (j:Int)):=by
 constructor
 ·intro b
  obtain⟨x,hx,e⟩:=zL G a b;obtain⟨h1,g⟩:=G.num_lt hx;exact⟨_,h1,by rw[g];exact e⟩
 ·rintro ⟨j,i,rfl⟩
  exact zM G a (G.elAtV i)
end
theorem zN (l:List Int) (x:Int) (w:World) (v:Value) (S:Nat->Prop) (q:Ints S w v l) :
  Calls Tryz.prog 314 #[v,.int .i64 x] w (Ret w λ_ r=>∃k:Int,r=.int .i64 k/\(0<=k↔x∈l)):=by
 obtain⟨a,c,rfl,_,_⟩:=q.shape;have G:=Lib.hid q;clear q;go_enter Tryz.func314,Tryz.ntmps314;go_wp2;go_loopw [8] (λu wr=>∃i:Nat,u=.int .i64 i/\i<=l.length/\Ext w wr/\Hid (∀j,j<i->gt l j≠x)) (λu _=>l.length-(intOf u).toNat)
 case atStart=>exact⟨0,by go_num,by omega,Ext.refl _,Lib.hid (λj z=>by omega)⟩
 case round=>
  obtain⟨i,rfl,hi,hg,hN⟩:=hrel;by_cases m:i<l.length
  ·have F:(i:Int)<l.length:=by omega
   obtain⟨b,o,hab,_,_,hc⟩:=Ints.at G.out i m;subst hab;have A:=hg.cell hc (by simp);by_cases g:gt l i=x
   ·have n:x∈l:=by rw[<-g];exact gt_mem m
    rw[g] at A;have B:=Lib.hid n;clear n g hc;go_wp2;go_ret;exact⟨_,rfl,hg,(i:Int),rfl,⟨λ_=>B.out,λ_=>by omega⟩⟩
   ·have C:(x == gt l i)=false:=by
     have:¬x=gt l i:=λe=>g e.symm;simpa using this
    have p:∀j,j<i+1->gt l j≠x:=λj z=>by
     rcases Nat.lt_succ_iff_lt_or_eq.1 z with h|h
     ·exact hN.out j h
     ·rw[h];exact g
    have D:=Lib.hid p;clear p g hc hN;generalize gt l i=y at *;go_wp2;clear C;go_roundw
    case rel=>exact⟨i+1,by go_num,by omega,hg,D⟩
    case measure=>simp[intOf];omega
  ·have E:i=l.length:=by omega
   have n:¬x∈l:=λh=>by
    obtain⟨j,z,e⟩:=mem_gt h;exact hN.out j (by omega) e
   have H:¬(i:Int)<l.length:=by omega
   have B:=Lib.hid n;clear n E hN;go_wp2;go_ret;exact⟨_,rfl,hg,-1,rfl,⟨λh=>by omega,λh=>absurd h B.out⟩⟩
theorem zO (l:List Int) (x:Int) (w:World) (v:Value) (S:Nat->Prop) (b:Ints S w v l) :
  Calls Tryz.prog 279 #[v,.int .i64 x] w (Ret w λ_ r=>r=.bool (decide (x∈l))):=by
 have e:=zN l x w v S b;obtain⟨a,c,rfl,_,_⟩:=b.shape;go_enter Tryz.func279,Tryz.ntmps279;go_wp2_with fail
 refine Calls.mono e ?_;rintro i j ⟨v1,rfl,hg1,k,rfl,hk⟩;have g:=Lib.hid hk;clear hk e;go_wp2;go_ret;refine⟨_,rfl,hg1,?_⟩;show Value.bool (decide (0<=k))=_
 rw[decide_eq_decide.2 g.out]
theorem ud {P:Pr}(hP:Valid P) (pr:List Int):∀k,k<=P.orders.length->1<=fo P pr k/\fo P pr k<=prodTo P.orders k
 | 0,_=>⟨Int.le_refl 1,Int.le_refl 1⟩
 | k+1,h=>by
  obtain⟨h1,h2⟩:=ud hP pr k (by omega);have a:=hP.ord7 k (by omega);have b:1*1<=fo P pr k*gt P.orders k:=Int.mul_le_mul h1 (by omega) (by omega) (by omega);have e:fo P pr k*gt P.orders k<=prodTo P.orders k*gt P.orders k:=Int.mul_le_mul_of_nonneg_right h2 (by omega);have g:prodTo P.orders k*1<=prodTo P.orders k*gt P.orders k:=Int.mul_le_mul_of_nonneg_left (by omega) (by omega);unfold fo prodTo;split<;>omega
theorem qI {P:Pr}(hP:Valid P) (pr:List Int) (k:Nat) (hk:k<=P.orders.length):1<=fo P pr k/\fo P pr k<=729:=by
 have h1:=ud hP pr k hk;have a:=hP.pre k hk;omega
theorem qJ {P:Pr}{pr:List Int}{k:Nat}(h:gt P.orders k∈pr):fo P pr (k+1)=fo P pr k*gt P.orders k:=by rw[fo,if_pos h]
theorem ue {P:Pr}{pr:List Int}{k:Nat}(h:¬gt P.orders k∈pr):fo P pr (k+1)=fo P pr k:=by rw[fo,if_neg h]
theorem uf (P:Pr) (hP:Valid P) (pr:List Int) (w:World) (p v:Value) (M S:Nat->Prop) (I:PresP M w p P) (C:Ints S w v pr) :
  Calls Tryz.prog 202 #[p,v] w (Ret w λ_ r=>r=.int .i64 (dU P pr)):=by
 have N:=hP.n6;obtain⟨pb,po,rfl⟩:=I.shape;obtain⟨U,capo,fI,hoi⟩:=I.ordAt;obtain⟨a,c,rfl,_,_⟩:=C.shape;have O:=Lib.hid C;clear C;go_enter Tryz.func202,Tryz.ntmps202;go_wp2;clear fI;go_loopw [5,13] (λQ D wr=>∃i:Nat,Q=.int .i64 (fo P pr i)/\D=.int .i64 i/\i<=P.orders.length/\Ext w wr) (λ_ D _=>P.orders.length-(intOf D).toNat)
 case atStart=>exact⟨0,rfl,by go_num,by omega,Ext.refl _⟩
 case round=>
  obtain⟨i,rfl,rfl,hi,B⟩:=hrel;by_cases n:i<P.orders.length
  ·have J:(i:Int)<P.orders.length:=by omega
   obtain⟨b,o,hab,_,_,hc⟩:=Ints.at hoi i n;subst hab;have u:=B.cell hc (by simp);have R:=qI hP pr i hi;have y:=qI hP pr (i+1) n;have e := @qJ P pr i;have j := @ue P pr i;obtain⟨q,K⟩:∃q,q=gt P.orders i:=⟨_,rfl⟩;obtain⟨L,z⟩:∃h,h=fo P pr i:=⟨_,rfl⟩;rw[<-K] at u e j;rw[<-z] at R e j ⊢;have k:=zO pr q wr _ S (Ints.ext O.out B);have E:=Lib.hid (And.intro e (And.intro j y));clear e j y hc K z;go_wp2_with fail
   refine Calls.mono k ?_;rintro V W ⟨v1,rfl,hg1,rfl⟩;clear k u;have l:=grown_trans B hg1;by_cases m:q∈pr
   ·have A:decide (q∈pr)=true:=decide_eq_true m
    have g:=E.out.1 m;have F:=E.out.2.2;rw[g] at F;have X:wrap64 (L*q)=L*q:=IntWalk.wrap64_in _ (by omega);rw[A];have G:=Lib.hid g;clear g m A;go_wp2;go_roundw
    case rel=>exact⟨i+1,by rw[G.out],by go_num,by omega,l⟩
    case measure=>simp[intOf];omega
   ·have A:decide (q∈pr)=false:=decide_eq_false m
    have g:=E.out.2.1 m;rw[A];have G:=Lib.hid g;clear g m A;go_wp2;go_roundw
    case rel=>exact⟨i+1,by rw[G.out],by go_num,by omega,l⟩
    case measure=>simp[intOf];omega
  ·have H:i=P.orders.length:=by omega
   have T:¬(i:Int)<P.orders.length:=by omega
   subst H;go_wp2;go_ret;exact⟨_,rfl,B,rfl⟩
def gy (pr:List Int):Prop:=∀i,i<pr.length->primeB (gt pr i)=true/\(0<i->gt pr (i-1)<gt pr i)
theorem zP (pr:List Int) (w:World) (v:Value) (S:Nat->Prop) (E:Ints S w v pr) :
  Calls Tryz.prog 271 #[v] w (Ret w λ_ r=>∃b:Bool,r=.bool b/\(b=true↔gy pr)):=by
 obtain⟨a,c,rfl,_,_⟩:=E.shape;have I:=Lib.hid E;clear E;go_enter Tryz.func271,Tryz.ntmps271;go_wp2;go_loopw [7] (λF wr=>∃i:Nat,F=.int .i64 i/\i<=pr.length/\Ext w wr/\Hid (∀j,j<i->primeB (gt pr j)=true/\(0<j->gt pr (j-1)<gt pr j))) (λF _=>pr.length-(intOf F).toNat)
 case atStart=>exact⟨0,by go_num,by omega,Ext.refl _,Lib.hid (λj G=>by omega)⟩
 case round=>
  obtain⟨i,rfl,hi,hg,hN⟩:=hrel;by_cases B:i<pr.length
  ·have J:(i:Int)<pr.length:=by omega
   obtain⟨b,o,hab,_,_,hc⟩:=Ints.at I.out i B;subst hab;have u:=hg.cell hc (by simp);have l:=isGroupPrime_ok (gt pr i) wr;have e:(primeB (gt pr i)=true/\(0<i->gt pr (i-1)<gt pr i)->False)->¬gy pr:=λh M=>h (M i B)
   have g:primeB (gt pr i)=true->(0<i->gt pr (i-1)<gt pr i)->Hid (∀j,j<i+1->primeB (gt pr j)=true/\(0<j->gt pr (j-1)<gt pr j)):=λh1 N=>Lib.hid (λj G=>by
    rcases Nat.lt_succ_iff_lt_or_eq.1 G with h|h
    ·exact hN.out j h
    ·subst h;exact⟨h1,N⟩)
   rcases Nat.eq_zero_or_pos i with K|K
   ·subst K
    obtain⟨q,y⟩:∃q,q=gt pr 0:=⟨_,rfl⟩;rw[<-y] at u l e g;obtain⟨pb,p⟩:∃pb,pb=primeB q:=⟨_,rfl⟩;rw[<-p] at l e g;have A:=Lib.hid (And.intro e g);clear e g hc y p hN;have u:wr.cell? ⟨b,o,none⟩=some (.int .i64 q):=u;go_wp2_with fail
    refine Calls.mono l ?_;rintro O P ⟨rfl,rfl⟩;cases pb with
    | false=>
     have n:=A.out.1 (λh=>by cases h.1);have C:=Lib.hid n;clear n;go_wp2;go_ret;exact⟨_,rfl,hg,false,rfl,by simpa using C.out⟩
    | true=>
     have n:=A.out.2 rfl (λh=>by omega);go_wp2;go_roundw
     case rel=>exact⟨1,by go_num,by omega,hg,n⟩
     case measure=>simp[intOf];omega
   ·obtain ⟨b2,o2,kD,_,_,hc2⟩:=Ints.at I.out (i-1) (by omega)
    cases kD
    have m:=hg.cell hc2 (by simp);obtain⟨q,y⟩:∃q,q=gt pr i:=⟨_,rfl⟩;obtain⟨q',D⟩:∃q',q'=gt pr (i-1):=⟨_,rfl⟩;rw[<-y] at u l e g;rw[<-D] at m e g;obtain⟨pb,p⟩:∃pb,pb=primeB q:=⟨_,rfl⟩;rw[<-p] at l e g;have A:=Lib.hid (And.intro e g);clear e g hc hc2 y D p hN;obtain⟨k,rfl⟩:∃k,i=k+1:=⟨i-1,by omega⟩;have m:wr.cell? ⟨b,o+k,none⟩=some (.int .i64 q'):=by rw[Nat.add_sub_cancel] at m;exact m
    have Q:(((k+1:Nat):Int)>0):=by omega
    have R:((k+1:Nat):Int)-1=(k:Int):=by omega
    have T:wrap64 (((k+1:Nat):Int)-1)=(k:Int):=by rw[IntWalk.wrap64_in _ (by omega)];omega
    go_wp2_with fail
    refine Calls.mono l ?_;rintro O P ⟨rfl,rfl⟩;clear l;cases pb with
    | false=>
     have n:=A.out.1 (λh=>by cases h.1);have C:=Lib.hid n;clear n;go_wp2;go_ret;exact⟨_,rfl,hg,false,rfl,by simpa using C.out⟩
    | true=>
     by_cases y:q'<q
     ·have n:=A.out.2 rfl (λ_=>y)
      have H:¬q'≥q:=by omega
      go_wp2;go_roundw
      case rel=>exact⟨k+1+1,by go_num,by omega,hg,n⟩
      case measure=>simp[intOf];omega
     ·have n:=A.out.1 (λh=>y (h.2 (by omega)))
      have H:q'≥q:=by omega
      have C:=Lib.hid n;clear n;go_wp2;go_ret;exact⟨_,rfl,hg,false,rfl,by simpa using C.out⟩
  ·have z:gy pr:=λj G=>hN.out j (by omega)
   have U:¬(i:Int)<pr.length:=by omega
   have L:=Lib.hid z;clear z hN;go_wp2;go_ret
   first|exact⟨_,rfl,hg,true,rfl,by simpa using L.out⟩|exact⟨_,rfl,hg,.inr ⟨rfl,L.out⟩⟩
open Classical in
noncomputable def ew (P:Pr) (pr:List Int):Int:=if rconsB P=true then (if gy pr then (if 128<ordP P then 3 else 0) else 2) else 1
theorem ji {P:Pr}{pr:List Int}(h:ew P pr=0):rconsB P=true/\gy pr/\ordP P<=128:=by
 unfold ew at h;by_cases h1:rconsB P=true
 ·rw [if_pos h1] at h
  by_cases a:gy pr
  ·rw [if_pos a] at h
   by_cases b:128<ordP P
   ·rw[if_pos b] at h;cases h
   ·exact⟨h1,a,by omega⟩
  ·rw[if_neg a] at h;cases h
 ·rw[if_neg h1] at h;cases h
theorem mB (n:Int) (w:World):Calls Tryz.prog 275 #[.int .i64 n] w (Ret w λ_ v=>v=.bool (primeB n)):=by
 refine Calls.mono (l01Prime_ok n w) ?_;rintro e w' ⟨rfl,rfl⟩;exact⟨_,rfl,Ext.refl _,rfl⟩
theorem zQ (P:Pr) (pr:List Int) (w:World) (p v:Value) (u S:Nat->Prop) (y:PresP u w p P) (z:Ints S w v pr) :
  Calls Tryz.prog 192 #[p,v] w (Ret w λ_ r=>r=.int .i64 (ew P pr)):=by
 obtain⟨pb,po,rfl⟩:=y.shape;obtain⟨A,dI,dG,_,_,hc0,hc1,hc2,dy⟩:=y.at;have b:=isConsistent_ok P w (.agg #[A,dI,dG]) u ⟨_,_,_,rfl,dy⟩;rw[icons_eq] at b;obtain⟨a,c,rfl,_,_⟩:=z.shape;have C:=Lib.hid z;clear z;go_enter Tryz.func192,Tryz.ntmps192;go_wp2_with fail
 clear hc0 hc1 hc2;refine Calls.mono b ?_;rintro F D ⟨v1,rfl,j,rfl⟩;cases m:rconsB P with
 | false=>
  have e:ew P pr=1:=by unfold ew;rw[if_neg (by rw[m];decide)]
  have l:=Lib.hid e;clear e m b;go_wp2;go_ret;exact⟨_,rfl,j,by rw[l.out];rfl⟩
 | true=>
  have G:=grp_of_r m;have n:=zP pr D _ S (Ints.ext C.out j);have B:=Lib.hid m;clear m b;go_wp2_with fail
  refine Calls.mono n ?_;rintro H E ⟨I,rfl,hg2,r,rfl,q⟩;clear n;have g:=grown_trans j hg2;cases r with
  | false=>
   have e:ew P pr=2:=by unfold ew;rw[if_pos B.out,if_neg (λh=>by have:=q.2 h;cases this)]
   have l:=Lib.hid e;clear e q;go_wp2;go_ret;exact⟨_,rfl,g,by rw[l.out];rfl⟩
  | true=>
   have e:ew P pr=if 128<ordP P then 3 else 0:=by unfold ew;rw[if_pos B.out,if_pos (q.1 rfl)]
   have l:=Lib.hid e;clear e q;go_wp2_with fail
   refine Calls.mono (orderOf_ok E _ P u G.v (y.ext g)) ?_;rintro J K ⟨rfl,rfl⟩;by_cases i:128<ordP P
   ·have e:=l.out
    rw[if_pos i] at e;have k:=Lib.hid e;clear e;go_wp2;go_ret;exact⟨_,rfl,g,by rw[k.out];rfl⟩
   ·have e:=l.out
    rw[if_neg i] at e;have k:=Lib.hid e;clear e;go_wp2;go_ret;exact⟨_,rfl,g,by rw[k.out];rfl⟩
set_option linter.unusedSimpArgs false in
theorem zR (pr:List Int) (w:World) (v:Value) (S:Nat->Prop) (H:Ints S w v pr) :
  Calls Tryz.prog 274 #[v] w (Ret w λ_ r=>∃b:Bool,r=.bool b/\(b=true↔gy pr)):=by
 obtain⟨a,c,rfl,_,_⟩:=H.shape;have R:=Lib.hid H;clear H;go_enter Tryz.func274,Tryz.ntmps274;go_wp2;go_loopw [3] (λI wr=>∃i:Nat,I=.int .i64 i/\i<=pr.length/\Ext w wr/\Hid (∀j,j<i->primeB (gt pr j)=true/\(0<j->gt pr (j-1)<gt pr j))) (λI _=>pr.length-(intOf I).toNat)
 case atStart=>exact⟨0,by go_num,by omega,Ext.refl _,Lib.hid (λj J=>by omega)⟩
 case round=>
  obtain⟨i,rfl,hi,z,hN⟩:=hrel;by_cases C:i<pr.length
  ·have T:(i:Int)<pr.length:=by omega
   obtain⟨b,o,hab,_,_,U⟩:=Ints.at R.out i C;subst hab;have g:∀w',Ext wr w'->w'.cell? ⟨b,o+i,none⟩=some (.int .i64 (gt pr i)):=λw' h=>(grown_trans z h).cell U (by simp);have p:(primeB (gt pr i)=true/\(0<i->gt pr (i-1)<gt pr i)->False)->¬gy pr:=λh W=>h (W i C)
   have u:primeB (gt pr i)=true->(0<i->gt pr (i-1)<gt pr i)->Hid (∀j,j<i+1->primeB (gt pr j)=true/\(0<j->gt pr (j-1)<gt pr j)):=λh1 X=>Lib.hid (λj J=>by
    rcases Nat.lt_succ_iff_lt_or_eq.1 J with h|h
    ·exact hN.out j h
    ·subst h;exact⟨h1,X⟩)
   have e:0<i->∀w',Ext wr w'->w'.cell? ⟨b,o+(i-1),none⟩=some (.int .i64 (gt pr (i-1))):=λG w' h=>by
    obtain⟨b2,o2,kD,_,_,K⟩:=Ints.at R.out (i-1) (by omega);cases kD
    exact(grown_trans z h).cell K (by simp)
   obtain⟨q,D⟩:∃q,q=gt pr i:=⟨_,rfl⟩;obtain⟨q',E⟩:∃q',q'=gt pr (i-1):=⟨_,rfl⟩;rw[<-D] at g p u;rw[<-E] at e p u;have F:=Lib.hid (And.intro p (And.intro u e));clear p u e U D E hN;by_cases m:primeB q=false
   ·have y:=F.out.1 (λh=>by have:=h.1;rw[m] at this;cases this)
    have L:=Lib.hid y;clear y;go_wp2;refine wp_region_held_drew (S:=(λw'=>Ext wr w')) (by kernel_rfl) (by first|exact grown_drew _ _|assumption) (λl => ?_);refine tk 0 ?_;refine tk 1 ?_;refine tk 2 ?_;refine tk 3 ?_;refine eu 4 (λM n => ?_);go_simp;go_at_call 275;refine Calls.mono (Calls.rel (w0:=wr) (by first|assumption|exact grown_drew _ _) (mB q _)) ?_;rintro N O ⟨P,rfl,je,qK,rfl⟩;go_wp2_with fail
    refine ko n ?_ (λl => ?_)
    ·first|exact grown_drew _ _|assumption
    clear n M;refine tk 5 ?_;refine tk 6 ?_;refine eH 7 ?_;refine eH 8 ?_;refine eH 9 ?_;refine eH 10 ?_;refine eH 11 ?_;refine eH 12 ?_;refine eH 13 ?_;refine eH 14 ?_;refine eH 15 ?_;refine eH 16 ?_;refine eH 17 ?_;refine eH 18 ?_;refine eH 19 ?_;refine eH 20 ?_;refine tk 21 ?_;refine wpAnyH_done (by kernel_rfl) ?_ _;clear g;go_wp2;go_ret;exact⟨_,rfl,grown_trans z je,false,rfl,by simpa using L.out⟩
   ·have m:primeB q=true:=by simpa using m
    rcases Nat.eq_zero_or_pos i with G|G
    ·subst G
     have y:=F.out.2.1 m (λh=>by omega);have g:∀w',Ext wr w'->w'.cell? ⟨b,o,none⟩=some (.int .i64 q):=g;go_wp2;refine wp_region_held_drew (S:=(λw'=>Ext wr w')) (by kernel_rfl) (by first|exact grown_drew _ _|assumption) (λl => ?_);refine tk 0 ?_;refine tk 1 ?_;refine tk 2 ?_;refine tk 3 ?_;refine eu 4 (λM n => ?_);go_simp;go_at_call 275;refine Calls.mono (Calls.rel (w0:=wr) (by first|assumption|exact grown_drew _ _) (mB q _)) ?_;rintro N O ⟨P,rfl,je,qK,rfl⟩;go_wp2_with fail
     refine ko n ?_ (λl => ?_)
     ·first|exact grown_drew _ _|assumption
     clear n M;refine tk 5 ?_;refine tk 6 ?_;refine tk 7 ?_;refine tk 8 ?_;refine tk 9 ?_;refine eH 10 ?_;refine eH 11 ?_;refine eH 12 ?_;refine eH 13 ?_;refine eH 14 ?_;refine eH 15 ?_;refine eH 16 ?_;refine eH 17 ?_;refine eH 18 ?_;refine eH 19 ?_;refine tk 20 ?_;refine tk 21 ?_;refine wpAnyH_done (by kernel_rfl) ?_ _;clear g;go_wp2;go_roundw
     case rel=>exact⟨1,by go_num,by omega,grown_trans z je,y⟩
     case measure=>simp[intOf];omega
    ·have e:=F.out.2.2 G
     obtain⟨k,B⟩:∃k,i=k+1:=⟨i-1,by omega⟩
     have e:∀w',Ext wr w'->w'.cell? ⟨b,o+k,none⟩=some (.int .i64 q'):=λw' h=>by
      have:=e w' h;rw[B,Nat.add_sub_cancel] at this;exact this
     have Y:(i:Int)>0:=by omega
     have Z:(0:Int)<=(i:Int):=by omega
     have aa:IntKind.i64.wrap ((i:Int)-1)=(k:Int):=by rw[IntWalk.i64_in _ (by omega)];omega
     have ab:(0:Int)<=(k:Int):=by omega
     have ac:(k:Int)<pr.length:=by omega
     have HI:=Lib.hid B;clear B;by_cases D:q'<q
     ·have y:=F.out.2.1 m (λ_=>D)
      have Q:¬q<=q':=by omega
      go_wp2
      go_region_held3 (λw'=>Ext wr w') (first|exact grown_drew _ _|exact Ext.refl _|assumption)
       (first
        | (go_at_call 275;refine Calls.mono (Calls.rel (w0:=wr) (by assumption) (mB q _)) ?_;rintro N O ⟨P,rfl,je,qK,rfl⟩))
      clear g e;go_wp2;go_roundw
      case rel=>exact⟨i+1,by go_num,by omega,grown_trans z je,y⟩
      case measure=>simp[intOf];omega
     ·have y:=F.out.1 (λh=>D (h.2 (by omega)))
      have Q:q<=q':=by omega
      have L:=Lib.hid y;clear y;go_wp2
      go_region_held3 (λw'=>Ext wr w') (first|exact grown_drew _ _|exact Ext.refl _|assumption)
       (first
        | (go_at_call 275;refine Calls.mono (Calls.rel (w0:=wr) (by assumption) (mB q _)) ?_;rintro N O ⟨P,rfl,je,qK,rfl⟩))
      clear g e;go_wp2;go_ret;exact⟨_,rfl,grown_trans z je,false,rfl,by simpa using L.out⟩
  ·have A:gy pr:=λj J=>hN.out j (by omega)
   have ad:¬(i:Int)<pr.length:=by omega
   have V:=Lib.hid A;clear A hN;go_wp2;go_ret
   first|exact⟨_,rfl,z,true,rfl,by simpa using V.out⟩|exact⟨_,rfl,z,.inr ⟨rfl,V.out⟩⟩
theorem zS (P:Pr) (pr:List Int) (w:World) (pv v:Value) (K S:Nat->Prop) (E:PresV K w pv P) (F:Ints S w v pr) :
  Calls Tryz.prog 197 #[pv,v] w (Ret w λ_ r=>r=.int .i64 (ew P pr)):=by
 obtain⟨vo,vp,vc,rfl,h3⟩:=E;have y:=PresP.box h3 28;have g:Ext w (w.alloc (.cells #[vo,vp,vc] 28)):=World.grownBy_alloc _ _ _;obtain⟨z,dI,dG,_,_,k,i,j,dy⟩:=y.at;simp only[Nat.zero_add] at i j;have A:∀w',Ext (w.alloc (.cells #[vo,vp,vc] 28)) w'->w'.cell? ⟨w.heap.size,0,none⟩=some z/\w'.cell? ⟨w.heap.size,1,none⟩=some dI/\w'.cell? ⟨w.heap.size,2,none⟩=some dG:=λw' h=>⟨h.cell k (by simp),h.cell i (by simp),h.cell j (by simp)⟩;have L:=Lib.hid A;clear A y;have n:=l08Group_ok P _ (.agg #[z,dI,dG]) Any ⟨_,_,_,rfl,dy⟩;obtain⟨a,c,rfl,_,_⟩:=F.shape;have M:=Lib.hid (Ints.ext F g);clear F;go_enter Tryz.func197,Tryz.ntmps197;go_wp2_with fail
 clear k i j;generalize H:w.alloc (.cells #[vo,vp,vc] 28)=w0 at *;clear H;refine Calls.mono n ?_;rintro O N ⟨v1,rfl,p,rfl⟩;cases B:rconsB P with
 | false=>
  have e:ew P pr=1:=by unfold ew;rw[if_neg (by rw[B];decide)]
  have u:=Lib.hid e;clear e B n;go_wp2;go_ret;exact⟨_,rfl,grown_trans g p,by rw[u.out];rfl⟩
 | true=>
  have G:=grp_of_r B;have C:=zR pr N _ S (Ints.ext M.out p);have I:=Lib.hid B;clear B n;go_wp2_with fail
  refine Calls.mono C ?_;rintro Q J ⟨R,rfl,hg2,r,rfl,D⟩;clear C;have b:=grown_trans p hg2;cases r with
  | false=>
   have e:ew P pr=2:=by unfold ew;rw[if_pos I.out,if_neg (λh=>by have:=D.2 h;cases this)]
   have u:=Lib.hid e;clear e D;go_wp2;go_ret;exact⟨_,rfl,grown_trans g b,by rw[u.out];rfl⟩
  | true=>
   have e:ew P pr=if 128<ordP P then 3 else 0:=by unfold ew;rw[if_pos I.out,if_pos (D.1 rfl)]
   have u:=Lib.hid e;clear e D;obtain⟨k,i,j⟩:=L.out J b;go_wp2_with fail
   clear k i j;refine Calls.mono (l10Order_ok J _ P Any G.v ⟨_,_,_,rfl,Pres3.ext dy b⟩) ?_;rintro T U ⟨V,rfl,hg3,rfl⟩;have l:=grown_trans b hg3;by_cases m:128<ordP P
   ·have e:=u.out
    rw[if_pos m] at e;have q:=Lib.hid e;clear e;go_wp2;go_ret;exact⟨_,rfl,grown_trans g l,by rw[q.out];rfl⟩
   ·have e:=u.out
    rw[if_neg m] at e;have q:=Lib.hid e;clear e;go_wp2;go_ret;exact⟨_,rfl,grown_trans g l,by rw[q.out];rfl⟩
def jk (p:Nat):Nat->Nat->Nat
 | 0,_=>1
 | f+1,n=>if n%p=0 then p*jk p f (n/p) else 1
theorem ug {p:Nat}(e:2<=p):∀f g n,1<=n->n<=f->n<=g->jk p f n=jk p g n
 | 0,g,n,h1,h2,_=>by omega
 | f+1,0,n,h1,_,h3=>by omega
 | f + 1,g+1,n,h1,h2,h3=>by
  unfold jk;by_cases h:n%p=0
  ·rw [if_pos h,if_pos h]
   have i:n/p<n:=Nat.div_lt_self h1 e
   have a:1<=n/p:=by
    rcases Nat.eq_zero_or_pos (n/p) with b|b
    ·have:=Nat.div_add_mod n p
     rw[b,h] at this;omega
    ·exact b
   rw[ug e f g (n/p) a (by omega) (by omega)]
  ·rw[if_neg h,if_neg h]
theorem uh (p n:Nat):∃k,k=jk p n n:=⟨_,rfl⟩
noncomputable def prt (p n:Nat):Nat:=Classical.choose (uh p n)
theorem mC (p n:Nat):prt p n=jk p n n:=Classical.choose_spec (uh p n)
theorem oH {p n:Nat}(a:2<=p) (b:1<=n):prt p (p*n)=p*prt p n:=by
 have h1:1<=p*n:=Nat.mul_pos (by omega) b
 have e:n<p*n:=by
  have:2*n<=p*n:=Nat.mul_le_mul_right n a;omega
 rw[mC,mC];obtain⟨k,hk⟩:∃k,p*n=k+1:=⟨p*n-1,by omega⟩;rw[hk];conv=>lhs;unfold jk
 rw[<-hk,Nat.mul_mod_right,if_pos rfl,Nat.mul_div_cancel_left n (by omega)];rw[ug a k n n b (by omega) (Nat.le_refl _)]
theorem zT {p:Nat}(b:2<=p) {q:Nat}(r:1<=q) (u:∀m,p∣q*m->p∣m):∀n,1<=n->prt p (q*n)=prt p n:=by
 intro n;induction n using Nat.strongRecOn with
 | ind n v=>
  intro a;by_cases h:p∣n
  ·obtain ⟨m,rfl⟩:=h
   have g:1<=m:=by
    rcases Nat.eq_zero_or_pos m with h|h
    ·subst h;simp at a
    ·exact h
   have i:m<p*m:=by
    have:2*m<=p*m:=Nat.mul_le_mul_right m b;omega
   rw[Nat.mul_left_comm,oH b (Nat.mul_pos r g),oH b g,v m i g]
  ·have h1:¬p∣q*n:=λl=>h (u n l)
   have e:∀k,1<=k->¬p∣k->prt p k=1:=λk hk a=>by
    rw[mC];obtain⟨j,rfl⟩:∃j,k=j+1:=⟨k-1,by omega⟩;unfold jk;rw[if_neg (λl=>a (Nat.dvd_of_mod_eq_zero l))]
   rw[e _ (Nat.mul_pos r a) h1,e _ a h]
theorem zU {p q:Nat}(b:p=2\/p=3\/p=5\/p=7) (e:q=2\/q=3\/q=5\/q=7) (a:p≠q) (m:Nat) (h:p∣q*m):p∣m:=
 Nat.Coprime.dvd_of_dvd_mul_left (qm b e a) h
section
variable {P:Pr}
theorem uj (G:Grp P) (Q:Nat->Prop) {p:Nat}(i:p=2\/p=3\/p=5\/p=7):∀f d,d+f=P.orders.length->prt p (dg P Q f d)=dg P (λk=>Q k/\gt P.orders k=(p:Int)) f d
 | 0,d,_=>by
  show prt p 1=1
  rw[mC];unfold jk;rw[if_neg];rcases i with rfl|rfl|rfl|rfl<;>decide
 | f + 1,d,h=>by
  have j:=uj G Q i f (d+1) (by omega);have a:=iG G Q f (d+1) (by omega);have b:2<=p:=by omega
  obtain⟨q,h1,h2,h3⟩:=fG G (show d<P.orders.length by omega);unfold dg;by_cases g:Q d
  ·rw [if_pos g,h2]
   by_cases l:gt P.orders d=(p:Int)
   ·have:q=p:=by omega
    subst this;rw[if_pos ⟨g,l⟩,oH b a,j]
   ·have n:p≠q:=λe=>l (by rw[h1,e])
    rw[if_neg (λr=>l r.2),Nat.one_mul,zT b (by omega) (λm u=>zU i h3 n m u) _ a,j]
  ·rw[if_neg g,if_neg (λr=>g r.1),Nat.one_mul,Nat.one_mul,j]
theorem uk (G:Grp P) (Q R:Nat->Prop) (h:∀k,k<P.orders.length->Q k->R k):dg P Q P.orders.length 0<=dg P R P.orders.length 0:=by
 have h1:dg P Q P.orders.length 0∣dg P R P.orders.length 0:=by
  have b:=iN (P:=P) (Q:=Q) (R:=λk=>R k/\¬Q k) P.orders.length 0 (λk _ _ hk a=>a.2 hk)
  have g:dg P (λk=>Q k\/(R k/\¬Q k)) P.orders.length 0=dg P R P.orders.length 0:=fC _ _ (λk _ hk=>⟨λa=>a.elim (h k (by omega)) (λa=>a.1),λa=>by
   by_cases e:Q k
   ·exact .inl e
   ·exact .inr ⟨a,e⟩⟩)
  rw[<-g,<-b];exact Nat.dvd_mul_right _ _
 exact Nat.le_of_dvd (iG G R _ _ (Nat.zero_add _)) h1
theorem qL (G:Grp P):((dg P (λ_=>True) P.orders.length 0:Nat):Int)=ordP P:=by
 have key:∀k,k<=P.orders.length->((lC P (λ_=>True) k:Nat):Int)=prodTo P.orders k:=by
  intro k;induction k with
  | zero=>intro _;rfl
  | succ k a=>
   intro h;obtain⟨q,h1,h2,h3⟩:=fG G (show k<P.orders.length by omega);rw[qF,if_pos trivial,Int.natCast_mul,a (by omega),h2,prodTo,h1]
 exact key _ (Nat.le_refl _)
theorem mD (G:Grp P) (Q:Nat->Prop):1<=dg P Q P.orders.length 0/\dg P Q P.orders.length 0<=729:=by
 have h1:=iG G Q _ _ (Nat.zero_add _);have a:=uk G Q (λ_=>True) (λ_ _ _=>trivial);have b:=qL G;have e:ordP P<=729:=G.v.le729;omega
theorem um (G:Grp P) (Q R:Nat->Prop) (i:∀d,Q d->d<P.orders.length):dg P (λd=>Q d/\R d) P.orders.length 0=dg P Q P.orders.length 0↔∀d,Q d->R d:=by
 have b:=iN (P:=P) (Q:=λd=>Q d/\R d) (R:=λd=>Q d/\¬R d) P.orders.length 0 (λk _ _ hk a=>a.2 hk.2)
 have j:dg P (λk=>(Q k/\R k)\/(Q k/\¬R k)) P.orders.length 0=dg P Q P.orders.length 0:=fC _ _ (λk _ _=>⟨λa=>a.elim (λa=>a.1) (λa=>a.1),λa=>by
  by_cases e:R k
  ·exact .inl ⟨a,e⟩
  ·exact .inr ⟨a,e⟩⟩)
 rw[j] at b;constructor
 ·intro h d g
  refine Classical.byContradiction λl => ?_;rw[h] at b;have m:dg P (λd=>Q d/\¬R d) P.orders.length 0=1:=Nat.eq_of_mul_eq_mul_left (iG G Q _ _ (Nat.zero_add _)) (by rw[b,Nat.mul_one]);exact qG G _ _ (Nat.zero_add _) m d (Nat.zero_le _) (i d g) ⟨g,l⟩
 ·intro h
  exact fC _ _ (λk _ _=>⟨λa=>a.1,λa=>⟨a,h k a⟩⟩)
end
theorem uq (k:Nat) (h:k<=100000):wrap64 (k:Int)=(k:Int):=IntWalk.wrap64_in _ (by omega)
theorem zV (k:Nat) (h:k<=100000):IntKind.i64.wrap (k:Int)=(k:Int):=IntWalk.i64_in _ (by omega)
theorem zW (n p:Nat) (L:1<=n) (G:2<=p) (z:n<=100000) (M:p<=100000) (w:World) :
  Calls Tryz.prog 347 #[.int .i64 (n:Int),.int .i64 (p:Int)] w (Ret w λ_ r=>r=.int .i64 ((prt p n:Nat):Int)):=by
 go_enter Tryz.func347,Tryz.ntmps347;go_wp2;go_loopw [0,5] (λA N wr=>∃m o:Nat,A=.int .i64 (m:Int)/\N=.int .i64 (o:Int)/\1<=m/\m<=n/\o*m<=n/\1<=o/\w=wr/\Hid (o*prt p m=prt p n)) (λA _ _=>(intOf A).toNat)
 case atStart=>exact⟨n,1,rfl,rfl,L,Nat.le_refl _,by omega,by omega,rfl,Lib.hid (Nat.one_mul _)⟩
 case round=>
  obtain⟨m,o,rfl,rfl,hm1,hm2,hom,ho1,rfl,y⟩:=hrel;have O:o<=n:=Nat.le_trans (Nat.le_mul_of_pos_right o (by omega)) hom;have a:((m:Int)%(p:Int))=((m%p:Nat):Int):=(Int.natCast_emod m p).symm;have H:(0:Int)<(p:Int):=by omega
  by_cases l:m%p=0
  ·have P:(m:Int)%(p:Int)=0:=by rw[a,l];rfl
   have g:=Nat.div_add_mod m p;rw[l,Nat.add_zero] at g;obtain⟨q,B⟩:∃q,q=m/p:=⟨_,rfl⟩;rw[<-B] at g
   have i:1<=q:=by
    rcases Nat.eq_zero_or_pos q with h|h
    ·rw[h] at g;simp at g;omega
    ·exact h
   have u:q<m:=by
    have:2*q<=p*q:=Nat.mul_le_mul_right q G;omega
   have I:(m:Int)/(p:Int)=(q:Int):=by
    rw[B];exact(Int.natCast_ediv m p).symm
   have j:o*p*q<=n:=by rw[Nat.mul_assoc,g];exact hom
   have v:o*p<=n:=Nat.le_trans (Nat.le_mul_of_pos_right (o*p) i) j;have J:(o:Int)*(p:Int)=((o*p:Nat):Int):=(Int.natCast_mul o p).symm;have b:1<=o*p:=Nat.mul_pos ho1 (by omega);have C:Hid (o*p*prt p q=prt p n):=Lib.hid (by rw[<-y.out,<-g,oH G i,Nat.mul_assoc]);have D:q<=n:=by omega
   have E:=Lib.hid (And.intro j (And.intro b u));clear j b g B a l hom y u;generalize o*p=op at *;have F:=uq op (Nat.le_trans v z);go_wp2;go_roundw
   case rel=>exact⟨q,op,rfl,by first|rfl|exact congrArg (Value.int .i64) F,i,D,E.out.1,E.out.2.1,by first|trivial|rfl,C⟩
   case measure=>have:=E.out.2.2;simp[intOf];omega
  ·have Q:¬(m:Int)%(p:Int)=0:=by rw[a];omega
   have K:prt p m=1:=by
    rw[mC];obtain⟨k,rfl⟩:∃k,m=k+1:=⟨m-1,by omega⟩;unfold jk;rw[if_neg l]
   have e:(o:Int)=((prt p n:Nat):Int):=by rw[<-y.out,K,Nat.mul_one]
   have R:=Lib.hid e;clear e K y a l;go_wp2;go_ret;refine⟨_,rfl,Ext.refl _,?_⟩;show Value.int .i64 (o:Int)=_
   rw[R.out]
def gH:Nat->Nat->Nat->Nat
 | 0,n,_=>n
 | f+1,n,p=>if n%p=0 then gH f (n/p) p else n
theorem ur (f n p:Nat) (h:¬n%p=0):gH f n p=n:=by
 cases f with
 | zero=>rfl
 | succ f=>unfold gH;rw[if_neg h]
def jT (n p:Nat):Nat:=if n<p*p then n else p
def mE:Nat->Nat->Nat->List Int->Option (List Int)
 | 0,_,_,_=>none
 | f+1,n,p,ps=>if n<=1 then some ps else mE f (gH 10 n (jT n p)) (jT n p+1) (if n%jT n p=0 then ps++[(jT n p:Int)] else ps)
def dr (n:Int):List Int:=([2,3,5,7]:List Int).filter (λq=>n%q == 0)
theorem zX:((List.range 730).all λn=>n == 0 || 85766121000000%n != 0 || decide (mE 40 n 2 []=some (dr (n:Int))))=true:=by decide +kernel
theorem zY {n:Nat}(h1:1<=n) (b:n<=729) (a:n∣210 ^ 6):mE 40 n 2 []=some (dr (n:Int)):=by
 have h:=(List.all_eq_true.1 zX) n (List.mem_range.2 (by omega));have e:85766121000000%n=0:=Nat.mod_eq_zero_of_dvd a;rw[e] at h;simp only[Bool.or_eq_true,beq_iff_eq,bne_self_eq_false,decide_eq_true_eq] at h;rcases h with(h|h)|h
 ·omega
 ·cases h
 ·exact h
def fZ (v e:Value):Prop:=v.ownBlock=none\/e.ownBlock=none\/v.ownBlock≠e.ownBlock
theorem fZ.l {v e:Value}(h:fZ v e):v.ownBlock=none\/v.ownBlock≠e.ownBlock:=by
 rcases h with h|h|h
 ·exact .inl h
 ·rw [h];cases hv:v.ownBlock
  ·exact .inl rfl
  ·exact .inr (λa=>by cases a)
 ·exact .inr h
theorem fZ.symm {v e:Value}(h:fZ v e):fZ e v:=by
 rcases h with h|h|h
 ·exact .inr (.inl h)
 ·exact .inl h
 ·exact .inr (.inr (λa=>h a.symm))
theorem fZ.app {B:Nat}{w:World}{v b e:Value}{l:List Int}(h:fZ v e) (i:Own B w e l) (a:b.ownBlock=v.ownBlock\/b.ownBlock=some w.heap.size):fZ b e:=by
 rcases a with a|a
 ·unfold fZ;rw[a];exact h
 ·refine .inr (.inr (λg => ?_))
  rw[a] at g;have:=(i.lt _ g.symm).2;omega
theorem mF {i:Array Oper}{rest:List Oper}{o:Oper}{a:Act}{Q:Exit->Act->World->Prop}{w:World}(q:o.guard=none) (s x:Operand)
  (z:o.op=Op.call { callee:=Callee.builtin Builtin.append,args := #[s,x],argTypes := #[24,24] }) (base:Nat) (v:Value) (l:List Int) (A:a.eval s=v) (k:Own base w v l)
  (u:Value) (m:List Int) (hx:a.eval x=u) (S:Nat->Prop) (p:Ints S w u m) (n:l.length+m.length<=2147483648) (e:base<=w.heap.size)
  (h:∀g w',Own base w' g (l++m)->w.grownBy w' v.ownBlock->(g.ownBlock=v.ownBlock\/g.ownBlock=some w.heap.size)->wpList Tryz.prog i Q rest (a.put o.dst g) w') :
  wpList Tryz.prog i Q (o :: rest) a w:=by
 obtain⟨B,cap,rfl,⟨_,_,C⟩,hc⟩:=p;refine wp_app 24 2 (.int .i64 0) 8 und_ints Tryz.infoInt rfl (by decide) q s x z base v (l.map (Value.int .i64)) A k.v B m.length cap (m.map (Value.int .i64)) hx (by simp) C ?_ ?_ (by simpa using n) e ?_
 ·intro j y
  obtain⟨b,off,u,h1,_,_,r,h3⟩:=hc j y;exact⟨b,off,h1,by rw[r,h3];simp[gt,y]⟩
 ·intro u p
  simp at p
  obtain⟨x,_,rfl⟩:=p;rfl
 ·intro g w' h1 r _ D
  exact h g w' (Own.of (by rw[List.map_append];exact h1)) r D
theorem uu (k:Nat) (h:k<=730*730):IntKind.i64.wrap (k:Int)=(k:Int):=IntWalk.i64_in _ (by omega)
theorem uw (k:Nat) (h:k<=730*730):wrap64 (k:Int)=(k:Int):=IntWalk.wrap64_in _ (by omega)
theorem zZ (n:Nat) (ax:1<=n) (ay:n<=729) (az:n∣210 ^ 6) (w:World) :
  Calls Tryz.prog 193 #[.int .i64 (n:Int)] w (Ret w λw' r=>∃v e,r=.tuple #[v,e]/\Own w.heap.size w' v (dr (n:Int))):=by
 have HA:=Lib.hid (zY ax ay az);clear az;obtain⟨N,hN⟩:∃N,N=dr (n:Int):=⟨_,rfl⟩;rw[<-hN] at HA ⊢;clear hN;go_enter Tryz.func193,Tryz.ntmps193;go_wp2;go_loopg [0,4,5,6] 40 (λgk nv aH aI pv wr=>∃(m p:Nat) (ps es:List Int) (vp ve:Value),vp=aH/\ve=aI/\nv=.int .i64 (m:Int)/\pv=.int .i64 (p:Int)/\1<=m/\m<=729/\2<=p/\p<=730/\ps.length+gk<=40/\es.length+gk<=40/\Ext w wr/\Own w.heap.size wr vp ps/\Own w.heap.size wr ve es/\fZ vp ve/\Hid (mE gk m p ps=some N))
 case atStart=>exact⟨n,2,[],[],_,_,rfl,rfl,rfl,rfl,ax,ay,Nat.le_refl _,by omega,by simp,by simp,Ext.refl _,World.ownsRow_nil _ _ _ _,World.ownsRow_nil _ _ _ _,.inl rfl,HA⟩
 case round=>
  obtain⟨m,p,ps,es,vp,ve,rfl,rfl,rfl,rfl,hm1,hm2,hp1,hp2,hlp,hle,hg,z,B,hD,hF⟩:=hrel
  have aJ:∃g',gk=g'+1:=by
   cases gk with
   | zero=>have:=hF.out;cases this
   | succ g'=>exact⟨g',rfl⟩
  obtain⟨g',aB⟩:=aJ;rw[aB] at hF;have I:=Lib.hid aB;have b:=hF.out;unfold mE at b;by_cases hm:m<=1
  ·rw [if_pos hm] at b
   have aK:ps=N:=Option.some.inj b;subst aK;have aL:m=1:=by omega
   subst aL;clear b hF;go_wp2;go_ret2
   exact⟨_,rfl,hg,_,_,rfl,z⟩
  ·rw [if_neg hm] at b
   by_cases J:m<p*p
   ·have K:jT m p=m:=by unfold jT;rw[if_pos J]
    rw[K] at b;have ag:2<=m:=by omega
    have aM:m<=729:=hm2;have L:=Lib.hid b;clear b hF K;have C:m<2 ^ 10:=by omega
    have M:=Lib.hid C;clear C;have O:(p:Int)*(p:Int)=((p*p:Nat):Int):=(Int.natCast_mul p p).symm;have g:p*p<=730*730:=Nat.mul_le_mul hp2 hp2;generalize p*p=pp at *;have ah:=uu pp g;have P:=uw pp g;go_wp2;clear O g ah P J;go_loopg [0,7] 10 (λgk nv ev ai=>∃k e:Nat,nv=.int .i64 (k:Int)/\ev=.int .i64 (e:Int)/\e+gk=10/\1<=k/\k<=729/\wr=ai/\Hid (k<2 ^ gk/\gH gk k m=gH 10 m m/\(e=0->k=m)/\(0<e->m%m=0)))
    case atStart=>exact⟨m,0,rfl,rfl,rfl,hm1,hm2,rfl,Lib.hid ⟨M.out,rfl,λ_=>rfl,λh=>by omega⟩⟩
    case round=>
     obtain⟨k,e,rfl,rfl,hge,hk1,hk2,rfl,hI⟩:=hrel;have A:((k:Int)%(m:Int))=((k%m:Nat):Int):=(Int.natCast_emod k m).symm;have aD:(0:Int)<(m:Int):=by omega
     have aN:((m:Int) == 0)=false:=by simp;omega
     by_cases i:k%m=0
     ·have aO:(k:Int)%(m:Int)=0:=by rw[A,i];rfl
      have H:=Nat.div_add_mod k m;rw[i,Nat.add_zero] at H
      obtain ⟨q,u⟩:∃g2,gk=g2+1:=by
       cases gk with
       | zero=>have:=hI.out.1;simp at this;omega
       | succ g2=>exact⟨g2,rfl⟩
      obtain⟨c,hc⟩:∃c,c=k/m:=⟨_,rfl⟩;rw[<-hc] at H
      have Q:1<=c:=by
       rcases Nat.eq_zero_or_pos c with h|h
       ·rw[h] at H;simp at H;omega
       ·exact h
      have ak:2*c<=k:=by
       have:2*c<=m*c:=Nat.mul_le_mul_right c ag;omega
      have aE:(k:Int)/(m:Int)=(c:Int):=by
       rw[hc];exact(Int.natCast_ediv k m).symm
      have al:Hid (c<2 ^ q/\gH q c m=gH 10 m m/\(e+1=0->c=m)/\(0<e+1->m%m=0)):=by
       obtain⟨i1,R,S,i4⟩:=hI.out;refine Lib.hid ⟨?_,?_,λh=>by omega,λ_ => ?_⟩
       ·rw[u,Nat.pow_succ] at i1;omega
       ·rw[<-R,u,hc];show gH q (k/m) m=if k%m=0 then gH q (k/m) m else k;rw[if_pos i]
       ·rcases Nat.eq_zero_or_pos e with h|h
        ·rw[S h] at i;exact i
        ·exact i4 h
      have E:c<=729:=by omega
      have HH:=Lib.hid (And.intro u H);clear hI H hc A i ak;go_wp2;go_roundg q
      case rel=>exact⟨c,e+1,rfl,by go_num,by have:=HH.out.1;omega,Q,E,rfl,al⟩
      case measure=>have:=HH.out.1;omega
     ·have aP:¬(k:Int)%(m:Int)=0:=by rw[A];omega
      obtain⟨i1,R,S,i4⟩:=hI.out;rw[ur _ _ _ i] at R;rw[<-R] at L;clear A hI i1 R;by_cases he:0<e
      ·have y:=i4 he
       have a:=L.out;rw[if_pos y] at a;have F:=Lib.hid a;clear L a S i4 y i;have aR:(0:Int)<(e:Int):=by omega
       go_wp2_with (first
        | (at_builtin;refine mF rfl _ _ rfl w.heap.size _ ps rfl (z.ext0 (World.grownBy_alloc _ _ _)) _ [(m:Int)] rfl Any (Own.ints (World.ownsRow_lit wr #[.int .i64 (m:Int)] 1 (Nat.zero_le _) (by decide) rfl) (by simp)) (by simp;omega) (by have:=hg.size;simp;omega) ?_;intro v5 w5 T G U;have V:Ext w w5:=grown_own (grown_trans hg (World.grownBy_alloc _ _ _)) G (λj J ap=>by have:=(z.lt j J).1;omega);have D:Own w.heap.size w5 ve es:=(B.ext0 (World.grownBy_alloc _ _ _)).ext G (fZ.symm hD).l;have W:fZ v5 ve:=hD.app (B.ext0 (World.grownBy_alloc _ _ _)) U;clear G U hD z B)
        | (at_builtin;refine mF rfl _ _ rfl w.heap.size _ es rfl (D.ext0 (World.grownBy_alloc _ _ _)) _ [(e:Int)] rfl Any (Own.ints (World.ownsRow_lit w5 #[.int .i64 (e:Int)] 1 (Nat.zero_le _) (by decide) rfl) (by simp)) (by simp;omega) (by have:=V.size;simp;omega) ?_;intro v6 w6 aq X ar;have au:Ext w w6:=grown_own (grown_trans V (World.grownBy_alloc _ _ _)) X (λj J ap=>by have:=(D.lt j J).1;omega);have Y:Own w.heap.size w6 v5 (ps++[(m:Int)]):=(T.ext0 (World.grownBy_alloc _ _ _)).ext X W.l;have av:fZ v6 v5:=(fZ.symm W).app (T.ext0 (World.grownBy_alloc _ _ _)) ar))
       go_roundg g'
       case rel=>exact⟨k,m+1,_,_,_,_,rfl,rfl,rfl,by go_num,hk1,hk2,by omega,by omega,by have:=I.out;simp;omega,by have:=I.out;simp;omega,au,Y,aq,av.symm,F⟩
       case measure=>have:=I.out;omega
      ·have aw:e=0:=by omega
       subst aw;have Z:=S rfl;have y:¬m%m=0:=by rw[Z] at i;exact i
       have a:=L.out;rw[if_neg y] at a;have F:=Lib.hid a;clear L a S i4 y i Z;go_wp2;go_roundg g'
       case rel=>exact⟨k,m+1,_,_,_,_,rfl,rfl,rfl,by go_num,hk1,hk2,by omega,by omega,by have:=I.out;omega,by have:=I.out;omega,hg,z,B,hD,F⟩
       case measure=>have:=I.out;omega
   ·have K:jT m p=p:=by unfold jT;rw[if_neg J]
    rw[K] at b;have ag:2<=p:=by omega
    have aM:p<=729:=by have h0:1*p<=p*p:=Nat.mul_le_mul_right p (by omega);omega
    have L:=Lib.hid b;clear b hF K;have C:m<2 ^ 10:=by omega
    have M:=Lib.hid C;clear C;have O:(p:Int)*(p:Int)=((p*p:Nat):Int):=(Int.natCast_mul p p).symm;have g:p*p<=730*730:=Nat.mul_le_mul hp2 hp2;generalize p*p=pp at *;have ah:=uu pp g;have P:=uw pp g;go_wp2;clear O g ah P J;go_loopg [0,7] 10 (λgk nv ev ai=>∃k e:Nat,nv=.int .i64 (k:Int)/\ev=.int .i64 (e:Int)/\e+gk=10/\1<=k/\k<=729/\wr=ai/\Hid (k<2 ^ gk/\gH gk k p=gH 10 m p/\(e=0->k=m)/\(0<e->m%p=0)))
    case atStart=>exact⟨m,0,rfl,rfl,rfl,hm1,hm2,rfl,Lib.hid ⟨M.out,rfl,λ_=>rfl,λh=>by omega⟩⟩
    case round=>
     obtain⟨k,e,rfl,rfl,hge,hk1,hk2,rfl,hI⟩:=hrel;have A:((k:Int)%(p:Int))=((k%p:Nat):Int):=(Int.natCast_emod k p).symm;have aD:(0:Int)<(p:Int):=by omega
     have aN:((p:Int) == 0)=false:=by simp;omega
     by_cases i:k%p=0
     ·have aO:(k:Int)%(p:Int)=0:=by rw[A,i];rfl
      have H:=Nat.div_add_mod k p;rw[i,Nat.add_zero] at H
      obtain ⟨q,u⟩:∃g2,gk=g2+1:=by
       cases gk with
       | zero=>have:=hI.out.1;simp at this;omega
       | succ g2=>exact⟨g2,rfl⟩
      obtain⟨c,hc⟩:∃c,c=k/p:=⟨_,rfl⟩;rw[<-hc] at H
      have Q:1<=c:=by
       rcases Nat.eq_zero_or_pos c with h|h
       ·rw[h] at H;simp at H;omega
       ·exact h
      have ak:2*c<=k:=by
       have:2*c<=p*c:=Nat.mul_le_mul_right c ag;omega
      have aE:(k:Int)/(p:Int)=(c:Int):=by
       rw[hc];exact(Int.natCast_ediv k p).symm
      have al:Hid (c<2 ^ q/\gH q c p=gH 10 m p/\(e+1=0->c=m)/\(0<e+1->m%p=0)):=by
       obtain⟨i1,R,S,i4⟩:=hI.out;refine Lib.hid ⟨?_,?_,λh=>by omega,λ_ => ?_⟩
       ·rw[u,Nat.pow_succ] at i1;omega
       ·rw[<-R,u,hc];show gH q (k/p) p=if k%p=0 then gH q (k/p) p else k;rw[if_pos i]
       ·rcases Nat.eq_zero_or_pos e with h|h
        ·rw[S h] at i;exact i
        ·exact i4 h
      have E:c<=729:=by omega
      have HH:=Lib.hid (And.intro u H);clear hI H hc A i ak;go_wp2;go_roundg q
      case rel=>exact⟨c,e+1,rfl,by go_num,by have:=HH.out.1;omega,Q,E,rfl,al⟩
      case measure=>have:=HH.out.1;omega
     ·have aP:¬(k:Int)%(p:Int)=0:=by rw[A];omega
      obtain⟨i1,R,S,i4⟩:=hI.out;rw[ur _ _ _ i] at R;rw[<-R] at L;clear A hI i1 R;by_cases he:0<e
      ·have y:=i4 he
       have a:=L.out;rw[if_pos y] at a;have F:=Lib.hid a;clear L a S i4 y i;have aR:(0:Int)<(e:Int):=by omega
       go_wp2_with (first
        | (at_builtin;refine mF rfl _ _ rfl w.heap.size _ ps rfl (z.ext0 (World.grownBy_alloc _ _ _)) _ [(p:Int)] rfl Any (Own.ints (World.ownsRow_lit wr #[.int .i64 (p:Int)] 1 (Nat.zero_le _) (by decide) rfl) (by simp)) (by simp;omega) (by have:=hg.size;simp;omega) ?_;intro v5 w5 T G U;have V:Ext w w5:=grown_own (grown_trans hg (World.grownBy_alloc _ _ _)) G (λj J ap=>by have:=(z.lt j J).1;omega);have D:Own w.heap.size w5 ve es:=(B.ext0 (World.grownBy_alloc _ _ _)).ext G (fZ.symm hD).l;have W:fZ v5 ve:=hD.app (B.ext0 (World.grownBy_alloc _ _ _)) U;clear G U hD z B)
        | (at_builtin;refine mF rfl _ _ rfl w.heap.size _ es rfl (D.ext0 (World.grownBy_alloc _ _ _)) _ [(e:Int)] rfl Any (Own.ints (World.ownsRow_lit w5 #[.int .i64 (e:Int)] 1 (Nat.zero_le _) (by decide) rfl) (by simp)) (by simp;omega) (by have:=V.size;simp;omega) ?_;intro v6 w6 aq X ar;have au:Ext w w6:=grown_own (grown_trans V (World.grownBy_alloc _ _ _)) X (λj J ap=>by have:=(D.lt j J).1;omega);have Y:Own w.heap.size w6 v5 (ps++[(p:Int)]):=(T.ext0 (World.grownBy_alloc _ _ _)).ext X W.l;have av:fZ v6 v5:=(fZ.symm W).app (T.ext0 (World.grownBy_alloc _ _ _)) ar))
       go_roundg g'
       case rel=>exact⟨k,p+1,_,_,_,_,rfl,rfl,rfl,by go_num,hk1,hk2,by omega,by omega,by have:=I.out;simp;omega,by have:=I.out;simp;omega,au,Y,aq,av.symm,F⟩
       case measure=>have:=I.out;omega
      ·have aw:e=0:=by omega
       subst aw;have Z:=S rfl;have y:¬m%p=0:=by rw[Z] at i;exact i
       have a:=L.out;rw[if_neg y] at a;have F:=Lib.hid a;clear L a S i4 y i Z;go_wp2;go_roundg g'
       case rel=>exact⟨k,p+1,_,_,_,_,rfl,rfl,rfl,by go_num,hk1,hk2,by omega,by omega,by have:=I.out;omega,by have:=I.out;omega,hg,z,B,hD,F⟩
       case measure=>have:=I.out;omega
def gI (n q:Int):List Int:=([2,3,5,7]:List Int).filter (λx=>decide (x<q) && n%x == 0)
theorem z6 (n q:Int) (k:2<=q) (l:q<=7):gI n (q+1)=if (primeB q && n%q == 0)=true then gI n q++[q] else gI n q:=by
 have a:q=2\/q=3\/q=4\/q=5\/q=6\/q=7:=by omega
 unfold gI primeB;rcases a with rfl|rfl|rfl|rfl|rfl|rfl<;>simp only[List.filter_cons,List.filter_nil]<;>generalize (n%2 == 0)=b2<;>generalize (n%3 == 0)=b<;>generalize (n%4 == 0)=e<;>generalize (n%5 == 0)=g<;>generalize (n%6 == 0)=i<;>generalize (n%7 == 0)=j<;>revert b2 b e g i j<;>decide
theorem z7 (n:Int) (q:Nat) (e:2<=q) (g:q<=7):gI n ((q+1:Nat):Int)=if primeB (q:Int)=true/\n%(q:Int)=0 then gI n q++[(q:Int)] else gI n q:=by
 have h:=z6 n (q:Int) (by omega) (by omega);rw[show((q+1:Nat):Int)=(q:Int)+1 from rfl,h];by_cases h1:primeB (q:Int)=true
 ·by_cases b:n%(q:Int)=0
  ·rw[if_pos (by rw[h1,b];rfl),if_pos ⟨h1,b⟩]
  ·rw[if_neg (λa=>b (by simpa [h1] using a)),if_neg (λa=>b a.2)]
 ·rw[if_neg (λa=>h1 (Bool.and_eq_true_iff.1 a).1),if_neg (λa=>h1 a.1)]
theorem z8 (n:Int):gI n 8=dr n:=by
 unfold gI dr;refine List.filter_congr (λx hx => ?_);simp only[List.mem_cons,List.not_mem_nil,or_false] at hx;rcases hx with rfl|rfl|rfl|rfl<;>simp
theorem Aa (n:Int):gI n 2=[]:=by
 unfold gI;simp[List.filter]
theorem Ab (n q:Int):(gI n q).length<=4:=List.length_filter_le _ _
theorem kE (n:Int):(dr n).length<=4:=List.length_filter_le _ _
theorem Ac {n q:Int}(h:q∈dr n):(q=2\/q=3\/q=5\/q=7)/\n%q=0:=by
 unfold dr at h;have a:=List.mem_filter.1 h;simpa using a
theorem ux (n:Int):(dr n).Pairwise (· < ·):=List.Pairwise.filter _ (by decide)
section
variable {P:Pr}
theorem uy (G:Grp P) (Q:Nat->Prop):∀f d,d+f=P.orders.length->dg P Q f d∣210 ^ f
 | 0,d,_=>Nat.dvd_refl _
 | f + 1,d,h=>by
  have b:=uy G Q f (d+1) (by omega);obtain⟨q,h1,h2,e⟩:=fG G (show d<P.orders.length by omega);unfold dg;rw[Nat.pow_succ,Nat.mul_comm (210 ^ f)];refine Nat.mul_dvd_mul ?_ b;by_cases a:Q d
  ·rw [if_pos a,h2]
   rcases e with rfl|rfl|rfl|rfl<;>decide
  ·rw[if_neg a];exact Nat.one_dvd _
theorem Ad (G:Grp P):∃N:Nat,ordP P=(N:Int)/\1<=N/\N<=729/\N∣210 ^ 6:=by
 refine⟨dg P (λ_=>True) P.orders.length 0,(qL G).symm,(mD G _).1,(mD G _).2,?_⟩;exact Nat.dvd_trans (uy G _ _ _ (Nat.zero_add _)) (Nat.pow_dvd_pow 210 G.v.n6)
end
theorem uz (P:Pr) (G:Grp P) (w:World):Calls Tryz.prog 193 #[.int .i64 (ordP P)] w (Ret w λw' r=>∃v e,r=.tuple #[v,e]/\Own w.heap.size w' v (dr (ordP P))):=by
 obtain⟨N,a,h1,h2,h3⟩:=Ad G;rw[a];exact zZ N h1 h2 h3 w
theorem Ae {B H:Nat}{w:World}(hB:B<=w.heap.size) (hH:w.heap.size=H):Own B (w.alloc (.cells #[] 2)) (.slice (some ⟨H,0,none⟩) 0 0) []:=by
 subst hH;exact World.ownsRow_lit w #[] 0 hB (by decide) rfl
theorem uA (P:Pr) (hP:Valid P) (w:World) (pv:Value) (Sp:Nat->Prop) (M:PresV Sp w pv P) :
  Calls Tryz.prog 198 #[pv] w (Ret w λw' v=>Own w.heap.size w' v (dr (ordP P))):=by
 have C:ordP P<=729:=hP.le729;have D:=hP.ordP_pos;obtain⟨vo,vp,vc,rfl,h3⟩:=M;have E:=PresP.box h3 28;have F:Ext w (w.alloc (.cells #[vo,vp,vc] 28)):=World.grownBy_alloc _ _ _;obtain⟨G,dI,dG,_,_,m,e,g,dy⟩:=E.at;simp only[Nat.zero_add] at e g;have H:∀w',Ext (w.alloc (.cells #[vo,vp,vc] 28)) w'->w'.cell? ⟨w.heap.size,0,none⟩=some G/\w'.cell? ⟨w.heap.size,1,none⟩=some dI/\w'.cell? ⟨w.heap.size,2,none⟩=some dG:=λw' h=>⟨h.cell m (by simp),h.cell e (by simp),h.cell g (by simp)⟩;have HB:=Lib.hid H;clear H E m e g;have I:(w.alloc (.cells #[vo,vp,vc] 28)).heap.size=w.heap.size+1:=by simp
 obtain⟨n,N⟩:∃n,n=ordP P:=⟨_,rfl⟩;rw[<-N] at C D ⊢;have HN:=Lib.hid N;clear N;go_enter Tryz.func198,Tryz.ntmps198;go_wp2_with fail
 generalize O:w.alloc (.cells #[vo,vp,vc] 28)=w0 at *;clear O;have J:=Ae (B:=w0.heap.size) (Nat.le_refl _) I;have Q:=Lib.hid J;clear J I;go_loopw [3,4] (λov R wr=>∃(q:Nat) (S:Value),S=ov/\R=.int .i64 (q:Int)/\2<=q/\q<=8/\Ext w0 wr/\Own w0.heap.size wr S (gI n q)) (λ_ R _=>8-(intOf R).toNat)
 case atStart=>exact⟨2,_,rfl,by go_num,Nat.le_refl _,by omega,World.grownBy_alloc _ _ _,by show Own _ _ _ (gI n 2);rw[Aa];exact Q.out⟩
 case round=>
  obtain⟨q,S,rfl,rfl,hq2,Ee,hg,hO⟩:=hrel;by_cases K:q<=7
  ·have Y:(q:Int)<=7:=by omega
   have p:=mB (q:Int) wr;have r:=z7 n q hq2 K;obtain⟨b,Z⟩:∃b,b=primeB (q:Int):=⟨_,rfl⟩;rw[<-Z] at p r;have A:=Lib.hid r;clear r Z;have ag:=Ab n q;go_wp2_with fail
   refine Calls.mono p ?_;rintro e1 w1 ⟨v1,rfl,u,rfl⟩;clear p;have a:=grown_trans hg u;cases b with
   | false=>
    have i:=A.out;rw[if_neg (λT=>by cases T.1)] at i;have k:=Lib.hid i;clear i A;go_wp2;go_roundw
    case rel=>exact⟨q+1,_,rfl,by go_num,by omega,by omega,a,by rw[k.out];exact hO.ext0 u⟩
    case measure=>simp[intOf];omega
   | true=>
    have y:=l10Order_ok w1 (.agg #[G,dI,dG]) P Any hP ⟨_,_,_,rfl,Pres3.ext dy a⟩;rw[<-HN.out] at y;obtain⟨m,e,g⟩:=HB.out w1 a;go_wp2_with fail
    clear m e g;refine Calls.mono y ?_;rintro e2 w2 ⟨v2,rfl,L,rfl⟩;clear y;have l:=grown_trans a L;have z:=(hO.ext0 u).ext0 L;have ai:(0:Int)<(q:Int):=by omega
    have aj:((q:Int) == 0)=false:=by simp;omega
    by_cases hz:n%(q:Int)=0
    ·have i:=A.out
     rw[if_pos ⟨by first|rfl|trivial,hz⟩] at i;have k:=Lib.hid i;clear i A;go_wp2_with (at_builtin;go_must (refine mF rfl _ _ rfl w0.heap.size _ (gI n q) rfl (z.ext0 (World.grownBy_alloc _ _ _)) _ [(q:Int)] rfl Any (Own.ints (World.ownsRow_lit w2 #[.int .i64 (q:Int)] 1 (Nat.zero_le _) (by decide) rfl) (by simp)) (by simp;omega) (by have:=l.size;simp;omega) ?_);intro v5 w5 U V _)
     have W:Ext w0 w5:=grown_own (grown_trans l (World.grownBy_alloc _ _ _)) V (λj hj K=>by have:=(z.lt j hj).1;omega);go_roundw
     case rel=>exact⟨q+1,_,rfl,by go_num,by omega,by omega,W,by rw[k.out];exact U⟩
     case measure=>simp[intOf];omega
    ·have i:=A.out
     rw[if_neg (λT=>hz T.2)] at i;have k:=Lib.hid i;clear i A;go_wp2;go_roundw
     case rel=>exact⟨q+1,_,rfl,by go_num,by omega,by omega,l,by rw[k.out];exact z⟩
     case measure=>simp[intOf];omega
  ·have X:q=8:=by omega
   subst X;have e8:gI n ((8:Nat):Int)=dr n:=z8 n;rw[e8] at hO;go_wp2;go_ret;exact⟨_,rfl,grown_trans F hg,hO.weak F.size⟩
end Go.Proofs.YtdcobapnlpeaaaaGreat
namespace Go.Proofs.YtdcobapnlpeaaaaGreat
open Go.RowKit
attribute [local go_sem ↓] Go.wp_at_zero Go.wp_at_succ
theorem Af (P:Pr) (w:World) (pv:Value) (y:Nat->Prop) (k:PresV y w pv P) :
  Calls Tryz.prog 268 #[pv] w (Ret w λ_ v=>∃a n c,v=.slice a n c/\n<=4):=by
 obtain⟨vo,vp,vc,rfl,h3⟩:=k;have i:=PresP.box h3 28;have j:Ext w (w.alloc (.cells #[vo,vp,vc] 28)):=World.grownBy_alloc _ _ _;obtain⟨z,dI,dG,_,_,hc0,e,g,dy⟩:=i.at;simp only[Nat.zero_add] at e g;clear i;have u:=l08Group_ok P (w.alloc (.cells #[vo,vp,vc] 28)) _ Any ⟨_,_,_,rfl,dy⟩;go_enter Tryz.func268,Tryz.ntmps268;go_wp2_with fail
 generalize l:w.alloc (.cells #[vo,vp,vc] 28)=w0 at *;clear l;refine Calls.mono u ?_;rintro C A ⟨v1,rfl,b,rfl⟩;clear u;have m:=b.cell hc0 (by simp);have p:=b.cell e (by simp);have q:=b.cell g (by simp);clear hc0 e g;cases hr:rconsB P with
 | false=>
  clear hr;go_wp2;go_ret;exact⟨_,rfl,grown_trans j b,none,0,0,rfl,by omega⟩
 | true=>
  have G:=grp_of_r hr;clear hr;go_wp2_with fail
  clear m p q;refine Calls.mono (uA P G.v A _ Any ⟨_,_,_,rfl,Pres3.ext dy b⟩) ?_;rintro D E ⟨F,rfl,r,hO⟩;have B:=kE (ordP P);obtain⟨a,c,hv,_,_⟩:=(hO.ints (by omega)).shape;subst hv;clear hO;generalize (dr (ordP P)).length=n at *;go_wp2;go_ret;exact⟨_,rfl,grown_trans j (grown_trans b r),_,_,_,rfl,B⟩
theorem Ag (B0:Nat) (w:World) (sb:Nat) (aE:B0<=w.heap.size) (hs:Src B0 w sb) :
  Calls Tryz.prog 191 #[.pointer (some ⟨sb,0,none⟩)] w (Mut w (some sb) (iV B0 sb (kV 18 (λ_=>True) w.heap.size))):=by
 have bE:=hs.lt;have aW:=Box3.made w 28 (.slice none 0 0) (.slice none 0 0) (.slice none 0 0);have aN:Ext w (w.alloc (.cells #[.slice none 0 0,.slice none 0 0,.slice none 0 0] 28)):=World.grownBy_alloc _ _ _;have bh:(w.alloc (.cells #[.slice none 0 0,.slice none 0 0,.slice none 0 0] 28)).heap.size=w.heap.size+1:=by simp
 have aX:=Lib.hid (hs.ext aN);clear hs;go_enter Tryz.func191,Tryz.ntmps191;go_wp2_with fail
 generalize w.alloc (.cells #[.slice none 0 0,.slice none 0 0,.slice none 0 0] 28)=w0 at *;have bs:w.heap.size+1<=w0.heap.size:=by omega
 clear bh;refine Calls.mono (ze B0 w0 sb (by omega) aX.out) ?_;rintro e1 w1 ⟨v1,rfl,aF,⟨vo,vp,vc,Q,rfl,qM,hQ,-⟩,hs1⟩;obtain⟨a1,n1,c1,hy1⟩:∃a n c,vo=.slice a n c:=by obtain⟨a,c,e,_⟩:=hQ.o.shape;exact⟨_,_,_,e⟩
 obtain⟨a2,n2,c2,hy2⟩:∃a n c,vp=.slice a n c:=by obtain⟨a,c,e,_⟩:=Sl.shape hQ.p;exact⟨_,_,_,e⟩
 obtain⟨a3,n3,c3,iF⟩:∃a n c,vc=.slice a n c:=by obtain⟨a,c,e,_⟩:=Sl.shape hQ.c;exact⟨_,_,_,e⟩
 subst hy1 hy2 iF;have ab:Ext w1 (w1.alloc (.cells #[.slice a1 n1 c1,.slice a2 n2 c2,.slice a3 n3 c3] 28)):=World.grownBy_alloc _ _ _;have aG:=Box3.made w1 28 (.slice a1 n1 c1) (.slice a2 n2 c2) (.slice a3 n3 c3);obtain⟨pb,aO⟩:∃pb,pb=w1.heap.size:=⟨_,rfl⟩;rw[<-aO] at aG;have aY:=aF.size;have aZ:Pres3 (λk=>w0.heap.size<=k/\k≠pb) (w1.alloc (.cells #[.slice a1 n1 c1,.slice a2 n2 c2,.slice a3 n3 c3] 28)) (.slice a1 n1 c1) (.slice a2 n2 c2) (.slice a3 n3 c3) Q:=hQ.mono (λk hk g=>⟨⟨hk,by omega⟩,Nat.lt_of_lt_of_le g ab.size,ab.block k g (by simp)⟩);have a0:=aW.moved aF (by omega);have a4:=a0.ext ab;have a5:=hs1.ext ab;have ar:=grown_trans (grown_of_ext (some sb) aN) (grown_trans aF (grown_of_ext (some sb) ab));have HP:=Lib.hid aO;have HQ:=Lib.hid (And.intro aZ (And.intro a5 (show Q.orders.length<=18 by omega)));clear hQ aZ a5 hs1 qM aF aW aN aX a0 ab;go_wp2_with fail
 rw[<-HP.out];generalize w1.alloc (.cells #[.slice a1 n1 c1,.slice a2 n2 c2,.slice a3 n3 c3] 28)=w2 at *;have bG:w0.heap.size<=pb:=by omega
 have bu:=ar.size;clear aO HP aY;obtain⟨q0,q1,q2,q3,q4⟩:=id aG;go_wp2_with fail
 clear q0 q1 q2 q3 q4;refine Calls.mono (Af Q w2 _ _ ⟨_,_,_,rfl,HQ.out.1⟩) ?_;rintro eN wN ⟨vN,rfl,ac,sa,sn,sc,rfl,hsn⟩;have av:=a4.ext ac;have V:=aG.ext ac;have C:=grown_trans ar (grown_of_ext (some sb) ac);have bv:=C.size;have a6:=And.intro (HQ.out.1.ext ac) (And.intro (HQ.out.2.1.ext ac) HQ.out.2.2);have HQ:=Lib.hid a6;clear a6 a4 aG ar ac;by_cases a7:sn<2
 case neg=>
  have bi:¬((sn:Int)<2):=by omega
  clear a7;obtain⟨q0,q1,q2,q3,q4⟩:=id V;obtain⟨b0,b1,b2,b3,b4⟩:=id av;have hZ:=av.all (.slice a1 n1 c1) (.slice a2 n2 c2) (.slice a3 n3 c3);obtain⟨-,z0,z1,z2,-⟩:=id hZ;have HF:=Lib.hid C;clear hZ C av V;go_wp2_with fail
  refine bodyPost_ret (v := .agg #[.slice a1 n1 c1,.slice a2 n2 c2,.slice a3 n3 c3]) (by simp[results,Tryz.results191,go_sem,z0,z1,z2]) rfl ?_;exact iE HF.out (br:=w.heap.size) (Nat.le_refl _) (λk hk _=>⟨by omega,by omega⟩) HQ.out.2.1 aE HQ.out.2.2 HQ.out.1 trivial
 have bi:(sn:Int)<2:=by omega
 clear a7;go_wp2_with fail
 refine Calls.mono (l01Next_ok B0 wN sb 2 HQ.out.2.1) ?_;rintro e_ w4 ⟨v_,rfl,b,x,rfl,_,lD,l⟩;have ax:=av.moved b (by omega);have W:=V.moved b (by omega);have D:Pres3 (λk=>w0.heap.size<=k/\k≠pb) w4 (.slice a1 n1 c1) (.slice a2 n2 c2) (.slice a3 n3 c3) Q:=HQ.out.1.mono (λk hk g=>⟨hk,Nat.lt_of_lt_of_le g b.size,b.block k g (λe=>by have:=Option.some.inj e;omega)⟩);have E:=grown_trans C b;have aJ:=E.size;have F:=HQ.out.2.2;have ad:=Lib.hid (And.intro D (And.intro l F));clear D l F b av V C;by_cases aQ:x=0
 case neg=>
  have bI:(x == 0)=false:=by simp[aQ]
  clear aQ;obtain⟨q0,q1,q2,q3,q4⟩:=id W;obtain⟨b0,b1,b2,b3,b4⟩:=id ax;have hZ:=ax.all (.slice a1 n1 c1) (.slice a2 n2 c2) (.slice a3 n3 c3);obtain⟨-,z0,z1,z2,-⟩:=id hZ;have HF:=Lib.hid E;clear hZ E ax W;go_wp2_with fail
  refine bodyPost_ret (v := .agg #[.slice a1 n1 c1,.slice a2 n2 c2,.slice a3 n3 c3]) (by simp[results,Tryz.results191,go_sem,z0,z1,z2]) rfl ?_;exact iE HF.out (br:=w.heap.size) (Nat.le_refl _) (λk hk _=>⟨by omega,by omega⟩) ad.out.2.1 aE ad.out.2.2 ad.out.1 trivial
 subst aQ;clear lD;go_wp2_with fail
 refine Calls.mono (l01Next_ok B0 w4 sb 4 ad.out.2.1) ?_;rintro e_ w5 ⟨v_,rfl,b,t,rfl,_,lD,l⟩;have a8:=ax.moved b (by omega);have X:=W.moved b (by omega);have D:Pres3 (λk=>w0.heap.size<=k/\k≠pb) w5 (.slice a1 n1 c1) (.slice a2 n2 c2) (.slice a3 n3 c3) Q:=ad.out.1.mono (λk hk g=>⟨hk,Nat.lt_of_lt_of_le g b.size,b.block k g (λe=>by have:=Option.some.inj e;omega)⟩);have Y:=grown_trans E b;have aJ:=Y.size;have F:=ad.out.2.2;have bl:=Lib.hid (And.intro D (And.intro l F));clear D l F b ax W E;have ht:=lD (by omega);clear lD;have bx:=X.1;go_wp2_with fail
 refine Calls.mono (pV w5 (3+t) (by omega) (by omega)) ?_;rintro e_ w6 ⟨v_,rfl,b,qN⟩;obtain⟨bn,Ah,Ai,rfl,mG⟩:=qN;obtain⟨G,H,I,J,K,L,M,N,O,rfl,rfl,rfl⟩:=mG.shape;obtain⟨R,P,mH⟩:=mG;have A:=a8.ext b;have u:=X.ext b;have l:=bl.out.2.1.ext b;have S:=grown_trans Y (grown_of_ext (some sb) b);have a9:=X.1;have a':=Y.size;obtain⟨q0,q1,q2,q3,q4⟩:=id u;have r:=grown_set3 w6 pb (.slice G H I) (.slice J K L) (.slice M N O);have aK:=u.all (.slice G H I) (.slice J K L) (.slice M N O);have ba:=A.moved r (by omega);have aL:=grown_own S r (λj hj g=>by have:=Option.some.inj hj;omega);have T:=l.own r (λk hk=>by have:=Option.some.inj hk;omega)
 have U:Pres3 (λk=>w0.heap.size<=k/\k≠pb) (((w6.setCell ⟨pb,0,none⟩ (.slice G H I)).setCell ⟨pb,1,none⟩ (.slice J K L)).setCell ⟨pb,2,none⟩ (.slice M N O)) (.slice G H I) (.slice J K L) (.slice M N O) R:=mH.mono (λk hk g=>by
  have hk:w5.heap.size<=k:=hk;exact⟨⟨by omega,by omega⟩,Nat.lt_of_lt_of_le g r.size,r.block k g (λe=>by have:=Option.some.inj e;omega)⟩)
 have aR:=Lib.hid (And.intro U (And.intro T (show R.orders.length<=18 from Nat.le_trans P.n (by decide))));clear U T l r S A u b mH P a8 X Y;go_wp2_with fail
 clear q0 q1 q2 q3 q4;generalize ((w6.setCell ⟨pb,0,none⟩ (.slice G H I)).setCell ⟨pb,1,none⟩ (.slice J K L)).setCell ⟨pb,2,none⟩ (.slice M N O)=w7 at *;refine Calls.mono (l01Next_ok B0 w7 sb 3 aR.out.2.1) ?_;rintro e_ w8 ⟨v_,rfl,b,z,rfl,_,lD,l⟩;have ay:=ba.moved b (by omega);have Z:=aK.moved b (by omega);have D:Pres3 (λk=>w0.heap.size<=k/\k≠pb) w8 (.slice G H I) (.slice J K L) (.slice M N O) R:=aR.out.1.mono (λk hk g=>⟨hk,Nat.lt_of_lt_of_le g b.size,b.block k g (λe=>by have:=Option.some.inj e;omega)⟩);have B:=grown_trans aL b;have aJ:=B.size;have F:=aR.out.2.2;have aH:=Lib.hid (And.intro D (And.intro l F));clear D l F b ba aK aL;by_cases aS:z=0
 case neg=>
  have bK:(z == 0)=false:=by simp[aS]
  clear aS;obtain⟨q0,q1,q2,q3,q4⟩:=id Z;obtain⟨b0,b1,b2,b3,b4⟩:=id ay;have hZ:=ay.all (.slice G H I) (.slice J K L) (.slice M N O);obtain⟨-,z0,z1,z2,-⟩:=id hZ;have HF:=Lib.hid B;clear hZ B ay Z;go_wp2_with fail
  refine bodyPost_ret (v := .agg #[.slice G H I,.slice J K L,.slice M N O]) (by simp[results,Tryz.results191,go_sem,z0,z1,z2]) rfl ?_;exact iE HF.out (br:=w.heap.size) (Nat.le_refl _) (λk hk _=>⟨by omega,by omega⟩) aH.out.2.1 aE aH.out.2.2 aH.out.1 trivial
 subst aS;clear lD;go_wp2_with fail
 have aT:Ext w8 (w8.alloc (.cells #[.int .i64 2,.int .i64 4] 2)):=World.grownBy_alloc _ _ _;have hL:Ints (λk=>k=w8.heap.size) (w8.alloc (.cells #[.int .i64 2,.int .i64 4] 2)) (.slice (some ⟨w8.heap.size,0,none⟩) 2 2) [2,4]:=fq w8 [2,4] (by simp);have bA:=B.size;generalize w8.alloc (.cells #[.int .i64 2,.int .i64 4] 2)=wL at *;refine Calls.mono (l01Pick_ok B0 wL sb _ [2,4] _ (aH.out.2.1.ext aT) hL (λk hk=>by have hk:k=w8.heap.size:=hk;omega) (by simp) (by simp)) ?_;rintro eM wM ⟨vM,rfl,bb,i,hi,rfl,qO⟩;have hm:∀y∈([2,4]:List Int),2<=y/\y<=4:=by simp
 have bM:=hm _ (gtMem hi);generalize gt ([2,4]:List Int) i=m at *;have aa:w8.grownBy wM (some sb):=grown_trans (grown_of_ext (some sb) aT) bb;have bc:=ay.moved aa (by omega);have az:=Z.moved aa (by omega);have aA:=grown_trans B aa;have bq:=Lib.hid qO;clear qO bb aT hL hm hi ay Z B aa;go_wp2_with fail
 refine Calls.mono (jy wM m 15 14 0 (by omega) (by omega) (by omega) (by omega)) ?_;rintro e_ bd ⟨v_,rfl,b,qN⟩;obtain⟨bn,Ah,Ai,rfl,mG⟩:=qN.q;obtain⟨ae,af,ag,ah,ai,aj,ak,al,am,rfl,rfl,rfl⟩:=mG.shape;obtain⟨R2,P,mH⟩:=mG;have A:=bc.ext b;have u:=az.ext b;have l:=bq.out.ext b;have S:=grown_trans aA (grown_of_ext (some sb) b);have a9:=az.1;have a':=aA.size;obtain⟨q0,q1,q2,q3,q4⟩:=id u;have r:=grown_set3 bd pb (.slice ae af ag) (.slice ah ai aj) (.slice ak al am);have aU:=u.all (.slice ae af ag) (.slice ah ai aj) (.slice ak al am);have aM:=A.moved r (by omega);have aB:=grown_own S r (λj hj g=>by have:=Option.some.inj hj;omega);have T:=l.own r (λk hk=>by have:=Option.some.inj hk;omega)
 have U:Pres3 (λk=>w0.heap.size<=k/\k≠pb) (((bd.setCell ⟨pb,0,none⟩ (.slice ae af ag)).setCell ⟨pb,1,none⟩ (.slice ah ai aj)).setCell ⟨pb,2,none⟩ (.slice ak al am)) (.slice ae af ag) (.slice ah ai aj) (.slice ak al am) R2:=mH.mono (λk hk g=>by
  have hk:wM.heap.size<=k:=hk;exact⟨⟨by omega,by omega⟩,Nat.lt_of_lt_of_le g r.size,r.block k g (λe=>by have:=Option.some.inj e;omega)⟩)
 obtain⟨b0,b1,b2,b3,b4⟩:=id A;have hZ:=aM.all (.slice ae af ag) (.slice ah ai aj) (.slice ak al am);obtain⟨-,z0,z1,z2,-⟩:=id hZ;have HF:=Lib.hid (And.intro aB (And.intro U (And.intro T (show R2.orders.length<=18 from Nat.le_trans P.n (by decide)))));clear hZ aB aM aU U T l r S A u b mH P bc az aA;go_wp2_with fail
 refine bodyPost_ret (v := .agg #[.slice ae af ag,.slice ah ai aj,.slice ak al am]) (by simp[results,Tryz.results191,go_sem,z0,z1,z2]) rfl ?_;exact iE HF.out.1 (br:=w.heap.size) (Nat.le_refl _) (λk hk _=>⟨by omega,by omega⟩) HF.out.2.2.1 aE HF.out.2.2.2 HF.out.2.1 trivial
theorem Aj (w:World) (cv:Value) (N:List Int) (S:Nat->Prop) (O:Bytes S w cv N) :
  Calls Tryz.prog 91 #[cv] w (Ret w (sR 18 w.heap.size)):=by
 obtain⟨a,cap,rfl,_,_⟩:=Sl.shape O;have y:=Box3.made w 28 (.slice none 0 0) (.slice none 0 0) (.slice none 0 0);have m:Ext w (w.alloc (.cells #[.slice none 0 0,.slice none 0 0,.slice none 0 0] 28)):=World.grownBy_alloc _ _ _;have H:(w.alloc (.cells #[.slice none 0 0,.slice none 0 0,.slice none 0 0] 28)).heap.size=w.heap.size+1:=by simp
 have z:=Bytes.ext O m;go_enter Tryz.func91,Tryz.ntmps91;go_wp2_with fail
 generalize w.alloc (.cells #[.slice none 0 0,.slice none 0 0,.slice none 0 0] 28)=w0 at *;have A:w.heap.size+1<=w0.heap.size:=by omega
 clear H;refine Calls.mono (y8 w0 _ N S z) ?_;rintro W wS ⟨v0,rfl,gu,rfl,b⟩;have I:w0.heap.size+1<=wS.heap.size:=by have:=b.lt;omega
 have B:=y.ext gu;obtain⟨sb,q⟩:∃sb,sb=w0.heap.size:=⟨_,rfl⟩;rw[<-q] at b;have P:w.heap.size+1<=sb/\sb+1<=wS.heap.size:=by omega
 have i:=grown_trans m gu;have r:=Lib.hid q;clear y z m gu I A;go_wp2_with fail
 rw[<-r.out];refine Calls.mono (Ag (sb+1) wS sb (by omega) (by rw[r.out];rw[r.out] at b;exact b)) ?_;rintro X R ⟨v1,rfl,g,⟨vo,vp,vc,Q,rfl,qM,C,-⟩,hs1⟩;clear q;obtain⟨a1,D,c1,hy1⟩:∃a n c,vo=.slice a n c:=by obtain⟨a,c,e,_⟩:=C.o.shape;exact⟨_,_,_,e⟩
 obtain⟨a2,E,c2,hy2⟩:∃a n c,vp=.slice a n c:=by obtain⟨a,c,e,_⟩:=Sl.shape C.p;exact⟨_,_,_,e⟩
 obtain⟨F,G,c3,iF⟩:∃a n c,vc=.slice a n c:=by obtain⟨a,c,e,_⟩:=Sl.shape C.c;exact⟨_,_,_,e⟩
 subst hy1 hy2 iF;have T:=g.size;have u:=B.moved g (by omega);obtain⟨Y,b1,b2,b3,b4⟩:=id u;have U:=u.all (.slice a1 D c1) (.slice a2 E c2) (.slice F G c3);obtain⟨-,z0,z1,z2,-⟩:=id U;have J:=grown_set3 R w.heap.size (.slice a1 D c1) (.slice a2 E c2) (.slice F G c3);have K:∀k,some w.heap.size=some k->k<wS.heap.size:=λk hk=>by have:=Option.some.inj hk;omega
 have l:Ret w (sR 18 w.heap.size) (.returned (.agg #[.slice a1 D c1,.slice a2 E c2,.slice F G c3])) (((R.setCell ⟨w.heap.size,0,none⟩ (.slice a1 D c1)).setCell ⟨w.heap.size,1,none⟩ (.slice a2 E c2)).setCell ⟨w.heap.size,2,none⟩ (.slice F G c3)):=
  ⟨_,rfl,grown_own (grown_own i g (λj L M=>by have:=Option.some.inj L;omega)) J (λj L M=>by have:=Option.some.inj L;omega),_,_,_,Q,rfl,qM,(C.y7 J K).low (by omega)⟩
 have V:=Lib.hid l;clear l J U C g hs1 u B i b;go_wp2_with fail
 refine bodyPost_ret (v := .agg #[.slice a1 D c1,.slice a2 E c2,.slice F G c3]) (by simp[results,Tryz.results91,go_sem,z0,z1,z2]) rfl ?_;exact V.out
end Go.Proofs.YtdcobapnlpeaaaaGreat
namespace Go.Proofs.YtdcobapnlpeaaaaGreat
open Go.RowKit
theorem Ak {l:List Int} : isZeroB l=true↔∀k,k<l.length->gt l k=0:=by
 unfold isZeroB allB;simp
end Go.Proofs.YtdcobapnlpeaaaaGreat
