/- Merged from templates. -/
import Derived.Test.YtoakmefajbbggaaGreatH9
import Derived.Shelf.Spec.SlicesGrow
set_option maxRecDepth 100000
set_option maxHeartbeats 8000000
namespace Go.Proofs.YtoakmefajbbggaaGreat
section
variable {P:Pr}(G:Grp P)
include G
theorem Grp.gU_conjL {U:List (List Int)}(a:SubB P U) {g:List Int}(b:Vec P.orders g):gU P (conjL P U g)=cjS P (gU P U) g:=by
 have S:=G.subB a;have h:=G.genP_conjL S b;have e:cseq P (gU P U)=U:=a.2.symm;rw[e] at h;exact h
end
end Go.Proofs.YtoakmefajbbggaaGreat
namespace Go.Proofs.YtoakmefajbbggaaGreat
open Classical
theorem sm_mulR {α:Type}(f:α->Nat) (n:Nat):∀l:List α,sm (λx=>f x*n) l=sm f l*n
 | []=>by simp[sm]
 | x :: l=>by
  have:=sm_mulR f n l;simp only[sm];rw[this,Nat.add_mul]
theorem sm_dvd {α:Type}{f:α->Nat}{q:Nat} : ∀ {l:List α},(∀x∈l,q∣f x)->q∣sm f l
 | [],_=>Nat.dvd_zero _
 | x :: l,h=>by
  simp only[sm];exact Nat.dvd_add (h x (List.mem_cons_self ..)) (sm_dvd (λy hy=>h y (List.mem_cons_of_mem _ hy)))
theorem sm_mod {α:Type}{f:α->Nat}{g:α->Prop}{q:Nat}{R:List α}(h1:R.Pairwise (λr s=>g r->¬g s)) (i:∃r∈R,g r) (j:∀r∈R,g r->f r=1) (l:∀r∈R,¬g r->q∣f r):∃k,sm f R=1+q*k:=by
 have e:sm f R=sm (λr=>(if g r then 1 else 0)+(if g r then 0 else f r)) R:=sm_congr (λr b=>by
  by_cases a:g r
  ·rw[if_pos a,if_pos a,j r b a]
  ·rw[if_neg a,if_neg a,Nat.zero_add])
 rw[e,sm_add,sm_one g 1 h1 i]
 obtain ⟨k,hk⟩:q∣sm (λr=>if g r then 0 else f r) R:=sm_dvd (λr b=>by
  by_cases a:g r
  ·rw[if_pos a];exact Nat.dvd_zero _
  ·rw[if_neg a];exact l r b a)
 exact⟨k,by rw[hk]⟩
theorem prd_dvd {P:Pr}{Q:Nat->Prop}{q:Nat} : ∀f d k,d<=k->k<d+f->Q k->(gt P.orders k).toNat=q->q∣prd P Q f d
 | 0,d,k,a,b,_,_=>by omega
 | f+1,d,k,a,b,i,j=>by
  rw[prd];rcases Nat.eq_or_lt_of_le a with e|e
  ·subst e;rw[if_pos i,j];exact Nat.dvd_mul_right _ _
  ·exact Nat.dvd_trans (prd_dvd f (d+1) k e (by omega) i j) (Nat.dvd_mul_left _ _)
section
variable {P:Pr}{G:Grp P}
theorem conj_ep (r x:El G) (k:Nat):ep (r⁻¹ * (x*r)) k=r⁻¹ * (ep x k*r):=ep_conj x r k
theorem syl_in {A N:El G->Prop}(i:SG A) (F:nrm N A) {q:Nat}(k:∀d,pv A d↔(d<P.orders.length/\gt P.orders d=(q:Int))) {r:El G}(h:∀a,A a->N (r⁻¹ * (a*r))):∀a,A a->A (r⁻¹ * (a*r)):=by
 obtain⟨B,hB⟩:∃B:El G->Prop,B=λy=>∃a,A a/\y=r⁻¹ * (a*r):=⟨_,rfl⟩
 have w:SG B:=by
  rw[hB];refine⟨⟨1,i.one,by rw[El.ol,El.il]⟩,?_,?_⟩
  ·rintro x y ⟨a,ha,rfl⟩ ⟨b,l,rfl⟩
   refine⟨a*b,i.mul _ _ ha l,?_⟩;simp only[El.ass,El.irc]
  ·rintro x ⟨a,ha,rfl⟩
   refine⟨a⁻¹,i.inv _ ha,?_⟩;rw[El.mi,El.mi,El.ii,El.ass]
 have C:nrm B A:=λg x D hx=>by
  rw[hB] at D;obtain⟨a,ha,rfl⟩:=D;exact F _ x (h a ha) hx
 have H:=prS_sg w i C
 have I:∀x,prS B A x->A (ep x (aP P (λz=>z=(q:Int)))):=λx ⟨b,a,l,ha,e⟩=>by
  obtain⟨m,hm,e2⟩:=prS_ep i C l ha (aP P (λz=>z=(q:Int)));rw[hB] at l;obtain⟨c,J,rfl⟩:=l
  have K:ep (r⁻¹ * (c*r)) (aP P (λz=>z=(q:Int)))=1:=by
   rw[conj_ep,exp_of_pv i (π :=λz=>z=(q:Int)) (λd j=>((k d).1 j).2) J,El.ol,El.il]
  rw[e,e2,K,El.ol];exact hm
 have L:∀d,pv (prS B A) d->pv A d:=λd j=>by
  refine Classical.byContradiction λp => ?_;have h1:=pv_of_exp I j p;by_cases E:gt P.orders d=(q:Int)
  ·exact p ((k d).2 ⟨j.1,E⟩)
  ·exact cop_ndvd (G:=G) j.1 (a_ndvd G (π :=λz=>z=(q:Int)) j.1 E) h1
 have u:=le_of_pv i H (λx hx=>⟨1,x,w.one,hx,(El.ol x).symm⟩) L;intro a ha;exact u _ ⟨r⁻¹ * (a*r),1,by rw[hB];exact⟨a,ha,rfl⟩,i.one,(El.or _).symm⟩
theorem syl_mod {H K:List Int->Prop}(J:Sub P H) (L:Sub P K) (p:∀x,toE G H x->toE G K x) (M:nrm (toE G K) (toE G H)) (m:∀r,(∀a,toE G H a->toE G H (r⁻¹ * (a*r)))->toE G K r)
  {q:Nat}(u:∀d,pv (toE G H) d↔(d<P.orders.length/\gt P.orders d=(q:Int))) {c:Nat}(N:c*cd (toE G K)=(els G).length):∃k,c=1+q*k:=by
 have b:=toE_sg (G:=G) J;have i:=toE_sg (G:=G) L;obtain⟨R,A⟩:∃R,DRep (toE G H) (toE G K) R:=⟨_,G.dcTo_rep J L⟩;have l:=cd_sum b i A
 have B:∀r,cd (dD (toE G H) (toE G K) r)=(trv (stb (toE G H) (toE G K) r) (toE G H)).length*cd (toE G K):=λr=>by
  have h1:=cd_dD b i r;have y:=cd_trv (stb_sg b i r) b (λx hx=>hx.1);have C:=cd_pos (stb_sg b i r);rw[y,Nat.mul_assoc,Nat.mul_comm (cd (stb (toE G H) (toE G K) r)) (cd (toE G K)),<-Nat.mul_assoc] at h1;exact Nat.eq_of_mul_eq_mul_right C h1
 rw[sm_congr (λr _=>B r),sm_mulR,<-N] at l;have l:=Nat.eq_of_mul_eq_mul_right (cd_pos i) l;rw[<-l]
 have D:∀r,dD (toE G H) (toE G K) r 1->toE G K r:=λr ⟨h,k,O,hk,e⟩=>by
  have Q:r=h⁻¹ * k⁻¹ :=by
   have S:h⁻¹ * (h*r*k)*k⁻¹ = r:=by simp only[El.ass,El.ilc,El.ir,El.or]
   rw[<-S,<-e,El.or]
  rw[Q];exact i.mul _ _ (p _ (b.inv _ O)) (i.inv _ hk)
 have E:∀r s,toE G K r->toE G K s->dD (toE G H) (toE G K) r s:=λr s j l=>⟨1,r⁻¹ * s,b.one,i.mul _ _ (i.inv _ j) l,by rw[El.ol,El.irc]⟩;refine sm_mod (g:=λr=>toE G K r) (A.one.imp (λ{r s} h j l=>h (E r s j l))) ?_ ?_ ?_
 ·obtain ⟨r,j,z⟩:=A.all 1
  exact⟨r,j,D r z⟩
 ·intro r _ j
  have y:=cd_trv (stb_sg b i r) b (λx hx=>hx.1)
  have C:cd (stb (toE G H) (toE G K) r)=cd (toE G H):=cd_congr (λx=>⟨λh=>h.1,λh=>⟨h,by
   rw[El.ass];exact i.mul _ _ (i.inv _ j) (i.mul _ _ (p _ h) j)⟩⟩)
  rw[C] at y;have T:=cd_pos b;have U:1*cd (toE G H)=(trv (stb (toE G H) (toE G K) r) (toE G H)).length*cd (toE G H):=by rw[Nat.one_mul];exact y
  exact(Nat.eq_of_mul_eq_mul_right T U).symm
 ·intro r _ j
  rw[trv_len (stb_sg b i r) b (λx hx=>hx.1)];refine Classical.byContradiction λF=>j (m r (syl_in b M u ?_))
  have w:=le_of_pv (stb_sg b i r) b (λx hx=>hx.1) (λd z=>by
   refine Classical.byContradiction λI=>F ?_;have h1:=(u d).1 z;exact prd_dvd _ 0 d (Nat.zero_le _) (by omega) ⟨z,I⟩ (by rw[h1.2];exact Int.toNat_natCast _))
  intro a ha;have:=(w a ha).2;rwa [El.ass] at this
theorem hall_count (G:Grp P) {q:Int}(T:q=2\/q=3\/q=5\/q=7) {L:List (List (List Int))}(m:HallL P [q] L):(∃k:Nat,L.length=1+q.toNat*k)/\((L.length:Int)∣ordP P):=by
 have O:=m.pos G;obtain⟨u,Q⟩:∃u,u=gt L 0:=⟨_,rfl⟩;have a:HallP P [q] u:=(m.2 u).1 (by rw[Q];exact gtMem O);have S:=G.subB a.1;obtain⟨U,h1,E,h3,h4⟩:=fdL_ix P (gP P u) (ordP P).toNat
 have e:∀x,Vec P.orders x->cjU P u x=cseq P (cjS P (gP P u) x):=λx hx=>by
  unfold cjU;rw[show genP P (λz=>z∈conjL P u x)=cjS P (gP P u) x from G.gU_conjL a.1 hx]
 have F:∀v,v∈L↔v∈fdL P (gP P u) (ordP P).toNat:=λv=>by
  rw[m.2 v,hall_all G a v];constructor
  ·rintro ⟨j,H,rfl⟩
   rw[e _ (G.elAtV H)];exact h4 j H
  ·intro b
   rw[h1] at b;obtain⟨i,I,rfl⟩:=List.mem_map.1 b;exact⟨i,E i I,(e _ (G.elAtV (E i I))).symm⟩
 have p:(fdL P (gP P u) (ordP P).toNat).Nodup:=by rw[h1];exact h3
 have J:=nodup_sub_len L _ m.nodup (λv b=>(F v).1 b);have K:=nodup_sub_len _ L p (λv b=>(F v).2 b);have l:(fdL P (gP P u) (ordP P).toNat).length=L.length:=by omega
 have w:=G.fd_count S;rw[l] at w;have M:=G.nr_sub S;have A:szP P (nrP P (gP P u))=((cd (toE G (nrP P (gP P u))):Nat):Int):=order_cd M;have B:=Grp.els_len G;refine⟨?_,⟨_,w.symm⟩⟩
 have C:L.length*cd (toE G (nrP P (gP P u)))=(els G).length:=by
  have:((L.length*cd (toE G (nrP P (gP P u))):Nat):Int)=((els G).length:Int):=by
   rw[Int.natCast_mul,<-A,w,B]
  omega
 have D:=(hall_iff G a.1 [q]).1 a.2;refine syl_mod S M (λx hx=>⟨x.2,λy hy=>S.mul _ _ (S.inv _ hx) (S.mul _ _ hy hx)⟩) (λg x R hx=>R.2 x.1 hx) (λr h=>⟨r.2,λy hy=>h ⟨y,S.vec y hy⟩ hy⟩) (q:=q.toNat) (λd => ?_) C;have N:=D d;rw[List.mem_singleton] at N;rw[show((q.toNat:Nat):Int)=q by omega];exact N
end
end Go.Proofs.YtoakmefajbbggaaGreat
namespace Go.Proofs.YtoakmefajbbggaaGreat
open Go.RowKit
theorem sOrder_ok (P:Pr) (E:rconsB P=true) (w:World) (pv:Value) (F:Nat->Prop) (r:PresV F w pv P) :
  Calls Tryz.prog 83 #[pv] w (Ret w λ_ v=>v=.tuple #[.int .i64 (ordP P),.int .i64 0]):=by
 have G:=grp_of_r E;have hP:=G.v;obtain⟨vo,vp,vc,rfl,h3⟩:=r;have u:=PresP.box h3 28;have y:Ext w (w.alloc (.cells #[vo,vp,vc] 28)):=World.grownBy_alloc _ _ _;obtain⟨b,vp6,vc6,_,_,hc0,l,m,p⟩:=u.at;simp only[Nat.zero_add] at l m;have z:=sIsPresentation_ok (w.alloc (.cells #[vo,vp,vc] 28)) (.agg #[b,vp6,vc6]) P Any ⟨_,_,_,rfl,p⟩;have C:=validB_true hP;rw[C] at z;have q:∀w',Ext (w.alloc (.cells #[vo,vp,vc] 28)) w'->w'.cell? ⟨w.heap.size,0,none⟩=some b:=λw' h=>h.cell hc0 (by simp);have H:=Lib.hid q;clear q C;go_enter Tryz.func83,Tryz.ntmps83;go_wp2_with fail
 clear hc0 l m;generalize w.alloc (.cells #[vo,vp,vc] 28)=w0 at *;refine Calls.mono z ?_;rintro K D ⟨v1,rfl,e,rfl⟩;clear z;have I:=H.out D e;have j:∀i,i<P.orders.length->1<=gt P.orders i/\gt P.orders i<=7:=λi A=>by have:=hP.ord7 i A;omega
 have k:=l07Product_ok D b P.orders Any (p.o.ext e) j
 have a:capTo P.orders P.orders.length=ordP P:=by
  have h:=capTo_le P.orders.length (λi A=>(j i A).1);have J:=hP.le729;exact h.2 (h.1.2 J)
 rw[a] at k;have B:=Lib.hid k;clear k a j;go_wp2_with fail
 refine Calls.mono B.out ?_;rintro _ _ ⟨rfl,rfl⟩;go_wp2;go_ret2
 exact⟨_,rfl,grown_trans y e,rfl⟩
theorem size9_ok (P:Pr) (l:rconsB P=true) (w:World) (pv:Value) (m:Nat->Prop) (i:PresV m w pv P) :
  Calls Tryz.prog 29 #[pv] w (Ret w λ_ v=>v=.int .i64 (ordP P)):=by
 have j:=Lib.hid l;clear l;obtain⟨vo,vp,vc,rfl,h3⟩:=i;have a:=PresP.box h3 28;have k:Ext w (w.alloc (.cells #[vo,vp,vc] 28)):=World.grownBy_alloc _ _ _;obtain⟨p,vp6,vc6,_,_,hc0,b,e,h36⟩:=a.at;simp only[Nat.zero_add] at b e;clear a;go_enter Tryz.func29,Tryz.ntmps29;go_wp2_with fail
 clear hc0 b e;refine Calls.mono (sOrder_ok P j.out _ _ _ ⟨_,_,_,rfl,h36⟩) ?_;rintro q r ⟨v1,rfl,hg1,rfl⟩;go_wp2;go_ret;exact⟨_,rfl,grown_trans k hg1,rfl⟩
def FstI (q:Nat->Prop) (n:Nat) (r:Int):Prop:=(∃k:Nat,r=k/\k<n/\q k/\∀j,j<k->¬q j)\/(r = -1/\∀j,j<n->¬q j)
theorem FstI.one {q:Nat->Prop}{n:Nat}{r j:Int}(h:FstI q n r) (l:FstI q n j):r=j:=by
 rcases h with⟨k,rfl,hk,hq,i⟩|⟨rfl,i⟩
 ·rcases l with⟨e,rfl,b,hq',a⟩|⟨rfl,a⟩
  ·rcases Nat.lt_trichotomy k e with h1|h1|h1
   ·exact absurd hq (a k h1)
   ·rw[h1]
   ·exact absurd hq' (i e h1)
  ·exact absurd hq (a k hk)
 ·rcases l with⟨e,rfl,b,hq',a⟩|⟨rfl,a⟩
  ·exact absurd hq' (i e b)
  ·rfl
def mvQ (P:Pr) (U V:List (List Int)) (k:Nat):Prop:=prodU P U U.length=prodU P V V.length/\∀y∈U,gU P V (rConj P y (elAt P k))
open Classical in
noncomputable def cjR (P:Pr) (U V:List (List Int)):Int:=if h:∃r,FstI (mvQ P U V) (ordP P).toNat r then Classical.choose h else -1
theorem cjR_eq {P:Pr}{U V:List (List Int)}{r:Int}(h:FstI (mvQ P U V) (ordP P).toNat r):cjR P U V=r:=by
 have a:∃r,FstI (mvQ P U V) (ordP P).toNat r:=⟨r,h⟩;unfold cjR;rw[dif_pos a];exact(Classical.choose_spec a).one h
open Classical in
noncomputable def sjC (P:Pr) (U V:List (List Int)):Int:=if twoOk P U V then (if cjR P U V = -1 then 4 else 0) else 1
open Classical in
noncomputable def sjL (P:Pr) (U V:List (List Int)):List Int:=if twoOk P U V/\cjR P U V ≠ -1 then elAt P (cjR P U V) else []
theorem sj_bad {P:Pr}{U V:List (List Int)}(h:¬twoOk P U V):sjC P U V=1/\sjL P U V=[]:=by
 unfold sjC sjL;rw[if_neg h,if_neg (λa=>h a.1)];exact⟨rfl,rfl⟩
theorem sj_no {P:Pr}{U V:List (List Int)}(h:twoOk P U V) (a:FstI (mvQ P U V) (ordP P).toNat (-1)):sjC P U V=4/\sjL P U V=[]:=by
 unfold sjC sjL;rw[if_pos h,cjR_eq a,if_pos rfl,if_neg (λb=>b.2 rfl)];exact⟨rfl,rfl⟩
theorem sj_yes {P:Pr}{U V:List (List Int)}(h:twoOk P U V) {k:Nat}(b:FstI (mvQ P U V) (ordP P).toNat k):sjC P U V=0/\sjL P U V=elAt P k:=by
 have a:((k:Nat):Int) ≠ -1:=by omega
 unfold sjC sjL;rw[if_pos h,cjR_eq b,if_neg a,if_pos ⟨h,a⟩];exact⟨rfl,rfl⟩
theorem iSubCj_ok (P:Pr) (w:World) (pv uv vv:Value) (U V:List (List Int)) (Sp Su Sv:Nat->Prop) (aq:PresV Sp w pv P) (hu:Rows2 Su w uv U) (hv:Rows2 Sv w vv V) :
  Calls Tryz.prog 43 #[pv,uv,vv] w (Ret w λw' v=>∃a n c,v=.tuple #[.slice a n c,.int .i64 (sjC P U V)]/\Ints Any w' (.slice a n c) (sjL P U V)):=by
 obtain⟨vo,vp,vc,rfl,h3⟩:=aq;have S:=PresP.box h3 28;have p:Ext w (w.alloc (.cells #[vo,vp,vc] 28)):=World.grownBy_alloc _ _ _;have H:(w.alloc (.cells #[vo,vp,vc] 28)).heap.size=w.heap.size+1:=by simp
 have T:=Rows2.ext hu p;have W:=Rows2.ext hv p;obtain⟨au,X,rfl,_,_⟩:=Sl.shape hu;obtain⟨av,F,rfl,_,_⟩:=Sl.shape hv;have I:Ext (w.alloc (.cells #[vo,vp,vc] 28)) ((w.alloc (.cells #[vo,vp,vc] 28)).alloc (.cells #[.slice au U.length X,.slice av V.length F] 25)):=World.grownBy_alloc _ _ _;have hl:=rows3Two T W;have z:=areSubgroups_ok P _ _ _ [U,V] Any Any (S.ext I) hl;rw[H] at z;clear hl hu hv;go_enter Tryz.func43,Tryz.ntmps43;go_wp2_with fail
 refine Calls.mono z ?_;rintro e1 w1 ⟨v1,rfl,hgA,r1,rfl,q⟩;clear z;replace q:r1=true↔twoOk P U V:=by rw[q];unfold twoOk;simp
 have b:=grown_trans I hgA;have HS:=Lib.hid H;clear H;generalize ax:w.alloc (.cells #[vo,vp,vc] 28)=w0 at *;clear ax I hgA;cases r1 with
 | false=>
  obtain⟨hc,hL⟩:=sj_bad (P:=P) (U:=U) (V:=V) (λh=>by have:=q.2 h;cases this);have A:=Lib.hid (And.intro hc hL);clear hc hL q;go_wp2;go_ret2
  exact⟨_,rfl,grown_trans p b,none,0,0,by rw[A.out.1];rfl,by rw[A.out.2];exact⟨none,0,rfl,⟨by simp,by simp,λ_=>rfl⟩,λi Y=>by simp at Y⟩⟩
 | true =>
  have l:=q.1 rfl;have G:=grp_of_r l.1;have hP:=G.v;have aY:=hP.n6;have aN:ordP P<=729:=hP.le729;have aZ:=hP.ordP_pos;have a0:=G.sub_len l.2.1;have a1:=G.sub_len l.2.2;have SV:=G.subB l.2.2;have J:=(G.seq_facts (G.subB l.2.1)).1;have K:=(G.seq_facts SV).1;have D:=S.ext b;have Z:=Rows2.ext T b;have aa:=Rows2.ext W b;have ab:SeqOk P U:=by have e:cseq P (gU P U)=U:=l.2.1.2.symm;rw[e] at J;exact J
  have ac:SeqOk P V:=by have e:cseq P (gU P V)=V:=l.2.2.2.symm;rw[e] at K;exact K
  have ad:Rows2 Sv w1 (.slice av V.length F) (cseq P (gU P V)):=by have e:cseq P (gU P V)=V:=l.2.2.2.symm;rw[e];exact aa
  have A:=Lib.hid (And.intro l (And.intro SV (And.intro ab (And.intro ac ad))));clear q l SV J K ab ac ad;go_wp2_with fail
  refine Calls.mono (sizeOf_ok P hP w1 _ _ U Any Su D Z A.out.2.2.1 (by omega)) ?_;rintro e2 w2 ⟨v2,rfl,hg2,rfl⟩;have az:=D.ext hg2;have aA:=Rows2.ext aa hg2;go_wp2_with fail
  refine Calls.mono (sizeOf_ok P hP w2 _ _ V Any Sv az aA A.out.2.2.2.1 (by omega)) ?_;rintro e3 w3 ⟨v3,rfl,hg3,rfl⟩;have B:=grown_trans hg2 hg3;obtain⟨x,hx⟩:∃x,x=prodU P U U.length:=⟨_,rfl⟩;obtain⟨y,hy⟩:∃y,y=prodU P V V.length:=⟨_,rfl⟩;rw[<-hx,<-hy];by_cases u:x=y
  ·have hb:(x == y)=true:=by simp[u]
   have ae:prodU P U U.length=prodU P V V.length:=by rw[<-hx,<-hy,u]
   have HZ:=Lib.hid ae;clear ae hx hy u;go_wp2_with fail
   refine Calls.mono (allElements_ok P hP w3 _ Any (D.ext B)) ?_;rintro e4 w4 ⟨v4,rfl,hg4,hE⟩;clear hb;have af:(allEl P).length=(ordP P).toNat:=by simp[allEl]
   have L:Rows2 (From w3.heap.size) w4 v4 (allEl P):=RowsD.rows (SlO.toD hE (by omega));obtain⟨aE,capE,hvE,_,_⟩:=Sl.shape L;subst hvE;have ag:=grown_trans B hg4;obtain⟨N,hN⟩:∃N,N=(allEl P).length:=⟨_,rfl⟩;rw[<-hN];rw[<-hN] at L;have a5:N<=729:=by omega
   have a6:N<=9223372036854775807:=by omega
   have M:=Lib.hid (And.intro hN (hN.trans af));clear hN af hE;go_wp2;go_loopw [22] (λiv wr=>∃k:Nat,iv=.int .i64 k/\k<=N/\Ext w4 wr/\Hid (∀j,j<k->¬mvQ P U V j)) (λiv _=>N-(intOf iv).toNat)
   case atStart=>exact⟨0,rfl,by omega,grown_refl _ _,Lib.hid (λj hj=>by omega)⟩
   case round=>
    obtain⟨k,rfl,hk,hg,hF⟩:=hrel;have m:=grown_trans ag hg;by_cases aD:k<N
    ·have aS:(k:Int)<N:=by omega
     have O:=Rows2.ext L hg;rw[M.out.1] at O;obtain⟨bx,ox,a2,cap2,hab,_,_,ai,Q⟩:=Rows2.at O k (by rw[<-M.out.1];exact aD);subst hab
     have aj:gt (allEl P) k=elAt P k:=by
      unfold allEl;rw[gt_map _ _ _ (by rw[List.length_range];have:=M.out.2;omega)];simp[gt,show k<(ordP P).toNat by have:=M.out.2;omega]
     rw[aj] at ai Q;have ak:=elAt_vec hP (k:Int) (by omega);have aF:=Lib.hid ak;clear ak aj;rw[<-M.out.1] at O;have al:=movesInto_ok P G wr _ _ _ _ U (elAt P k) (gU P V) Any Su Sv _ A.out.2.1 (D.ext m) (Rows2.ext Z m) (Rows2.ext A.out.2.2.2.2 m) Q A.out.1.2.1.1 aF.out;have HM:=Lib.hid al;clear al;go_wp2_with fail
     refine Calls.mono HM.out ?_;rintro e5 w5 ⟨v5,rfl,R,r,rfl,hr⟩;have am:r=true↔mvQ P U V k:=by rw[hr];unfold mvQ;exact⟨λh=>⟨HZ.out,h⟩,λh=>h.2⟩
     have HR:=Lib.hid am;clear hr am HM ai;cases r with
     | false=>
      go_wp2;go_roundw
      case rel=>exact⟨k+1,by go_num,by omega,grown_trans hg R,Lib.hid (λj hj=>by
       rcases Nat.lt_succ_iff_lt_or_eq.1 hj with h|h
       ·exact hF.out j h
       ·rw[h];intro C;have:=HR.out.2 C;cases this)⟩
      case measure=>simp[intOf];omega
     | true=>
      have C:=sj_yes A.out.1 (.inl ⟨k,rfl,by have:=M.out.2;omega,HR.out.1 rfl,hF.out⟩);have an:=Ints.sub (Ints.ext Q R) (S':=Any) (λ_ _ _=>trivial);have E:=Lib.hid (And.intro C an);clear C an;go_wp2;go_ret2
      exact⟨_,rfl,grown_trans p (grown_trans b (grown_trans m R)),_,_,_,by rw[E.out.1.1];rfl,by rw[E.out.1.2];exact E.out.2⟩
    ·have a7:k=N:=by omega
     have C:=sj_no A.out.1 (.inr ⟨rfl,λj hj=>hF.out j (by have:=M.out.2;omega)⟩);have E:=Lib.hid C;clear C;go_wp2;go_ret2
     exact⟨_,rfl,grown_trans p (grown_trans b m),none,0,0,by rw[E.out.1];rfl,by rw[E.out.2];exact⟨none,0,rfl,⟨by simp,by simp,λ_=>rfl⟩,λi Y=>by simp at Y⟩⟩
  ·have hb:(x == y)=false:=by simp[u]
   have C:=sj_no A.out.1 (.inr ⟨rfl,λj _ h=>u (by rw[hx,hy];exact h.1)⟩);have E:=Lib.hid C;clear C hx hy u;go_wp2;go_ret2
   exact⟨_,rfl,grown_trans p (grown_trans b B),none,0,0,by rw[E.out.1];rfl,by rw[E.out.2];exact⟨none,0,rfl,⟨by simp,by simp,λ_=>rfl⟩,λi Y=>by simp at Y⟩⟩
end Go.Proofs.YtoakmefajbbggaaGreat
namespace Go.Proofs.YtoakmefajbbggaaGreat
theorem FstI_ex (q:Nat->Prop) (n:Nat):∃r,FstI q n r:=by
 induction n with
 | zero=>exact⟨-1,.inr ⟨rfl,λj b=>by omega⟩⟩
 | succ n e=>
  obtain⟨r,h⟩:=e;rcases h with⟨k,rfl,hk,a,hm⟩|⟨rfl,hm⟩
  ·exact⟨k,.inl ⟨k,rfl,by omega,a,hm⟩⟩
  ·by_cases h:q n
   ·exact⟨n,.inl ⟨n,rfl,by omega,h,λj b=>hm j b⟩⟩
   ·exact ⟨-1,.inr ⟨rfl,λj b a=>by
     rcases Nat.lt_succ_iff_lt_or_eq.1 b with h1|h1
     ·exact hm j h1 a
     ·rw[h1] at a;exact h a⟩⟩
section
variable {P:Pr}(G:Grp P)
include G
end
end Go.Proofs.YtoakmefajbbggaaGreat
namespace Go.Proofs.YtoakmefajbbggaaGreat
open Go.RowKit
theorem strOf_inj:∀ {xs b:List Int},(∀a∈xs,0<=a/\a<256)->(∀a∈b,0<=a/\a<256)->strOfNums xs=strOfNums b->xs=b:=by
 intro xs b hx hy h
 have h1:xs.map (λn=>UInt8.ofNat n.toNat)=b.map (λn=>UInt8.ofNat n.toNat):=by
  rw[<-strOfNums_data,<-strOfNums_data,h]
 have key:∀ {xs b:List Int},(∀a∈xs,0<=a/\a<256)->(∀a∈b,0<=a/\a<256)->xs.map (λn=>UInt8.ofNat n.toNat)=b.map (λn=>UInt8.ofNat n.toNat)->xs=b:=by
  intro xs;induction xs with
  | nil=>intro b _ _ h;cases b with
   | nil=>rfl
   | cons=>simp at h
  | cons x xs e=>
   intro b hx hy h;cases b with
   | nil=>simp at h
   | cons y b=>
    simp only[List.map_cons,List.cons.injEq] at h;obtain⟨a1,a2⟩:=hx x (List.mem_cons_self ..);obtain⟨b1,b2⟩:=hy y (List.mem_cons_self ..);have i:=congrArg UInt8.toNat h.1;rw[UInt8.toNat_ofNat',UInt8.toNat_ofNat',Nat.mod_eq_of_lt (by omega),Nat.mod_eq_of_lt (by omega)] at i;rw[show x=y by omega,e (λa ha=>hx a (List.mem_cons_of_mem _ ha)) (λa ha=>hy a (List.mem_cons_of_mem _ ha)) h.2]
 exact key hx hy h1
theorem keyL_bytes {u:List (List Int)}(h:∀x∈u,∀e∈x,0<=e/\e<256):∀a∈keyL u,0<=a/\a<256:=by
 intro a ha;unfold keyL at ha;obtain⟨r,hr,b⟩:=List.mem_flatten.1 ha;obtain⟨x,hx,rfl⟩:=List.mem_map.1 hr;rcases List.mem_append.1 b with h1|h1
 ·exact h x hx a h1
 ·simp at h1;omega
theorem keyRow_inj {x y:List Int}(h:keyRow x=keyRow y):x=y:=List.append_cancel_right h
theorem keyS_inj {n:Nat}{u v:List (List Int)}(b:∀x∈u,x.length=n/\∀e∈x,0<=e/\e<256) (i:∀x∈v,x.length=n/\∀e∈x,0<=e/\e<256) (h:keyS u=keyS v):u=v:=by
 have h1:=strOf_inj (keyL_bytes λx hx=>(b x hx).2) (keyL_bytes λx hx=>(i x hx).2) h
 have j:u.map keyRow=v.map keyRow:=flatten_inj (n:=n+1) (by omega)
  (λr a=>by obtain⟨x,hx,rfl⟩:=List.mem_map.1 a;simp[keyRow,(b x hx).1])
  (λr a=>by obtain⟨x,hx,rfl⟩:=List.mem_map.1 a;simp[keyRow,(i x hx).1]) h1
 have key:∀ {u v:List (List Int)},u.map keyRow=v.map keyRow->u=v:=by
  intro u;induction u with
  | nil=>intro v h;cases v with
   | nil=>rfl
   | cons=>simp at h
  | cons x u k=>
   intro v h;cases v with
   | nil=>simp at h
   | cons y v=>
    simp only[List.map_cons,List.cons.injEq] at h;rw[keyRow_inj h.1,k h.2]
 exact key j
theorem vec_bytes {P:Pr}(hP:Valid P) {x:List Int}(hx:Vec P.orders x):x.length=P.orders.length/\∀e∈x,0<=e/\e<256:=by
 refine⟨hx.1,λe b => ?_⟩;obtain⟨i,a,rfl⟩:=List.getElem_of_mem b;have h1:=hx.2 i (by rw[<-hx.1];exact a);rw[<-gt_eq _ _ a];have j:=hP.ord7 i (by rw[<-hx.1];exact a);omega
theorem subB_key {P:Pr}(hP:Valid P) {u v:List (List Int)}(a:SubB P u) (b:SubB P v) (h:keyS u=keyS v):u=v:=
 keyS_inj (λx hx=>vec_bytes hP (a.1 x hx)) (λx hx=>vec_bytes hP (b.1 x hx)) h
theorem wp_app_v (T E:Nat) (z:Value) (bytes:Nat) (C:Tryz.prog.underlying T=some (.slice E)) (D:(Tryz.prog.info? E).map (λi=>(i.zero,i.size,i.bytes))=some (some z,1,bytes))
  (q:z.cells.size=1) (r:bytes<=64) {k:Array Oper}{rest:List Oper}{o:Oper}{a:Act}{Q:Exit->Act->World->Prop}{w:World}(y:o.guard=none) (s x:Operand)
  (F:o.op=Op.call { callee:=Callee.builtin Builtin.append,args := #[s,x],argTypes := #[T,T] }) (base:Nat) (b:World) (v u:Value) (xs:List Value) (G:a.eval s=v) (l:OwnV base E b v xs)
  (H:w=b.alloc (.cells #[u] E)) (I:u.oneCell'=true) (hx:a.eval x=.slice (some ⟨b.heap.size,0,none⟩) 1 1) (B:xs.length<=1000000) (A:base<=b.heap.size)
  (h:∀p w',OwnV base E w' p (xs++[u])->b.grownBy w' v.ownBlock->wpList Tryz.prog k Q rest (a.put o.dst p) w') :
  wpList Tryz.prog k Q (o :: rest) a w:=by
 subst H;have e:Ext b (b.alloc (.cells #[u] E)):=World.grownBy_alloc _ _ _;refine wp_app T E z bytes C D q r y s x F base v xs G (l.kept e (by cases K:v.ownBlock<;>simp)) (some ⟨b.heap.size,0,none⟩) 1 1 [u] hx rfl (by simp) ?_ ?_ (by omega) (by have:=e.size;omega) ?_
 ·intro j L
  have:j=0:=by omega
  subst this;exact⟨_,_,rfl,by rw[World.cell?_alloc_at _ _ _ _ rfl];rfl⟩
 ·intro M m
  simp at m;subst m;exact I
 ·intro p w' h1 J _ _
  exact h p w' h1 (grown_trans (grown_of_ext _ e) J)
theorem wp_app_int {i:Array Oper}{rest:List Oper}{o:Oper}{a:Act}{Q:Exit->Act->World->Prop}{w:World}(p:o.guard=none) (s x:Operand)
  (q:o.op=Op.call { callee:=Callee.builtin Builtin.append,args := #[s,x],argTypes := #[24,24] }) (B:Nat) (v:Value) (l:List Int) (y:Int) (r:a.eval s=v) (e:World) (j:Own B e v l)
  (u:w=e.alloc (.cells #[.int .i64 y] 2)) (hx:a.eval x=.slice (some ⟨e.heap.size,0,none⟩) 1 1) (k:l.length<=1000000) (b:B<=e.heap.size)
  (h:∀m w',Own B w' m (l++[y])->e.grownBy w' v.ownBlock->wpList Tryz.prog i Q rest (a.put o.dst m) w') :
  wpList Tryz.prog i Q (o :: rest) a w:=
 wp_app_v 24 2 (.int .i64 0) 8 und_ints Tryz.infoInt rfl (by decide) p s x q B e v (.int .i64 y) (l.map (Value.int .i64)) r j.v u rfl hx (by rw[List.length_map];exact k) b
  (λm w' h1 z=>h m w' (Own.of (by rw[List.map_append];exact h1)) z)
theorem wp_app_vb (T E:Nat) (z:Value) (bytes:Nat) (F:Tryz.prog.underlying T=some (.slice E)) (G:(Tryz.prog.info? E).map (λi=>(i.zero,i.size,i.bytes))=some (some z,1,bytes))
  (y:z.cells.size=1) (A:bytes<=64) {p:Array Oper}{rest:List Oper}{o:Oper}{a:Act}{Q:Exit->Act->World->Prop}{w:World}(B:o.guard=none) (s x:Operand)
  (H:o.op=Op.call { callee:=Callee.builtin Builtin.append,args := #[s,x],argTypes := #[T,T] }) (base:Nat) (b:World) (v u:Value) (xs:List Value) (I:a.eval s=v) (q:OwnV base E b v xs)
  (J:w=b.alloc (.cells #[u] E)) (K:u.oneCell'=true) (hx:a.eval x=.slice (some ⟨b.heap.size,0,none⟩) 1 1) (D:xs.length<=1000000) (C:base<=b.heap.size)
  (h:∀m w',OwnV base E w' m (xs++[u])->b.grownBy w' v.ownBlock->(m.ownBlock=v.ownBlock\/∀k,m.ownBlock=some k->b.heap.size<=k)->wpList Tryz.prog p Q rest (a.put o.dst m) w') :
  wpList Tryz.prog p Q (o :: rest) a w:=by
 subst J;have l:Ext b (b.alloc (.cells #[u] E)):=World.grownBy_alloc _ _ _;refine wp_app T E z bytes F G y A B s x H base v xs I (q.kept l (by cases N:v.ownBlock<;>simp)) (some ⟨b.heap.size,0,none⟩) 1 1 [u] hx rfl (by simp) ?_ ?_ (by omega) (by have:=l.size;omega) ?_
 ·intro j O
  have:j=0:=by omega
  subst this;exact⟨_,_,rfl,by rw[World.cell?_alloc_at _ _ _ _ rfl];rfl⟩
 ·intro R r
  simp at r;subst r;exact K
 ·intro m w' h1 L _ M
  exact h m w' h1 (grown_trans (grown_of_ext _ l) L) (M.elim .inl (λe => .inr (λk hk=>by rw[e] at hk;cases hk;exact l.size)))
theorem wp_app_intb {j:Array Oper}{rest:List Oper}{o:Oper}{a:Act}{Q:Exit->Act->World->Prop}{w:World}(q:o.guard=none) (s x:Operand)
  (r:o.op=Op.call { callee:=Callee.builtin Builtin.append,args := #[s,x],argTypes := #[24,24] }) (B:Nat) (v:Value) (l:List Int) (y:Int) (u:a.eval s=v) (b:World) (m:Own B b v l)
  (z:w=b.alloc (.cells #[.int .i64 y] 2)) (hx:a.eval x=.slice (some ⟨b.heap.size,0,none⟩) 1 1) (p:l.length<=1000000) (e:B<=b.heap.size)
  (h:∀i w',Own B w' i (l++[y])->b.grownBy w' v.ownBlock->(i.ownBlock=v.ownBlock\/∀k,i.ownBlock=some k->b.heap.size<=k)->wpList Tryz.prog j Q rest (a.put o.dst i) w') :
  wpList Tryz.prog j Q (o :: rest) a w:=
 wp_app_vb 24 2 (.int .i64 0) 8 und_ints Tryz.infoInt rfl (by decide) q s x r B b v (.int .i64 y) (l.map (Value.int .i64)) u m.v z rfl hx (by rw[List.length_map];exact p) e
  (λi w' h1 A C=>h i w' (Own.of (by rw[List.map_append];exact h1)) A C)
end Go.Proofs.YtoakmefajbbggaaGreat
namespace Go.Proofs.YtoakmefajbbggaaGreat
theorem freeze_drawn (w:World) (a:Addr) (n:Nat):(w.freeze a n).drawn=w.drawn:=by
 unfold World.freeze;split<;>rfl
theorem ask_drawn {α:Type}(q:Ask α):∀w:World,w.drawn<=(w.ask q).2.drawn:=by
 induction q with
 | done a=>intro w;exact Nat.le_refl _
 | ask b range k e=>
  intro w;unfold World.ask;dsimp only;split
  ·exact e _ _
  ·exact Nat.le_trans (Nat.le_succ _) (e _ { w with drawn:=w.drawn+1 })
theorem sys_drawn (w:World) (c:Sys):w.drawn<=(w.sys c).2.drawn:=by
 unfold World.sys;have h:=ask_drawn (Kernel.perform c w.os) w;revert h
 generalize w.ask (Kernel.perform c w.os)=r;intro h;split
 ·exact Nat.le_refl _
 ·exact h
theorem viewStore_drawn (p:Program) (w:World) (at_:Addr) (u:TypeId) (k:Addr) (v:Value) (atomic:Bool) (r:World × List Addr) (h:w.viewStore p at_ u k v atomic=.ok r):r.1.drawn=w.drawn:=by
 unfold World.viewStore at h;simp only[bind,Except.bind,pure,Except.pure] at h;repeat' split at h
 all_goals first|(cases h;done)|(cases h;rfl)
theorem farStore_drawn (p:Program) (w:World) (a:Addr) (v:Value) (atomic:Bool) (r:World × List Addr) (h:w.farStore p a v atomic=.ok r):r.1.drawn=w.drawn:=by
 unfold World.farStore at h;split at h
 ·split at h
  ·rename_i b
   cases h
   exact viewStore_drawn _ _ _ _ _ _ _ _ b
  ·cases h
 ·cases h
theorem run_drawn {α:Type}(p:Program) (s:Sem α):∀(w w':World) (a:α),s.run p w=.ok a w'->w.drawn<=w'.drawn:=by
 induction s with
 | pure a=>intro w w' b h;cases h;exact Nat.le_refl _
 | load m a k e=>
  intro w w' b h;unfold Sem.run at h;split at h
  ·exact e _ _ _ _ h
  ·split at h
   ·exact e _ _ _ _ h
   ·cases h
 | store m a v k e=>
  intro w w' b h;cases v<;>simp only[Sem.run] at h
  all_goals try (cases h;done)
  all_goals
   split at h
   ·split at h
    ·cases h
    ·exact e (w.setCell a _) _ _ h
   ·split at h
    ·rename_i j l i
     have h1:=farStore_drawn _ _ _ _ _ _ i;have u:=e _ _ _ h;dsimp only at h1;omega
    ·cases h
 | new o k e=>intro w w' b h;exact e _ { w with heap:=w.heap.push o } _ _ h
 | shape r k e=>intro w w' b h;exact e _ _ _ _ h
 | freeze a n k e=>intro w w' b h;have:=e _ _ _ h;rw[freeze_drawn] at this;exact this
 | frozen a k e=>intro w w' b h;exact e _ _ _ _ h
 | getObj r k e=>
  intro w w' b h;unfold Sem.run at h;split at h
  ·cases h
  ·exact e _ _ _ _ h
  ·cases h
 | setObj r o k e=>
  intro w w' b h;unfold Sem.run at h;split at h
  ·cases h
  ·exact e { w with heap:=w.heap.setIfInBounds r o } _ _ h
  ·cases h
 | choose q k e=>
  intro w w' b h;unfold Sem.run at h;split at h
  ·exact e _ _ _ _ h
  ·exact Nat.le_trans (Nat.le_succ _) (e _ _ _ _ h)
 | sys c k e=>intro w w' b h;exact Nat.le_trans (sys_drawn w c) (e _ _ _ _ h)
 | program k e=>intro w w' b h;exact e _ _ _ _ h
 | mark m k e=>intro w w' b h;exact e _ _ _ h
 | halt y=>intro w w' b h;cases h
theorem wpList_drawn {P:Program}{b:Array Oper}{rest:List Oper}{o:Oper}{a:Act}{Q:Exit->Act->World->Prop}{w:World}{Φ : Act->World->Prop}(l:o.guard=none)
  (m:∀f args w',(execOp a.eval o).run P w ≠ .ok (.enter f args) w') (p:∀r args w',(execOp a.eval o).run P w ≠ .ok (.row r args) w')
  (h:wpList P b (λe j w'=>e=.normal /\ Φ j w') [o] a w) (k:∀j w',Φ j w'->w.drawn<=w'.drawn->wpList P b Q rest j w') :
  wpList P b Q (o :: rest) a w:=by
 have u:Region.wanted o (yielded b a.tmps)=true:=by simp[Region.wanted,l]
 unfold wpList at h ⊢;rw[if_pos u] at h ⊢;rcases h with h|⟨_,⟨_,_,he,_⟩⟩
 ·left
  unfold Oper.wp at h ⊢;cases i:(execOp a.eval o).run P w with
  | ok n w'=>
   have q:=run_drawn _ _ _ _ _ i;rw[i] at h;cases n with
   | value v=>exact k _ _ h.2 q
   | skip=>exact k _ _ h.2 q
   | defer d=>exact k _ _ h.2 q
   | enter f args=>exact absurd i (m _ _ _)
   | row r args=>exact absurd i (p _ _ _)
   | _=>exact h.elim
  | halt y w'=>
   rw[i] at h;cases y with
   | panic v=>cases h.1
   | _=>exact h.elim
 ·cases he
theorem run_value_only (P:Program) (s:Sem Value) (w w':World) (n:Next) (h:Sem.run P (do pure (Next.value (<-s))) w=.ok n w'):∃v,n=.value v:=by
 rw[Sem.run_bind] at h;cases a:Sem.run P s w with
 | ok v b=>rw[a] at h;cases h;exact⟨v,rfl⟩
 | halt e b=>rw[a] at h;cases h
theorem append_value {P:Program}{o:Oper}{a:Act}{w w':World}{n:Next}{args:Array Operand}{b:Array TypeId}(e:o.op=Op.call { callee:=Callee.builtin Builtin.append,args:=args,argTypes:=b })
  (h:(execOp a.eval o).run P w=.ok n w'):∃v,n=.value v:=by
 unfold execOp at h;rw[e] at h;exact run_value_only P (Builtin.append_ b o.type (args.map a.eval)) w w' n h
theorem append_drawn {P:Program}{b:Array Oper}{rest:List Oper}{o:Oper}{a:Act}{Q:Exit->Act->World->Prop}{w:World}{Φ : Act->World->Prop}(j:o.guard=none) {args:Array Operand}{l:Array TypeId}
  (p:o.op=Op.call { callee:=Callee.builtin Builtin.append,args:=args,argTypes:=l })
  (h:wpList P b (λe i w'=>e=.normal /\ Φ i w') [o] a w) (k:∀i w',Φ i w'->w.drawn<=w'.drawn->wpList P b Q rest i w') :
  wpList P b Q (o :: rest) a w:=
 wpList_drawn j (λf x w' m=>by obtain⟨v,hv⟩:=append_value p m;cases hv) (λf x w' m=>by obtain⟨v,hv⟩:=append_value p m;cases hv) h k
end Go.Proofs.YtoakmefajbbggaaGreat
namespace Go.Proofs.YtoakmefajbbggaaGreat
open Go.RowKit
theorem wp_app_valD (T E:Nat) (z:Value) (bytes:Nat) (F:Tryz.prog.underlying T=some (.slice E)) (G:(Tryz.prog.info? E).map (λi=>(i.zero,i.size,i.bytes))=some (some z,1,bytes))
  (p:z.cells.size=1) (q:bytes<=64) {j:Array Oper}{rest:List Oper}{o:Oper}{a:Act}{Q:Exit->Act->World->Prop}{w:World}(k:o.guard=none) (s x:Operand)
  (A:o.op=Op.call { callee:=Callee.builtin Builtin.append,args := #[s,x],argTypes := #[T,T] }) (B:Nat) (v u:Value) (xs:List Value) (H:a.eval s=v) (w0:World) (l:OwnV B E w0 v xs) (C:w=w0.alloc (.cells #[u] E)) (h1:u.oneCell'=true)
  (hx:a.eval x=.slice (some ⟨w0.heap.size,0,none⟩) 1 1) (m:xs.length<=1000000) (e:B<=w0.heap.size)
  (h:∀b w',OwnV B E w' b (xs++[u])->w0.grownBy w' v.ownBlock->w0.drawn<=w'.drawn->wpList Tryz.prog j Q rest (a.put o.dst b) w') :
  wpList Tryz.prog j Q (o :: rest) a w:=by
 refine append_drawn (Φ :=λD w'=>∃b,OwnV B E w' b (xs++[u])/\w0.grownBy w' v.ownBlock/\D=a.put o.dst b) k A ?_ ?_
 ·exact wp_app_val T E z bytes F G p q k s x A B v u xs H w0 l C h1 hx m e (λb w' r y=>⟨rfl,b,r,y,rfl⟩)
 ·rintro D w' ⟨b,r,y,rfl⟩ hd
  subst C;exact h b w' r y hd
theorem pivotsD_ok (v:Value) (U:List (List Int)) (w:World) (S:Nat->Prop) (h:Rows2 S w v U) (F:∀z∈U,dep z<z.length) (R:U.length<=100000) :
  Calls Tryz.prog 162 #[v] w (Ret w λw' r=>OwnV w.heap.size 3 w' r (depV U)/\w.drawn<=w'.drawn):=by
 obtain⟨a,cap,rfl,_,_⟩:=Sl.shape h;have I:=Lib.hid F;clear F;go_enter Tryz.func162,Tryz.ntmps162;go_wp2;go_loopw [3,8] (λJ p wr=>∃(k:Nat) (v4:Value),v4=J/\p=.int .i64 k/\k<=U.length/\Ext w wr/\OwnV w.heap.size 3 wr v4 (depV (U.take k))/\w.drawn<=wr.drawn) (λ_ p _=>U.length-(intOf p).toNat)
 case atStart=>exact⟨0,_,rfl,rfl,by omega,Ext.refl _,World.ownsRow_nil _ _ _ _,Nat.le_refl _⟩
 case round=>
  obtain⟨k,v4,rfl,rfl,hk,m,hO,hdr⟩:=hrel;by_cases i:k<U.length
  ·obtain ⟨b,off,a2,cap2,rfl,_,_,hc,K⟩:=Rows2.at (Rows2.ext h m) k i
   have e:depV (U.take (k+1))=depV (U.take k)++[.int .i64 (dep (gt U k))]:=by unfold depV;rw[take_succ_gt U k i,List.map_append];rfl
   have q:(depV (U.take k)).length<=1000000:=by unfold depV;rw[List.length_map,List.length_take];omega
   have L:=Lib.hid e;clear e;have G:(k:Int)<U.length:=by omega
   go_wp2_with fail
   refine Calls.mono (idxNz_ok _ (gt U k) wr _ K (I.out _ (gtMem i))) ?_;rintro T V ⟨rfl,rfl⟩;go_wp2_with (first|(at_builtin;refine wp_app_valD 171 3 (.int .i64 0) 8 und_intsG Tryz.infoIntG rfl (by decide) rfl _ _ rfl w.heap.size v4 _ (depV (U.take k)) rfl wr hO rfl rfl rfl q m.size ?_;intro M N u y A)|fail)
   have B:Ext w N:=grown_own m y (λj O i=>by have:=(hO.lt j O).1;omega);go_roundw
   case rel=>exact⟨k+1,M,rfl,by go_num,by omega,B,by rw[L.out];exact u,Nat.le_trans hdr A⟩
   case measure=>simp[intOf];omega
  ·have C:k=U.length:=by omega
   subst C;rw[List.take_length] at hO
   have D:∃H l,v4=.slice H U.length l:=by
    rcases hO.form with⟨h1,E⟩|⟨g,cp,h1,_⟩
    ·have Q:U.length=0:=by unfold depV at E;rw[List.map_eq_nil_iff] at E;rw[E];rfl
     exact⟨none,0,by rw[h1,Q]⟩
    ·exact⟨_,_,by rw[h1];unfold depV;rw[List.length_map]⟩
   obtain⟨H,l,rfl⟩:=D;go_wp2;go_ret;exact⟨_,rfl,m,hO,hdr⟩
theorem sizeOfD_ok (P:Pr) (hP:Valid P) (w:World) (p I:Value) (U:List (List Int)) (Q J:Nat->Prop) (K:PresP Q w p P) (L:Rows2 J w I U) (y:SeqOk P U) (hl:U.length<=100) :
  Calls Tryz.prog 82 #[p,I] w (Ret w λw' v=>v=.int .i64 (prodU P U U.length)/\w.drawn<=w'.drawn):=by
 have R:=hP.n6;obtain⟨pb,po,rfl⟩:=K.shape;obtain⟨ao,capo,hco0,A⟩:=K.ordAt;obtain⟨au,capu,rfl,_,_⟩:=Sl.shape L;have B:∀z∈U,dep z<z.length:=λz S=>by have:=y.1 z S;rw[this.1.1];exact this.2.1
 have M:=Lib.hid y;clear y;go_enter Tryz.func82,Tryz.ntmps82;go_wp2_with fail
 refine Calls.mono (pivotsD_ok _ U w J L B (by omega)) ?_;rintro e1 T ⟨pv,rfl,j,k,hd1⟩
 have m:∃V q,pv=.slice V U.length q:=by
  rcases k.form with⟨h1,l⟩|⟨g,cp,h1,_⟩
  ·have W:U.length=0:=by unfold depV at l;rw[List.map_eq_nil_iff] at l;rw[l];rfl
   exact⟨none,0,by rw[h1,W]⟩
  ·exact⟨_,_,by rw[h1];unfold depV;rw[List.length_map]⟩
 obtain⟨ap,capp,rfl⟩:=m;go_wp2;go_loopw [5,11] (λX C wr=>∃i:Nat,X=.int .i64 (prodU P U i)/\C=.int .i64 i/\i<=U.length/\T=wr) (λ_ C _=>U.length-(intOf C).toNat)
 case atStart=>exact⟨0,rfl,rfl,by omega,rfl⟩
 case round=>
  obtain⟨i,rfl,rfl,hi,rfl⟩:=hrel;by_cases a:i<U.length
  ·have N:(i:Int)<U.length:=by omega
   have r:gt (depV U) i=.int .i64 (dep (gt U i)):=by unfold depV;rw[gt_map _ _ _ a]
   have D:∃g,ap=some ⟨g,0,none⟩:=by
    rcases k.form with⟨h1,l⟩|⟨g,cp,h1,_⟩
    ·unfold depV at l;rw[List.map_eq_nil_iff] at l;rw[l] at a;simp at a
    ·simp only[Value.slice.injEq] at h1;exact⟨g,h1.1⟩
   obtain⟨gp,rfl⟩:=D;have u:=k.cell i (by unfold depV;rw[List.length_map];exact a);rw[r] at u;clear r;have e:prodU P U (i+1)=prodU P U i*gt P.orders (dep (gt U i)):=rfl;have E:=prodU_729 hP M.out (i+1) a;rw[e] at E;obtain⟨d,F⟩:∃d,d=dep (gt U i):=⟨_,rfl⟩;rw[<-F] at u e E;have G:d<P.orders.length:=by rw[F];exact(M.out.1 _ (gtMem a)).2.1
   clear F;have O:(d:Int)<P.orders.length:=by omega
   obtain⟨b,off,rfl,_,_,hco⟩:=Ints.at (A.ext j) d G;have Y:=j.cell hco0 (by simp);have hw:IntKind.i64.wrap (prodU P U i*gt P.orders d)=prodU P U i*gt P.orders d:=IntWalk.i64_in _ (by omega);have Z:=Lib.hid e;clear e E;go_wp2;go_roundw
   case rel=>exact⟨i+1,by rw[Z.out],by go_num,by omega,trivial⟩
   case measure=>simp[intOf];omega
  ·have H:i=U.length:=by omega
   subst H;go_wp2;go_ret;exact⟨_,rfl,j,rfl,hd1⟩
end Go.Proofs.YtoakmefajbbggaaGreat
namespace Go.Proofs.YtoakmefajbbggaaGreat
open Go.Proofs Go.Shelf Go.RowKit
section
open Go.Lib
def Tryz.growInts_ren : Go.Shelf.Ren := ⟨fun | 4 => 234 | n => n, fun | 22 => 24 | 25 => 2 | 3 => 3 | 4 => 4 | 9 => 9 | 20 => 20 | 0 => 0 | n => n, fun | n => n⟩
theorem Tryz.growInts : Go.Proofs.Lays8.n4 Tryz.prog Tryz.growInts_ren := {
  mixed := by kernel_rfl
  f4 := ⟨Tryz.f234.name, by decide, Tryz.func234.trans (congrArg some (by kernel_rfl))⟩
  t0 := Tryz.underlying0
  a0 := Tryz.isAgg0
  z0 := Tryz.sizeOf0
  v0 := Tryz.zeroValue0
  t3 := Tryz.underlying3
  a3 := Tryz.isAgg3
  z3 := Tryz.sizeOf3
  v3 := Tryz.zeroValue3
  t4 := Tryz.underlying4
  a4 := Tryz.isAgg4
  z4 := Tryz.sizeOf4
  v4 := Tryz.zeroValue4
  t9 := Tryz.underlying9
  a9 := Tryz.isAgg9
  z9 := Tryz.sizeOf9
  v9 := Tryz.zeroValue9
  t20 := Tryz.underlying20
  a20 := Tryz.isAgg20
  z20 := Tryz.sizeOf20
  v20 := Tryz.zeroValue20
  t22 := Tryz.underlying24
  a22 := Tryz.isAgg24
  z22 := Tryz.sizeOf24
  v22 := Tryz.zeroValue24 }
theorem growInts_ok (n:Nat) (y:n<=1000000) (w:World):Calls Tryz.prog 234 #[.slice none 0 0,.int .i64 n] w (Ret w λw' v=>Own w.heap.size w' v []/\w.drawn<=w'.drawn):=by
 rcases Nat.eq_zero_or_pos n with rfl|z
 ·have h:=Any8.slices_Grow_room Tryz.growInts none 0 0 0 w (by omega) (by omega) (by omega) (by omega)
  change Calls Tryz.prog 234 _ _ _ at h;refine h.mono ?_;rintro e w' ⟨rfl,rfl⟩;exact⟨_,rfl,Ext.refl _,Own.of (World.ownsRow_nil _ _ _ _),Nat.le_refl _⟩
 ·obtain ⟨q,r,i,j,k⟩:=info_parts Tryz.infoInt
  have b:0+n<=maxLen:=by unfold maxLen;omega
  have h:=Any8.slices_Grow_grow Tryz.growInts q (.int .i64 0) r i (by rw[j];decide) none 0 0 n [] w (by omega) (by omega) (by rw[k];omega) (by omega) (by simp) (λ_=>rfl) (λa ha=>by cases ha);change Calls Tryz.prog 234 _ _ _ at h;refine h.mono ?_;rintro e w' ⟨rfl,rfl⟩;have l:=grownCap_ge w (0+n) 0 2;have m:=grownCap_le_maxLen w (0+n) 0 2 b;refine⟨_,rfl,grown_trans (grown_drew w none) (World.grownBy_alloc _ _ _),Own.of ⟨rfl,.inr ⟨w.heap.size,_,_,rfl,Nat.le_refl _,Array.getElem?_push_size (xs:=w.heap),Nat.zero_le _,m,?_,by simp⟩⟩,by first|exact Nat.le_refl _|exact Nat.le_succ _⟩;simp only[Array.size_append,size_zeroCells,List.size_toArray,List.length_nil];have u:(Value.cells (.int .i64 0)).size=1:=rfl;have p:0+n<=grownCap w (0+n) 0 2:=l;rw[u];show 0+(0+n-0)*1+(grownCap w (0+n) 0 2-(0+n))*1=grownCap w (0+n) 0 2*1
  omega
end
theorem wp_app_intsD {i:Array Oper}{rest:List Oper}{o:Oper}{a:Act}{Q:Exit->Act->World->Prop}{w:World}(j:o.guard=none) (s x:Operand)
  (y:o.op=Op.call { callee:=Callee.builtin Builtin.append,args := #[s,x],argTypes := #[24,24] }) (base:Nat) (v:Value) (l:List Int) (A:a.eval s=v) (k:Own base w v l)
  (u:Value) (m:List Int) (hx:a.eval x=u) (S:Nat->Prop) (B:Ints S w u m) (p:l.length+m.length<=2147483648) (e:base<=w.heap.size)
  (h:∀b w',Own base w' b (l++m)->w.grownBy w' v.ownBlock->w.drawn<=w'.drawn->wpList Tryz.prog i Q rest (a.put o.dst b) w') :
  wpList Tryz.prog i Q (o :: rest) a w:=by
 refine append_drawn (Φ :=λz w'=>∃b,Own base w' b (l++m)/\w.grownBy w' v.ownBlock/\z=a.put o.dst b) j y ?_ ?_
 ·exact wp_app_ints j s x y base v l A k u m hx S B p e (λb w' q r _=>⟨rfl,b,q,r,rfl⟩)
 ·rintro z w' ⟨b,q,r,rfl⟩ hd
  exact h b w' q r hd
def rowsTo (a:List (List Int)):Nat->List Int
 | 0=>[]
 | k+1=>rowsTo a k++gt a k
theorem rowsTo_len (a:List (List Int)) (b:Nat) (h:∀u∈a,u.length<=b) (k:Nat) (hk:k<=a.length):(rowsTo a k).length<=b*k:=by
 induction k with
 | zero=>simp[rowsTo]
 | succ k e=>
  have h1:=e (by omega);have j:=h _ (gt_mem (l:=a) (i:=k) (by omega));simp only[rowsTo,List.length_append,Nat.mul_succ];omega
theorem rowsTo_take (b:List (List Int)) (k:Nat) (hk:k<=b.length):rowsTo b k=(b.take k).flatten:=by
 induction k with
 | zero=>simp[rowsTo]
 | succ k e=>
  have a:k<b.length:=by omega
  rw[rowsTo,e (by omega),List.take_succ_eq_append_getElem a,List.flatten_append];simp[gt,a]
theorem rowsTo_all (a:List (List Int)):rowsTo a a.length=a.flatten:=by
 rw[rowsTo_take a _ (Nat.le_refl _),List.take_length]
theorem concatInts_ok (w:World) (T:Value) (a:List (List Int)) (X:Nat->Prop) (K:Rows2 X w T a) (L:∀u∈a,u.length<=1000) (hn:a.length<=100) :
  Calls Tryz.prog 189 #[T] w (Ret w λw' v=>Own w.heap.size w' v a.flatten/\w.drawn<=w'.drawn):=by
 obtain⟨al,capl,rfl,_,_⟩:=Sl.shape K;have C:∀k,k<=a.length->(rowsTo a k).length<=100000:=λk hk=>by have:=rowsTo_len a 1000 L k hk;omega
 have I:=Lib.hid (And.intro C L);clear C L;rw[<-rowsTo_all];go_enter Tryz.func189,Tryz.ntmps189;go_wp2;go_loopw [3,11] (λY r wr=>∃k:Nat,Y=.int .i64 ((rowsTo a k).length:Nat)/\r=.int .i64 k/\k<=a.length/\w=wr) (λ_ r _=>a.length-(intOf r).toNat)
 case atStart=>exact⟨0,rfl,rfl,by omega,rfl⟩
 case round=>
  obtain⟨k,rfl,rfl,hk,rfl⟩:=hrel;have i:=I.out.1 k hk;by_cases e:k<a.length
  ·have D:(k:Int)<a.length:=by omega
   obtain⟨b,off,a2,cap2,rfl,_,_,J,M⟩:=Rows2.at K k e;have E:=I.out.1 (k+1) e;have l:(rowsTo a (k+1)).length=(rowsTo a k).length+(gt a k).length:=by simp only[rowsTo,List.length_append]
   obtain⟨m,A⟩:∃m,m=(rowsTo a k).length:=⟨_,rfl⟩;obtain⟨B,y⟩:∃B,B=(gt a k).length:=⟨_,rfl⟩;rw[<-A] at i l ⊢;rw[<-y] at J M l;have Z:m+B<=100000:=by omega
   have hw:IntKind.i64.wrap ((m:Int)+(B:Int))=((m+B:Nat):Int):=by rw[IntWalk.i64_in _ (by omega)];omega
   have aa:¬((m+B:Nat):Int)<0:=by omega
   have HS:=Lib.hid (And.intro l (And.intro A y));clear l A y E;go_wp2;go_roundw
   case rel=>exact⟨k+1,by rw[HS.out.1,Int.natCast_add],by go_num,by omega,trivial⟩
   case measure=>simp[intOf];omega
  ·have z:k=a.length:=by omega
   subst z;obtain⟨m,A⟩:∃m,m=(rowsTo a a.length).length:=⟨_,rfl⟩;rw[<-A] at i ⊢;clear A;go_wp2_with fail
   refine Calls.mono (growInts_ok m (by omega) w) ?_;rintro e1 w1 ⟨v1,rfl,hg1,hO1,hd1⟩;go_wp2;go_loopw [6,27] (λov r wr=>∃(k:Nat) (v4:Value),v4=ov/\r=.int .i64 k/\k<=a.length/\Ext w wr/\Own w.heap.size wr v4 (rowsTo a k)/\w.drawn<=wr.drawn) (λ_ r _=>a.length-(intOf r).toNat)
   case atStart=>exact⟨0,v1,rfl,rfl,by omega,hg1,hO1,hd1⟩
   case round=>
    clear hO1;obtain⟨k,v4,rfl,rfl,hk,F,hO,hdr⟩:=hrel;by_cases e:k<a.length
    ·have D:(k:Int)<a.length:=by omega
     obtain⟨b,off,a2,cap2,rfl,_,_,J,M⟩:=Rows2.at K k e;have N:=F.cell J (by simp);have G:=Ints.ext M F;have O:=I.out.2 _ (gt_mem e);have i:=I.out.1 k hk;have p:(rowsTo a k).length+(gt a k).length<=2147483648:=by omega
     have U:=Lib.hid (And.intro G p);clear p G O i J;go_wp2_with (first|(at_builtin;refine wp_app_intsD rfl _ _ rfl w.heap.size _ (rowsTo a k) rfl hO _ (gt a k) rfl _ U.out.1 U.out.2 F.size ?_;intro v5 w5 Q R S;have H:=grown_own F R (λj hj e=>by have:=(hO.lt j hj).1;omega))|fail)
     clear N;go_roundw
     case rel=>exact⟨k+1,v5,rfl,by go_num,by omega,H,Q,Nat.le_trans hdr S⟩
     case measure=>simp[intOf];omega
    ·have z:k=a.length:=by omega
     subst z
     obtain ⟨V,q,W,hvz⟩:∃V q W,v4=.slice V W q:=by
      rcases hO.2 with⟨h1,_⟩|⟨g,cp,_,h1,_⟩
      ·exact⟨_,_,_,h1⟩
      ·exact⟨_,_,_,h1⟩
     subst hvz;go_wp2;go_ret;exact⟨_,rfl,F,hO,hdr⟩
end Go.Proofs.YtoakmefajbbggaaGreat
namespace Go.Proofs.YtoakmefajbbggaaGreat
open Go.RowKit
theorem orInt_ok (a b:Int) (w:World) (v:Value) (S:Nat->Prop) (h:Ints S w v [a,b]) :
  Calls Tryz.prog 200 #[v] w λe w'=>e=.returned (.int .i64 (if a=0 then b else a))/\w'=w:=by
 obtain⟨A,capv,rfl,_,_⟩:=h.shape;obtain⟨u,o0,rfl,_,_,hc0⟩:=Ints.at h 0 (by simp)
 have j:w.cell? ⟨u,o0+1,none⟩=some (.int .i64 b):=by
  obtain⟨b1,o1,e,_,_,j⟩:=Ints.at h 1 (by simp);cases e;exact j
 have y:w.cell? ⟨u,o0,none⟩=some (.int .i64 a):=hc0;clear hc0 h;have l:(([a,b]:List Int).length:Int)=2:=rfl;rw[show([a,b]:List Int).length=2 from rfl];clear l;go_enter Tryz.func200,Tryz.ntmps200;go_wp2;go_loopw [8] (λm wr=>∃k:Nat,m=.int .i64 k/\k<=2/\wr=w/\(1<=k->a=0)/\(2<=k->b=0)) (λm _=>2-(intOf m).toNat)
 case atStart=>exact⟨0,rfl,by omega,rfl,λh=>by omega,λh=>by omega⟩
 case round=>
  obtain⟨k,rfl,hk,rfl,ha,hb⟩:=hrel;by_cases p:k=0
  ·subst p
   clear ha hb hk;by_cases q:a=0
   ·subst q
    go_wp2;go_roundw
    case rel=>exact⟨1,by go_num,by omega,trivial,by simp,by omega⟩
    case measure=>simp[intOf]
   ·go_wp2
    exact bodyPost_ret (v := .int .i64 a) (by simp[results,Tryz.results200,go_sem]) rfl ⟨rfl,rfl⟩
  ·by_cases h1:k=1
   ·subst h1
    have i:=ha (by omega);subst i;clear ha hb hk p;by_cases q:b=0
    ·subst q
     go_wp2;go_roundw
     case rel=>exact⟨2,by go_num,by omega,trivial,by simp,by simp⟩
     case measure=>simp[intOf]
    ·go_wp2
     exact bodyPost_ret (v := .int .i64 b) (by simp[results,Tryz.results200,go_sem]) rfl ⟨rfl,rfl⟩
   ·have z:k=2:=by omega
    subst z;have i:=ha (by omega);have r:=hb (by omega);subst i;subst r;clear ha hb hk p h1;go_wp2;exact bodyPost_ret (v := .int .i64 0) (by simp[results,Tryz.results200,go_sem]) rfl ⟨rfl,rfl⟩
theorem seqOk_row {P:Pr}{U:List (List Int)}(a:SeqOk P U):∀u∈U,u.length=P.orders.length:=λu b=>(a.1 u b).1.1
theorem compareSubgroups_ok (P:Pr) (hP:Valid P) (w:World) (p uv vv:Value) (U V:List (List Int)) (L M N:Nat->Prop) (O:PresP L w p P) (Q:Rows2 M w uv U) (R:Rows2 N w vv V) (T:SeqOk P U) (W:SeqOk P V) (z:U.length<=100) (A:V.length<=100) :
  Calls Tryz.prog 141 #[p,uv,vv] w (Ret w λw' v=>v=.int .i64 (cmpS P U V)/\w.drawn<=w'.drawn):=by
 have am:=hP.n6;obtain⟨pb,po,rfl⟩:=O.shape;obtain⟨au,capu,rfl,_,_⟩:=Sl.shape Q;obtain⟨av,capv,rfl,_,_⟩:=Sl.shape R;have q:∀u∈U,u.length<=1000:=λu h=>by have:=seqOk_row T u h;omega
 have r:∀u∈V,u.length<=1000:=λu h=>by have:=seqOk_row W u h;omega
 have B:U.flatten.length<=100000:=by have:=rowsTo_len U 1000 q _ (Nat.le_refl _);rw[rowsTo_all] at this;omega
 have C:V.flatten.length<=100000:=by have:=rowsTo_len V 1000 r _ (Nat.le_refl _);rw[rowsTo_all] at this;omega
 have e:cmpS P U V=if cmpI (prodU P U U.length) (prodU P V V.length)=0 then cmpL U.flatten V.flatten else cmpI (prodU P U U.length) (prodU P V V.length):=rfl
 have k:=Lib.hid (And.intro (And.intro T W) (And.intro (And.intro q r) (And.intro B (And.intro C e))));clear T W q r B C e;go_enter Tryz.func141,Tryz.ntmps141;go_wp2_with fail
 refine Calls.mono (sizeOfD_ok P hP w _ _ U L M O Q k.out.1.1 z) ?_;rintro e1 w1 ⟨v1,rfl,y,rfl,D⟩;obtain⟨a,ha⟩:∃a,a=prodU P U U.length:=⟨_,rfl⟩;rw[<-ha];have HA:=Lib.hid (And.intro ha D);clear ha D;go_wp2_with fail
 refine Calls.mono (sizeOfD_ok P hP w1 _ _ V L N (O.ext y) (Rows2.ext R y) k.out.1.2 A) ?_;rintro e2 w2 ⟨v2,rfl,hg2,rfl,E⟩;obtain⟨b,X⟩:∃b,b=prodU P V V.length:=⟨_,rfl⟩;rw[<-X];have e:=k.out.2.2.2.2;rw[<-HA.out.1,<-X] at e;have HD:=Lib.hid (And.intro e E);clear e X E;go_wp2_with fail
 refine Calls.mono (cmpI_ok a b w2) ?_;rintro e3 w3 ⟨rfl,rfl⟩;obtain⟨c,Y⟩:∃c,c=cmpI a b:=⟨_,rfl⟩;rw[<-Y];have e:=HD.out.1;rw[<-Y] at e;have F:=Lib.hid e;clear e Y;have l:=grown_trans y hg2;go_wp2_with fail
 refine Calls.mono (concatInts_ok w3 _ U M (Rows2.ext Q l) k.out.2.1.1 z) ?_;rintro e4 w4 ⟨v4,rfl,hg4,hO4,hd4⟩;have m:=grown_trans l hg4;have Z:=Lib.hid hd4;clear hd4;go_wp2_with fail
 refine Calls.mono (concatInts_ok w4 _ V N (Rows2.ext R m) k.out.2.1.2 A) ?_;rintro e5 w5 ⟨v5,rfl,G,hO5,hd5⟩;have H:Ints Any w5 v4 U.flatten:=Ints.sub (Ints.ext (ints_of_own (S:=Any) hO4 (by have:=k.out.2.2.1;omega) (λ_ _=>trivial)) G) (λ_ _ _=>trivial);have I:Ints Any w5 v5 V.flatten:=ints_of_own (S:=Any) hO5 (by have:=k.out.2.2.2.1;omega) (λ_ _=>trivial);have HI:=Lib.hid (And.intro H I);clear H I hO4 hO5;have ac:=Lib.hid hd5;clear hd5;go_wp2_with fail
 refine Calls.mono (sCompare_ok v4 v5 U.flatten V.flatten w5 Any Any HI.out.1 HI.out.2) ?_;rintro e6 j ⟨rfl,rfl⟩;obtain⟨d,hd⟩:∃d,d=cmpL U.flatten V.flatten:=⟨_,rfl⟩;rw[<-hd];have e:=F.out;rw[<-hd] at e;have ae:=Lib.hid e;clear e hd F k HI;have af:Ext j (j.alloc (.cells #[.int .i64 c,.int .i64 d] 3)):=World.grownBy_alloc _ _ _;have J:OwnV j.heap.size 3 (j.alloc (.cells #[.int .i64 c,.int .i64 d] 3)) (.slice (some ⟨j.heap.size,0,none⟩) 2 2) [.int .i64 c,.int .i64 d]:=World.ownsRow_lit j #[.int .i64 c,.int .i64 d] 2 (Nat.le_refl _) (by decide) rfl
 have K:Ints Any (j.alloc (.cells #[.int .i64 c,.int .i64 d] 3)) (.slice (some ⟨j.heap.size,0,none⟩) 2 2) [c,d]:=by
  refine⟨_,_,rfl,⟨by simp,by simp,λh=>by cases h⟩,λi hi=>⟨j.heap.size,0,.int .i64 (gt [c,d] i),rfl,trivial,by simp,?_,rfl⟩⟩;have:=J.cell i (by simpa using hi);rw[Nat.zero_add,this];have ar:i<2:=by simpa using hi
  have:i=0\/i=1:=by omega
  rcases this with rfl|rfl<;>rfl
 have H7:=Lib.hid K;clear K J;go_wp2_with fail
 refine Calls.mono (orInt_ok c d _ _ Any H7.out) ?_;rintro e8 w8 ⟨rfl,rfl⟩;rw[<-ae.out];go_wp2;go_ret;exact⟨_,rfl,grown_trans m (grown_trans G af),rfl,Nat.le_trans (Nat.le_trans HA.out.2 HD.out.2) (Nat.le_trans Z.out ac.out)⟩
theorem l03Flat_ok (w:World) (G:Value) (a:List (List Int)) (N:Nat->Prop) (H:Rows2 N w G a) (y:∀u∈a,u.length<=1000) (S:a.length<=100) :
  Calls Tryz.prog 277 #[G] w (Ret w λw' v=>Own w.heap.size w' v a.flatten):=by
 obtain⟨T,capl,rfl,_,_⟩:=Sl.shape H;have m:∀k,k<=a.length->(rowsTo a k).length<=100000:=λk hk=>by have:=rowsTo_len a 1000 y k hk;omega
 have I:=Lib.hid (And.intro m y);clear m y;rw[<-rowsTo_all];go_enter Tryz.func277,Tryz.ntmps277;go_wp2;go_loopw [3,4] (λO z wr=>∃(k:Nat) (v4:Value),v4=O/\z=.int .i64 k/\k<=a.length/\Ext w wr/\Own w.heap.size wr v4 (rowsTo a k)) (λ_ z _=>a.length-(intOf z).toNat)
 case atStart=>exact⟨0,_,rfl,rfl,by omega,World.grownBy_alloc _ _ _,World.ownsRow_lit w #[] 0 (Nat.le_refl _) (by decide) rfl⟩
 case round=>
  obtain⟨k,v4,rfl,rfl,hk,p,hO⟩:=hrel;by_cases l:k<a.length
  ·have J:(k:Int)<a.length:=by omega
   obtain⟨b,off,a2,cap2,rfl,_,_,hc,hr⟩:=Rows2.at H k l;have A:=p.cell hc (by simp);have q:=Ints.ext hr p;have B:=I.out.2 _ (gt_mem l);have C:=I.out.1 k hk;have e:(rowsTo a k).length+(gt a k).length<=2147483648:=by omega
   have K:=Lib.hid (And.intro q e);clear e q B C hc;go_wp2_with (first|(at_builtin;refine wp_app_ints rfl _ _ rfl w.heap.size _ (rowsTo a k) rfl hO _ (gt a k) rfl _ K.out.1 K.out.2 p.size ?_;intro Q U D E _;have r:=grown_own p E (λj R l=>by have:=(hO.lt j R).1;omega))|fail)
   clear A;go_roundw
   case rel=>exact⟨k+1,Q,rfl,by go_num,by omega,r,D⟩
   case measure=>simp[intOf];omega
  ·have F:k=a.length:=by omega
   subst F
   obtain ⟨L,M,i,hvz⟩:∃L M i,v4=.slice L M i:=by
    rcases hO.2 with⟨h1,_⟩|⟨g,cp,_,h1,_⟩
    ·exact⟨_,_,_,h1⟩
    ·exact⟨_,_,_,h1⟩
   subst hvz;go_wp2;go_ret;exact⟨_,rfl,p,hO⟩
theorem cmpL_end {X Y:List Int}{k:Nat}(hx:k<=X.length) (hy:k<=Y.length) (h:k=X.length\/k=Y.length):(cmpL (X.drop k) (Y.drop k)<0↔X.length<Y.length):=by
 by_cases h1:k<X.length
 ·have a:k=Y.length:=by omega
  rw[drop_gt h1,List.drop_eq_nil_of_le (show Y.length<=k by omega)];simp only[cmpL];omega
 ·rw [List.drop_eq_nil_of_le (show X.length<=k by omega)]
  by_cases a:k<Y.length
  ·rw[drop_gt a];simp only[cmpL];omega
  ·rw [List.drop_eq_nil_of_le (show Y.length<=k by omega)]
   simp only[cmpL];omega
theorem l01Less_ok (a b:Value) (X Y:List Int) (w:World) (K L:Nat->Prop) (ha:Ints K w a X) (G:Ints L w b Y) :
  Calls Tryz.prog 276 #[a,b] w (Ret w λ_ v=>v=.bool (decide (cmpL X Y<0))):=by
 obtain⟨R,capa,rfl,hla,_⟩:=ha.shape;obtain⟨ab,capb,rfl,hlb,_⟩:=G.shape;go_enter Tryz.func276,Tryz.ntmps276;go_wp2;go_loopw [5] (λv wr=>∃k:Nat,v=.int .i64 k/\k<=X.length/\k<=Y.length/\Ext w wr/\Hid (cmpL X Y=cmpL (X.drop k) (Y.drop k))) (λv _=>X.length-(intOf v).toNat)
 case atStart=>exact⟨0,rfl,by omega,by omega,Ext.refl _,Lib.hid (by simp)⟩
 case round=>
  obtain⟨k,rfl,hk,hkY,A,e⟩:=hrel;by_cases B:k<X.length
  ·obtain ⟨M,oa,rfl,_,_,r⟩:=Ints.at (Ints.ext ha A) k B
   have C:(k:Int)<X.length:=by omega
   by_cases p:k<Y.length
   ·obtain ⟨N,ob,rfl,_,_,u⟩:=Ints.at (Ints.ext G A) k p
    have z:(k:Int)<Y.length:=by omega
    have m:=e.out;rw[drop_gt B,drop_gt p] at m;simp only[cmpL] at m;obtain⟨x,hx⟩:∃x,x=gt X k:=⟨_,rfl⟩;obtain⟨y,hy⟩:∃y,y=gt Y k:=⟨_,rfl⟩;rw[<-hx] at r m;rw[<-hy] at u m;have E:=Lib.hid m;clear m e hx hy;go_wp2;go_quiet (fail)
    rename_i nq _;have D:Ext w (wr.drewN nq):=grown_trans A (grown_drewN _ _ _);have H:(wr.drewN nq).cell? ⟨M,oa+k,none⟩=some (.int .i64 x):=r;have I:(wr.drewN nq).cell? ⟨N,ob+k,none⟩=some (.int .i64 y):=u;clear r u;generalize wr.drewN nq=S at *;by_cases F:x=y
    ·subst F
     have j:=E.out;have J:cmpI x x=0:=by unfold cmpI;simp
     rw[if_pos J] at j;have l:=Lib.hid j;clear j E J;go_wp2;go_roundw
     case rel=>exact⟨k+1,by go_num,by omega,by omega,D,l⟩
     case measure=>simp[intOf];omega
    ·have j:=E.out
     have h1:cmpI x y≠0:=by
      rcases cmpI_cases x y with⟨h,k⟩|⟨h,k⟩|⟨h,k⟩<;>omega
     rw[if_neg h1] at j
     have q:(decide (cmpL X Y<0))=decide (x<y):=by
      rw[j];rcases cmpI_cases x y with⟨h,k⟩|⟨h,k⟩|⟨h,k⟩
      ·rw[h];simp[k]
      ·exact absurd k F
      ·rw[h];simp;omega
     have l:=Lib.hid q;clear j E h1 q;have O:(x != y)=true:=by simpa using F
     go_wp2;go_quiet (fail)
     rename_i Q _;go_wp2;go_ret;exact⟨_,rfl,grown_trans D (grown_drewN _ _ _),congrArg Value.bool l.out.symm⟩
   ·have i:=cmpL_end hk hkY (.inr (by omega))
    have q:(decide (cmpL X Y<0))=decide (X.length<Y.length):=by rw[e.out];exact decide_eq_decide.2 i
    have l:=Lib.hid q;clear q i e;have z:¬(k:Int)<Y.length:=by omega
    go_wp2;go_ret;exact⟨_,rfl,A,congrArg Value.bool l.out.symm⟩
  ·have i:=cmpL_end hk hkY (.inl (by omega))
   have q:(decide (cmpL X Y<0))=decide (X.length<Y.length):=by rw[e.out];exact decide_eq_decide.2 i
   have l:=Lib.hid q;clear q i e;have C:¬(k:Int)<X.length:=by omega
   go_wp2;go_ret;exact⟨_,rfl,A,congrArg Value.bool l.out.symm⟩
def ltB (P:Pr) (u v:List (List Int)):Bool:=decide (cmpS P u v<0)
theorem ltB_iff {P:Pr}{u v:List (List Int)} : ltB P u v=true↔subLt P u v:=by unfold ltB;rw[decide_eq_true_iff];exact cmpS_neg
theorem l19Before_ok (P:Pr) (hP:Valid P) (w:World) (pv uv vv:Value) (U V:List (List Int)) (Sp Su Sv:Nat->Prop) (X:PresV Sp w pv P) (Y:Rows2 Su w uv U) (Z:Rows2 Sv w vv V) (hU:SeqOk P U) (hV:SeqOk P V) (ac:U.length<=100) (ad:V.length<=100) :
  Calls Tryz.prog 233 #[pv,uv,vv] w (Ret w λ_ v=>v=.bool (ltB P U V)):=by
 have aw:=hP.n6;obtain⟨vo,vp,vc,rfl,h3⟩:=X;have F:=PresP.box h3 28;have i:Ext w (w.alloc (.cells #[vo,vp,vc] 28)):=World.grownBy_alloc _ _ _;obtain⟨G,vp6,vc6,_,_,hc0,l,m,h36⟩:=F.at;simp only[Nat.zero_add] at l m;have H:∀w',Ext (w.alloc (.cells #[vo,vp,vc] 28)) w'->w'.cell? ⟨w.heap.size,0,none⟩=some G/\w'.cell? ⟨w.heap.size,1,none⟩=some vp6/\w'.cell? ⟨w.heap.size,2,none⟩=some vc6:=λw' h=>⟨h.cell hc0 (by simp),h.cell l (by simp),h.cell m (by simp)⟩;have HB:=Lib.hid H;clear H F;obtain⟨au,capu,rfl,_,_⟩:=Sl.shape Y;obtain⟨av,capv,rfl,_,_⟩:=Sl.shape Z;have p:∀u∈U,u.length<=1000:=λu h=>by have:=seqOk_row hU u h;omega
 have q:∀u∈V,u.length<=1000:=λu h=>by have:=seqOk_row hV u h;omega
 have I:U.flatten.length<=100000:=by have:=rowsTo_len U 1000 p _ (Nat.le_refl _);rw[rowsTo_all] at this;omega
 have J:V.flatten.length<=100000:=by have:=rowsTo_len V 1000 q _ (Nat.le_refl _);rw[rowsTo_all] at this;omega
 have e:ltB P U V=decide ((if cmpI (prodU P U U.length) (prodU P V V.length)=0 then cmpL U.flatten V.flatten else cmpI (prodU P U U.length) (prodU P V V.length))<0):=rfl;have K:=Rows2.ext Y i;have L:=Rows2.ext Z i;have y:=Lib.hid (And.intro (And.intro hU hV) (And.intro (And.intro p q) (And.intro I (And.intro J e))));clear hU hV p q I J e Y Z;go_enter Tryz.func233,Tryz.ntmps233;go_wp2;clear hc0 l m;generalize af:w.alloc (.cells #[vo,vp,vc] 28)=w0 at *;clear af;obtain⟨a,ha⟩:∃a,a=prodU P U U.length:=⟨_,rfl⟩;obtain⟨b,hb⟩:∃b,b=prodU P V V.length:=⟨_,rfl⟩;have e:=y.out.2.2.2.2;rw[<-ha,<-hb] at e;have W:=Lib.hid (And.intro e (And.intro ha hb));clear e ha hb;have e1:∀w',Ext w0 w'->w'.cell? ⟨w.heap.size,0,none⟩=some G:=λw' h=>(HB.out w' h).1;have e2:∀w',Ext w0 w'->w'.cell? ⟨w.heap.size,1,none⟩=some vp6:=λw' h=>(HB.out w' h).2.1;have e3:∀w',Ext w0 w'->w'.cell? ⟨w.heap.size,2,none⟩=some vc6:=λw' h=>(HB.out w' h).2.2
 go_region_held3 (λw'=>Ext w0 w') (first|exact grown_drew _ _|assumption)
  (first
   | (revert z;intro z;go_at_call 211;refine Calls.mono (Calls.rel (w0:=w0) (by assumption) (l12Order_ok P hP _ _ _ V Any Any ⟨_,_,_,rfl,Pres3.ext h36 (by assumption)⟩ (Rows2.sub (Rows2.ext L (by assumption)) (λ_ _ _=>trivial)) y.out.1.2 (by omega))) ?_;rintro eB wB ⟨vB,rfl,A,hsB,M⟩;rw[<-W.out.2.2] at M;subst M)
   | (go_at_call 211;refine Calls.mono (Calls.rel (w0:=w0) (by assumption) (l12Order_ok P hP _ _ _ U Any Any ⟨_,_,_,rfl,Pres3.ext h36 (by assumption)⟩ (Rows2.sub (Rows2.ext K (by assumption)) (λ_ _ _=>trivial)) y.out.1.1 (by omega))) ?_;rintro eA wA ⟨vA,rfl,z,hsA,N⟩;rw[<-W.out.2.1] at N;subst N))
 clear e1 e2 e3 z hsA hsB;by_cases B:a=b
 ·subst B
  have h0:cmpI a a=0:=by unfold cmpI;simp
  have C:=W.out.1;rw[if_pos h0] at C;have D:=Lib.hid C;clear C h0;go_wp2_with fail
  refine Calls.mono (l03Flat_ok wB _ U Any (Rows2.sub (Rows2.ext K A) (λ_ _ _=>trivial)) y.out.2.1.1 ac) ?_;rintro e4 w4 ⟨v4,rfl,hg4,hO4⟩;have j:=grown_trans A hg4;go_wp2_with fail
  refine Calls.mono (l03Flat_ok w4 _ V Any (Rows2.sub (Rows2.ext L j) (λ_ _ _=>trivial)) y.out.2.1.2 ad) ?_;rintro e5 w5 ⟨v5,rfl,O,hO5⟩;have Q:Ints Any w5 v4 U.flatten:=Ints.sub (Ints.ext (ints_of_own (S:=Any) hO4 (by have:=y.out.2.2.1;omega) (λ_ _=>trivial)) O) (λ_ _ _=>trivial);have R:Ints Any w5 v5 V.flatten:=ints_of_own (S:=Any) hO5 (by have:=y.out.2.2.2.1;omega) (λ_ _=>trivial);have HI:=Lib.hid (And.intro Q R);clear Q R hO4 hO5;go_wp2_with fail
  refine Calls.mono (l01Less_ok v4 v5 U.flatten V.flatten w5 Any Any HI.out.1 HI.out.2) ?_;rintro e6 w6 ⟨v6,rfl,ai,E⟩;rw[<-D.out] at E;obtain⟨r,hr⟩:∃r,r=ltB P U V:=⟨_,rfl⟩;rw[<-hr] at E;subst E;have HR:=Lib.hid hr;clear hr;go_wp2;go_ret;exact⟨_,rfl,grown_trans i (grown_trans j (grown_trans O ai)),congrArg Value.bool HR.out⟩
 ·have C:=W.out.1
  have h1:cmpI a b≠0:=by
   rcases cmpI_cases a b with⟨h,k⟩|⟨h,k⟩|⟨h,k⟩<;>omega
  rw[if_neg h1] at C
  have T:ltB P U V=decide (a<b):=by
   rw[C];rcases cmpI_cases a b with⟨h,k⟩|⟨h,k⟩|⟨h,k⟩
   ·rw[h];simp[k]
   ·exact absurd k B
   ·rw[h];simp;omega
  have D:=Lib.hid T;clear T C h1;have aD:(a != b)=true:=by simpa using B
  go_wp2;go_ret;exact⟨_,rfl,grown_trans i A,congrArg Value.bool D.out.symm⟩
def Sh3 (S:Nat->Prop) (B:Nat) (w:World) (v:Value) (xs:List (List (List Int))):Prop:=
 ∃a,a.length=xs.length/\OwnV B 25 w v a/\∀i,i<xs.length->Rows2 (λk=>S k/\k<B) w (gt a i) (gt xs i)
theorem Sh3.kept {S:Nat->Prop}{B:Nat}{w w':World}{v:Value}{xs:List (List (List Int))}{r:Option Nat}(h:Sh3 S B w v xs) (b:w.grownBy w' r) (a:v.ownBlock=none\/v.ownBlock≠r) (j:∀k,r=some k->B<=k):Sh3 S B w' v xs:=by
 obtain⟨l,h1,h2,m⟩:=h;exact⟨l,h1,h2.kept b a,λi p=>Rows2.mono (m i p) (frame_of b (λk hk _=>⟨hk,λe=>by have:=j k e;omega⟩))⟩
theorem Sh3.ext {S:Nat->Prop}{B:Nat}{w w':World}{v:Value}{xs:List (List (List Int))}(h:Sh3 S B w v xs) (a:Ext w w'):Sh3 S B w' v xs:=
 h.kept a (by cases b:v.ownBlock<;>simp) (λk hk=>by cases hk)
theorem Sh3.lt {S:Nat->Prop}{B:Nat}{w:World}{v:Value}{xs:List (List (List Int))}(h:Sh3 S B w v xs) (k:Nat) (hk:v.ownBlock=some k):B<=k/\k<w.heap.size:=by
 obtain⟨a,h1,h2,h3⟩:=h;exact h2.lt k hk
theorem Sh3.shape {S:Nat->Prop}{B:Nat}{w:World}{v:Value}{xs:List (List (List Int))}(h:Sh3 S B w v xs):∃a c,v=.slice a xs.length c:=by
 obtain⟨i,h1,e,h3⟩:=h;rcases e.form with⟨b,e2⟩|⟨g,cp,b,_⟩
 ·have:xs.length=0:=by rw[<-h1,e2];rfl
  exact⟨none,0,by rw[b,this]⟩
 ·exact⟨_,_,by rw[b,h1]⟩
theorem Sh3.rows {S:Nat->Prop}{B:Nat}{w:World}{v:Value}{xs:List (List (List Int))}(h:Sh3 S B w v xs) (l:xs.length<=1000000):Rows3 (λk=>S k\/B<=k) w v xs:=by
 obtain⟨e,h1,b,j⟩:=h;rcases b.form with⟨rfl,e2⟩|⟨g,cp,rfl,hc,hB,hgs⟩
 ·have:xs=[]:=List.eq_nil_of_length_eq_zero (by rw[<-h1,e2];rfl)
  subst this;exact⟨none,0,rfl,⟨by simp,by simp,λ_=>rfl⟩,λi a=>by simp at a⟩
 ·refine ⟨_,cp,by rw[h1],⟨by omega,by omega,λh=>by cases h⟩,λi a=>⟨g,0,gt e i,rfl,.inr hB,hgs,?_,Rows2.sub (j i a) (λk hk _ => .inl hk.1)⟩⟩
  rw[Nat.zero_add];exact b.cell i (by omega)
theorem Sh3.lit0 (S:Nat->Prop) (B:Nat) (w:World) (hB:B<=w.heap.size):Sh3 S B (w.alloc (.cells #[] 25)) (.slice (some ⟨w.heap.size,0,none⟩) 0 0) []:=
 ⟨[],rfl,World.ownsRow_lit w #[] 0 hB (by decide) rfl,by simp⟩
theorem rows2_one {S:Nat->Prop}{w:World}{v:Value}{xs:List (List Int)}(h:Rows2 S w v xs):v.oneCell'=true:=by obtain⟨a,cap,rfl,_⟩:=h;rfl
theorem wp_app_r3 {m:Array Oper}{rest:List Oper}{o:Oper}{a:Act}{Q:Exit->Act->World->Prop}{w:World}(C:o.guard=none) (s x:Operand)
  (J:o.op=Op.call { callee:=Callee.builtin Builtin.append,args := #[s,x],argTypes := #[26,26] }) (S:Nat->Prop) (B:Nat) (v u:Value) (xs:List (List (List Int))) (y:List (List Int)) (K:a.eval s=v) (j:World) (b:Sh3 S B j v xs)
  (E:Rows2 (λk=>S k/\k<B) j u y) (L:w=j.alloc (.cells #[u] 25)) (hx:a.eval x=.slice (some ⟨j.heap.size,0,none⟩) 1 1) (F:xs.length<=1000000) (l:B<=j.heap.size)
  (h:∀A w',Sh3 S B w' A (xs++[y])->j.grownBy w' v.ownBlock->wpList Tryz.prog m Q rest (a.put o.dst A) w') :
  wpList Tryz.prog m Q (o :: rest) a w:=by
 obtain⟨G,h1,H,M⟩:=b;refine wp_app_v 26 25 (.slice none 0 0) 24 und_r3 Tryz.infoR3 rfl (by decide) C s x J B j v u G K H L (rows2_one E) hx (by omega) l ?_;intro A w' N I;have b:∀k,v.ownBlock=some k->B<=k:=λk hk=>(H.lt k hk).1;refine h A w' ⟨G++[u],by simp[h1],N,λi O => ?_⟩ I;simp only[List.length_append,List.length_singleton] at O;have p:∀ {z:Value}{q:List (List Int)},Rows2 (λk=>S k/\k<B) j z q->Rows2 (λk=>S k/\k<B) w' z q:=λR=>Rows2.mono R (frame_of I (λk hk _=>⟨hk,λe=>by have:=b k e;omega⟩));by_cases r:i<xs.length
 ·rw [gt_append_left _ _ _ (by omega),gt_append_left _ _ _ r]
  exact p (M i r)
 ·have D:i=xs.length:=by omega
  subst D;rw[gt_concat,<-h1,gt_concat];exact p E
theorem ins_start (P:Pr) (L:List (List (List Int))) (u:List (List Int)):Ins P L u 0 [] false:=
 ⟨λj a=>by omega,λ_=>⟨by simp,λj a=>by omega⟩,λh=>by cases h⟩
theorem ins_new {P:Pr}{L:List (List (List Int))}{u:List (List Int)}{k:Nat}{out:List (List (List Int))}{b:Bool}(I:Ins P L u k out b) (a:gt L k≠u):∀j,j<k+1->gt L j≠u:=λj e=>by
 rcases Nat.lt_succ_iff_lt_or_eq.1 e with h|h
 ·exact I.new j h
 ·subst h;exact a
theorem ins_no {P:Pr}{L:List (List (List Int))}{u:List (List Int)}{k:Nat}{out:List (List (List Int))}(I:Ins P L u k out false) (hk:k<L.length) (a:gt L k≠u) (h:¬subLt P u (gt L k)):Ins P L u (k+1) (out++[gt L k]) false:=by
 refine⟨ins_new I a,λ_ => ?_,λh=>by cases h⟩;obtain⟨h1,h2⟩:=I.no rfl;refine⟨by rw[take_succ_gt L k hk,h1],λj e => ?_⟩;rcases Nat.lt_succ_iff_lt_or_eq.1 e with b|b
 ·exact h2 j b
 ·subst b;exact h
theorem ins_put {P:Pr}{L:List (List (List Int))}{u:List (List Int)}{k:Nat}{out:List (List (List Int))}(I:Ins P L u k out false) (hk:k<L.length) (a:gt L k≠u) (h:subLt P u (gt L k)):Ins P L u (k+1) (out++[u]++[gt L k]) true:=by
 refine⟨ins_new I a,(λh=>by cases h),λ_ => ?_⟩;obtain⟨h1,h2⟩:=I.no rfl;refine⟨k,by omega,?_,h,h2⟩
 have b:(L.take (k+1)).drop k=[gt L k]:=by
  rw[take_succ_gt L k hk];have:k=(L.take k).length:=by rw[List.length_take];omega
  rw[List.drop_append_of_le_length (by omega),List.drop_of_length_le (by omega)];rfl
 rw[b,h1];simp
theorem ins_yes {P:Pr}{L:List (List (List Int))}{u:List (List Int)}{k:Nat}{out:List (List (List Int))}(I:Ins P L u k out true) (hk:k<L.length) (a:gt L k≠u):Ins P L u (k+1) (out++[gt L k]) true:=by
 refine⟨ins_new I a,(λh=>by cases h),λ_ => ?_⟩;obtain⟨p,h1,h2,h3,h4⟩:=I.yes rfl;refine⟨p,by omega,?_,h3,h4⟩
 have b:(L.take (k+1)).drop p=(L.take k).drop p++[gt L k]:=by
  rw[take_succ_gt L k hk,List.drop_append_of_le_length (by rw[List.length_take];omega)]
 rw[b,h2];simp
set_option linter.unusedSimpArgs false in
theorem l19Insert_ok (P:Pr) (G:Grp P) (w:World) (pv lv uv:Value) (L:List (List (List Int))) (u:List (List Int)) (Sp S:Nat->Prop) (aI:PresV Sp w pv P) (hl:Rows3 S w lv L) (hu:Rows2 S w uv u) (hL:∀v∈L,SubB P v) (aj:SubB P u) (E:L.Pairwise (subLt P)) (a9:L.length<=100000) :
  Calls Tryz.prog 185 #[pv,lv,uv] w (Ret w λw' r=>∃R:List (List (List Int)),R.Pairwise (subLt P)/\(∀v,v∈R↔v∈L\/v=u)/\R.length<=L.length+1/\Rows3 (λk=>S k\/w.heap.size<=k) w' r R):=by
 have hP:=G.v;have be:=hP.n6;obtain⟨vo,vp,vc,rfl,h3⟩:=aI;have ak:=PresP.box h3 28;have l:Ext w (w.alloc (.cells #[vo,vp,vc] 28)):=World.grownBy_alloc _ _ _;have am:(w.alloc (.cells #[vo,vp,vc] 28)).heap.size=w.heap.size+1:=by simp
 obtain⟨W,vp6,vc6,_,_,hc0,X,Y,h36⟩:=ak.at;simp only[Nat.zero_add] at X Y;have an:∀w',Ext (w.alloc (.cells #[vo,vp,vc] 28)) w'->w'.cell? ⟨w.heap.size,0,none⟩=some W/\w'.cell? ⟨w.heap.size,1,none⟩=some vp6/\w'.cell? ⟨w.heap.size,2,none⟩=some vc6:=λw' h=>⟨h.cell hc0 (by simp),h.cell X (by simp),h.cell Y (by simp)⟩
 have Q:∀v,SubB P v->SeqOk P v/\v.length<=100:=λv h1=>by
  have h2:=(G.seq_facts (G.subB h1)).1;rw[<-h1.2] at h2;have:=G.sub_len h1;exact⟨h2,by omega⟩
 have q:=Lib.hid (And.intro an (And.intro am (And.intro Q (And.intro hL aj))));clear an am Q hL aj ak;obtain⟨al,capl,rfl,_,_⟩:=Sl.shape hl;obtain⟨au,F,rfl,_,_⟩:=Sl.shape hu;have aM:=Rows2.ext hu l;go_enter Tryz.func185,Tryz.ntmps185;go_wp2;clear hc0 X Y;generalize aN:w.alloc (.cells #[vo,vp,vc] 28)=w0 at *;clear aN;go_loopw [7,8,9] (λov bv iv wr=>∃(i:Nat) (placed:Bool) (out:List (List (List Int))) (v7:Value),v7=ov/\bv=.bool placed/\iv=.int .i64 i/\i<=L.length/\out.length<=i+1/\Ext w0 wr/\Sh3 S w0.heap.size wr v7 out/\Hid (Ins P L u i out placed)) (λ_ _ iv _=>L.length-(intOf iv).toNat)
 case atStart=>exact⟨0,false,[],_,rfl,rfl,rfl,by omega,by simp,World.grownBy_alloc _ _ _,by rw[<-q.out.2.1];exact Sh3.lit0 _ _ _ (Nat.le_refl _),Lib.hid (ins_start P L u)⟩
 case round=>
  obtain⟨i,placed,out,v7,rfl,rfl,rfl,hi,hol,C,hO,K⟩:=hrel;by_cases a:i<L.length
  ·have a':(i:Int)<L.length:=by omega
   obtain⟨bl,ol,a2,A,rfl,_,hbl,aa,hx⟩:=Rows3.at hl i a;have ab:=C.cell (l.cell aa (by simp)) (by simp);have ac:=q.out.2.2.2.1 _ (gt_mem a);obtain⟨x,ad⟩:∃x,x=gt L i:=⟨_,rfl⟩;rw[<-ad] at aa ab hx ac;have ao:=Rows2.ext (Rows2.ext hx l) C;have ap:=Rows2.ext aM C;have aq:=q.out.2.1;have ar:Rows2 (λk=>S k/\k<w0.heap.size) wr (.slice a2 x.length A) x:=Rows2.mono hx (λk hk a=>⟨⟨hk,by omega⟩,Nat.lt_of_lt_of_le a (Nat.le_trans l.size C.size),(C.block k (Nat.lt_of_lt_of_le a l.size) (by simp)).trans (l.block k a (by simp))⟩);have M:Rows2 (λk=>S k/\k<w0.heap.size) wr (.slice au u.length F) u:=Rows2.mono hu (λk hk a=>⟨⟨hk,by omega⟩,Nat.lt_of_lt_of_le a (Nat.le_trans l.size C.size),(C.block k (Nat.lt_of_lt_of_le a l.size) (by simp)).trans (l.block k a (by simp))⟩);have H:=Lib.hid (And.intro ac (And.intro ad (And.intro ar M)));clear ac ad ar M aa hx;go_wp2_with fail
   refine Calls.mono (l01Same2_ok _ _ x u wr S S ao ap) ?_;rintro eS wS ⟨vS,rfl,hgS,rfl⟩;have y:=grown_trans C hgS;have N:=hO.ext hgS;have I:=hgS.cell ab (by simp);clear hO ab;cases heq:eqB x u with
   | true=>
    have he:=eqB_true.1 heq;have av:u∈L:=by rw[<-he,H.out.2.1];exact gt_mem a
    have aw:Rows3 (λk=>S k\/w.heap.size<=k) wS (.slice (some ⟨bl,ol,none⟩) L.length capl) L:=Rows3.sub (Rows3.ext (Rows3.ext hl l) y) (λk hk _ => .inl hk);have ax:=Lib.hid (And.intro av aw);clear he av aw heq I;go_wp2;go_ret;exact⟨_,rfl,grown_trans l y,L,E,λv=>⟨.inl,λh=>h.elim id (λe=>e▸ax.out.1)⟩,Nat.le_succ _,ax.out.2⟩
   | false=>
    have ay:gt L i≠u:=λe=>by
     rw[<-H.out.2.1] at e;rw[eqB_true.2 e] at heq;cases heq
    have ae:=Lib.hid ay;clear ay heq;have T:Rows2 (λk=>S k/\k<w0.heap.size) wS (.slice a2 x.length A) x:=Rows2.ext H.out.2.2.1 hgS;have U:Rows2 (λk=>S k/\k<w0.heap.size) wS (.slice au u.length F) u:=Rows2.ext H.out.2.2.2 hgS;have HS:=Lib.hid (And.intro T U);clear T U ao ap;have e1:∀w',Ext w0 w'->w'.cell? ⟨w.heap.size,0,none⟩=some W:=λw' h=>(q.out.1 w' h).1;have e2:∀w',Ext w0 w'->w'.cell? ⟨w.heap.size,1,none⟩=some vp6:=λw' h=>(q.out.1 w' h).2.1;have e3:∀w',Ext w0 w'->w'.cell? ⟨w.heap.size,2,none⟩=some vc6:=λw' h=>(q.out.1 w' h).2.2;cases placed with
    | true=>
     clear e1 e2 e3;go_wp2;refine wp_region_held_drew (S:=λw'=>Ext w0 w') (by kernel_rfl) (grown_trans y (grown_drew _ _)) (λaT => ?_);refine tk 0 ?_;refine tk 1 ?_;refine tk 2 ?_;refine tku 3 ?_;refine tku 4 ?_;refine tku 5 ?_;refine tku 6 ?_;refine tku 7 ?_;refine tku 8 ?_;refine tku 9 ?_;refine tk 10 ?_;refine wpAnyH_done (by kernel_rfl) ?_ _;have j:=Lib.hid (ins_yes K.out a ae.out);rw[<-H.out.2.1] at j;have aA:=N.ext (grown_drew wS none);have aU:wS.drew.cell? ⟨bl,ol+i,none⟩=some (.slice a2 x.length A):=I;have aV:=Rows2.ext HS.out.1 (grown_drew wS none);have aB:=grown_trans y (grown_drew wS none);generalize wS.drew=wD at *;clear K N I;go_wp2_with (first|(at_builtin;refine wp_app_r3 rfl _ _ rfl S w0.heap.size _ _ out x rfl wD aA aV rfl rfl (by omega) aB.size ?_;intro v8 w8 p z;have m:=grown_own aB z (λb O a=>by have:=(aA.lt b O).1;omega))|fail)
     clear aU;go_roundw
     case rel=>exact⟨i+1,true,out++[x],_,rfl,rfl,by go_num,by omega,by simp;omega,m,p,j⟩
     case measure=>simp[intOf];omega
    | false=>
     have e4:∀w',Ext wS w'->w'.cell? ⟨bl,ol+i,none⟩=some (.slice a2 x.length A):=λw' h=>h.cell I (by simp);have f1:∀w',Ext wS w'->w'.cell? ⟨w.heap.size,0,none⟩=some W:=λw' h=>e1 w' (grown_trans y h);have f2:∀w',Ext wS w'->w'.cell? ⟨w.heap.size,1,none⟩=some vp6:=λw' h=>e2 w' (grown_trans y h);have f3:∀w',Ext wS w'->w'.cell? ⟨w.heap.size,2,none⟩=some vc6:=λw' h=>e3 w' (grown_trans y h);clear e1 e2 e3;go_wp2
     go_region_held3 (λw'=>Ext wS w') (first|exact grown_drew _ _|assumption)
      (first
       | (go_at_call 233;refine Calls.mono (Calls.rel (w0:=wS) (by assumption) (l19Before_ok P hP _ _ _ _ u x Any Any Any ⟨_,_,_,rfl,Pres3.ext h36 (grown_trans y (by assumption))⟩ (Rows2.sub (Rows2.ext HS.out.2 (by assumption)) (λ_ _ _=>trivial)) (Rows2.sub (Rows2.ext HS.out.1 (by assumption)) (λ_ _ _=>trivial)) (q.out.2.2.1 u q.out.2.2.2.2).1 (q.out.2.2.1 x H.out.1).1 (q.out.2.2.1 u q.out.2.2.2.2).2 (q.out.2.2.1 x H.out.1).2)) ?_;rintro eA wA ⟨vA,rfl,hgA,hsA,rfl⟩))
     have B:=grown_trans y hgA;have D:=N.ext hgA;have af:=e4 wA hgA;have aD:=Rows2.ext HS.out.1 hgA;have aY:=Rows2.ext HS.out.2 hgA;clear e4 f1 f2 f3 N I;cases J:ltB P u x with
     | true=>
      have bc:out.length<=i:=by rw[(K.out.no rfl).1,List.length_take];omega
      have j:=ins_put K.out a ae.out (by rw[<-H.out.2.1];exact ltB_iff.1 J);rw[<-H.out.2.1] at j;have ag:=Lib.hid j;clear j K J;have aq:=q.out.2.1
      go_wp2_with (first
       | (revert p;intro p;at_builtin;refine wp_app_r3 rfl _ _ rfl S w0.heap.size _ _ (out++[u]) x rfl w8 p aZ rfl rfl (by simp;omega) m.size ?_;intro v9 w9 a0 a1;have aE:=grown_own m a1 (λb O a=>by have:=(p.lt b O).1;omega))
       | (at_builtin;refine wp_app_r3 rfl _ _ rfl S w0.heap.size _ _ out u rfl wA D aY rfl rfl (by omega) B.size ?_;intro v8 w8 p z;have m:=grown_own B z (λb O a=>by have:=(D.lt b O).1;omega);have a3:=z.cell af (λe=>by have h1:w0.heap.size<=bl:=(D.lt _ e.symm).1;omega);have aZ:Rows2 (λk=>S k/\k<w0.heap.size) w8 (.slice a2 x.length A) x:=Rows2.mono aD (frame_of z (λk hk _=>⟨hk,λe=>by have:=(D.lt k e).1;omega⟩)))
       | fail)
      clear af a3;go_roundw
      case rel=>exact⟨i+1,true,out++[u]++[x],_,rfl,rfl,by go_num,by omega,by simp only[List.length_append,List.length_singleton];omega,aE,a0,Lib.hid ag.out⟩
      case measure=>simp[intOf];omega
     | false=>
      have j:=ins_no K.out a ae.out (by rw[<-H.out.2.1];exact λh=>by rw[ltB_iff.2 h] at J;cases J);rw[<-H.out.2.1] at j;have ag:=Lib.hid j;clear j K J;go_wp2_with (first|(at_builtin;refine wp_app_r3 rfl _ _ rfl S w0.heap.size _ _ out x rfl wA D aD rfl rfl (by omega) B.size ?_;intro v8 w8 p z;have m:=grown_own B z (λb O a=>by have:=(D.lt b O).1;omega))|fail)
      clear af;go_roundw
      case rel=>exact⟨i+1,false,out++[x],_,rfl,rfl,by go_num,by omega,by simp;omega,m,p,ag⟩
      case measure=>simp[intOf];omega
  ·have ah:i=L.length:=by omega
   have a4:=hO;obtain⟨va,vcp,hv7⟩:=hO.shape;subst hv7;have j:=K.out;rw[ah] at j;have aq:=q.out.2.1;have V:∀ {r:Value}{w':World}{Z:List (List (List Int))},Rows3 (λk=>S k\/w0.heap.size<=k) w' r Z->Rows3 (λk=>S k\/w.heap.size<=k) w' r Z:=λh=>Rows3.sub h (λk hk _=>hk.imp id (λh2=>by omega));have bi:¬(i:Int)<L.length:=by omega
   cases placed with
   | true=>
    have hR:=V (hO.rows (by omega));have HR:=Lib.hid (And.intro j hR);clear j hR K hO a4 ah;go_wp2;go_ret;exact⟨_,rfl,grown_trans l C,out,(ins_end G E q.out.2.2.2.1 q.out.2.2.2.2 HR.out.1 out rfl).1,(ins_end G E q.out.2.2.2.1 q.out.2.2.2.2 HR.out.1 out rfl).2,by omega,HR.out.2⟩
   | false=>
    have M:Rows2 (λk=>S k/\k<w0.heap.size) wr (.slice au u.length F) u:=Rows2.mono hu (λk hk a=>⟨⟨hk,by omega⟩,Nat.lt_of_lt_of_le a (Nat.le_trans l.size C.size),(C.block k (Nat.lt_of_lt_of_le a l.size) (by simp)).trans (l.block k a (by simp))⟩);have HR:=Lib.hid j
    have a5:Hid ((out++[u]).length<=L.length+1):=by
     have h1:=(j.no rfl).1;exact Lib.hid (by rw[h1];simp)
    clear j K ah;go_wp2_with (first|(at_builtin;refine wp_app_r3 rfl _ _ rfl S w0.heap.size _ _ out u rfl wr hO M rfl rfl (by omega) C.size ?_;intro v8 w8 p z;have m:=grown_own C z (λb O a=>by have:=(hO.lt b O).1;omega);obtain⟨vb,vcq,hv8⟩:=p.shape;subst hv8)|fail)
    have hR:=V (p.rows (by simp;omega));rw[List.length_append,List.length_singleton] at hR;go_ret;exact⟨_,rfl,grown_trans l m,out++[u],(ins_end G E q.out.2.2.2.1 q.out.2.2.2.2 HR.out (out++[u]) rfl).1,(ins_end G E q.out.2.2.2.1 q.out.2.2.2.2 HR.out (out++[u]) rfl).2,a5.out,hR⟩
end Go.Proofs.YtoakmefajbbggaaGreat
namespace Go.Proofs.YtoakmefajbbggaaGreat
open Go.RowKit
open Go.Maps (Keyed)
theorem und_mapSB:Tryz.prog.underlying 157=some (.map 9 4):=by kernel_rfl
theorem makeSB (w:World):(Instr.makeMap 157 none).run Tryz.prog w=.ok (.map (some w.heap.size)) (w.alloc (.map #[] 0)):=by kernel_rfl
def mapSB:MapK ByteArray Bool where
 t:=157
 k:=9
 e:=4
 kv s := .string s
 kl s := .string s.data.toList
 okK s:=s.size<=maxLen
 ev x := .bool x
 el x := .bool x
 okV _:=True
 z:=false
 keyed:=Maps.string_keyed und_str
 und:=und_mapSB
 key s hs:=WideMaps.keyOf_string_mk und_str hs
 inj a c h:=by
  cases a with|mk a=>cases c with|mk c=>
  simp only[Lit.string.injEq] at h;rw[Array.toList_inj.1 h]
 isKey _:=trivial
 elem x _:=plainElem_bool und_boolL x
 inv v x ps h:=by
  unfold plainElem at h;rw[und_boolL] at h;cases v<;>simp at h
  rw[h.1]
 zero w:=by kernel_rfl
 okz:=trivial
theorem allEl_len (P:Pr):(allEl P).length=(ordP P).toNat:=by unfold allEl;rw[List.length_map,List.length_range]
theorem gt_allEl {P:Pr}{t:Nat}(h:t<(ordP P).toNat):gt (allEl P) t=elAt P (t:Int):=by
 unfold allEl;rw[gt_map _ _ _ (by rw[List.length_range];exact h)];congr 2
 simp[gt,h]
def keyIn (S:List (List (List Int))) (s:ByteArray):Bool:=S.any (λv=>decide (keyS v=s))
theorem keyIn_iff {P:Pr}(hP:Valid P) {S:List (List (List Int))}(b:∀v∈S,SubB P v) {u:List (List Int)}(e:SubB P u):keyIn S (keyS u)=decide (u∈S):=by
 rw[Bool.eq_iff_iff,decide_eq_true_iff];unfold keyIn;rw[List.any_eq_true];constructor
 ·rintro ⟨v,a,h⟩
  rw[<-subB_key hP (b v a) e (of_decide_eq_true h)];exact a
 ·intro h;exact⟨u,h,by simp⟩
theorem keyIn_app (S:List (List (List Int))) (u:List (List Int)) (s:ByteArray):(if s=keyS u then true else keyIn S s)=keyIn (S++[u]) s:=by
 unfold keyIn;rw[List.any_append,List.any_cons,List.any_nil,Bool.or_false];by_cases h:s=keyS u
 ·rw[if_pos h,h];simp
 ·rw [if_neg h]
  have:decide (keyS u=s)=false:=by simpa using λe=>h e.symm
  rw[this,Bool.or_false]
theorem subB_bytes {P:Pr}(G:Grp P) {u:List (List Int)}(b:SubB P u):(keyS u).size<=maxLen/\(∀x∈u,∀e∈x,0<=e/\e<256)/\(∀x∈u,x.length<=1000)/\u.length<=100:=by
 have i:=G.v.n6;have j:=G.sub_len b;have k:=keyL_len u 6 (λz a=>by rw[(b.1 z a).1];exact i);have l:=keyS_size u;refine⟨by unfold maxLen;have:(6+1)*u.length<=100:=(by omega);omega,λz a=>(vec_bytes G.v (b.1 z a)).2,λz a=>by rw[(b.1 z a).1];omega,by omega⟩
end Go.Proofs.YtoakmefajbbggaaGreat
namespace Go.Proofs.YtoakmefajbbggaaGreat
open Go.RowKit
theorem l19Own_ok (w:World) (H:Value) (L:List (List (List Int))) (S:Nat->Prop) (I:Rows3 S w H L) (J:∀u∈L,u.length<=6/\∀x∈u,x.length<=6) (X:L.length<=100000) :
  Calls Tryz.prog 105 #[H] w (Ret w λw' v=>SlO (λF w u (x:List (List Int))=>RowsD F w u x) 25 w.heap.size w' v L):=by
 obtain⟨Y,capl,rfl,_,_⟩:=Sl.shape I;have N:=Lib.hid J;clear J;go_enter Tryz.func105,Tryz.ntmps105;go_wp2;go_loopw [3,4] (λO C wr=>∃(i:Nat) (v4:Value),v4=O/\C=.int .i64 i/\i<=L.length/\Ext w wr/\SlO (λF w u (x:List (List Int))=>RowsD F w u x) 25 w.heap.size wr v4 (L.take i)) (λ_ C _=>L.length-(intOf C).toNat)
 case atStart=>exact⟨0,_,rfl,rfl,by omega,World.grownBy_alloc _ _ _,⟨[],λ_ _=>False,rfl,World.ownsRow_lit w #[] 0 (Nat.le_refl _) (by decide) rfl,by simp,by simp,by simp⟩⟩
 case round=>
  obtain⟨i,v4,rfl,rfl,hi,l,hO⟩:=hrel;by_cases j:i<L.length
  ·have K:(i:Int)<L.length:=by omega
   obtain⟨b,off,a2,cap2,rfl,_,_,hc,hx⟩:=Rows3.at I i j;have m:=l.cell hc (by simp);have e:=N.out _ (gt_mem j);have a:=take_succ_gt L i j;have p:(L.take i).length<=1000000:=by rw[List.length_take];omega
   obtain⟨x,q⟩:∃x,x=gt L i:=⟨_,rfl⟩;rw[<-q] at m hx e a;have r:=Lib.hid (And.intro e (And.intro a p));clear e a p hc q;go_wp2_with fail
   clear m;refine Calls.mono (l01Own2_ok wr _ x S (Rows2.ext hx l) (λz Q=>by have:=r.out.1.2 z Q;omega) (by have:=r.out.1.1;omega)) ?_;rintro Z M ⟨R,rfl,D,hU⟩;have y:RowsD (From wr.heap.size) M R x:=hU.toD (by have:=r.out.1.1;omega);obtain⟨ua,uc,hvu,_,_⟩:=SlD.shape y;subst hvu;go_wp2_with (first|(at_builtin;refine wp_app_one rdRows 26 25 (.slice none 0 0) 24 und_r3 Tryz.infoR3 rfl (by decide) rfl _ _ rfl w.heap.size wr M v4 _ (L.take i) x rfl hO D y rfl rfl r.out.2.2 l.size ?_;intro T U A E _)|fail)
   have B:Ext w U:=grown_own l E (λb V j=>by have:=(SlO.lt hO b V).1;omega);rw[<-r.out.2.1] at A;go_roundw
   case rel=>exact⟨i+1,T,rfl,by go_num,by omega,B,A⟩
   case measure=>simp[intOf];omega
  ·have G:i=L.length:=by omega
   have k:=hO;rw[List.take_of_length_le (by omega)] at k;obtain⟨az,capz,hvz,_,_⟩:=SlD.shape (k.toD (by omega));subst hvz;have W:¬(i:Int)<L.length:=by omega
   clear hO G;go_wp2;go_ret;exact⟨_,rfl,l,k⟩
end Go.Proofs.YtoakmefajbbggaaGreat
