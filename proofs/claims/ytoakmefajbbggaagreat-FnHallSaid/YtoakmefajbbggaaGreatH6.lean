/- Merged from templates. -/
import Derived.Test.YtoakmefajbbggaaGreatH5
import Derived.Deep.AppendLies
set_option maxRecDepth 100000
set_option maxHeartbeats 8000000
namespace Go.Proofs.YtoakmefajbbggaaGreat
def stepE (P:Pr) (u:List Int) (o:Nat) (x:List Int):List (List Int):=(List.range o).map (λt=>rMul P x (pw P u t))
def elsP (P:Pr) (U:List (List Int)):Nat->List (List Int)
 | 0=>[zeros P.orders.length]
 | k+1=>(elsP P U k).flatMap (stepE P (gt U k) (gt P.orders (dep (gt U k))).toNat)
section
variable {P:Pr}(G:Grp P)
include G
omit G in
theorem elsP_sub {H:List Int->Prop}{U:List (List Int)}(S:Sub P H) (a:∀z∈U,H z):∀k,k<=U.length->∀x∈elsP P U k,H x:=by
 intro k;induction k with
 | zero=>intro _ x hx;simp[elsP] at hx;rw[hx];exact S.one
 | succ k b=>
  intro hk x hx;simp only[elsP,List.mem_flatMap,stepE,List.mem_map] at hx;obtain⟨y,hy,t,_,rfl⟩:=hx;exact S.mul _ _ (b (by omega) y hy) (S.pw (a _ (gtMem (by omega))) t)
theorem Grp.elsP_diff {U:List (List Int)}(w:SeqOk P U):∀k m,k<=U.length->(∀j,j<k->dep (gt U j)<m)->m<=P.orders.length->(elsP P U k).Pairwise (λx y=>∃j,j<m/\gt x j≠gt y j):=by
 intro k;induction k with
 | zero=>intro m _ _ _;simp[elsP]
 | succ k F=>
  intro m hk A L;have q:k<U.length:=by omega
  obtain⟨H,r,h1⟩:=w.1 _ (gtMem q);have B:=A k (by omega);have D:=dep_T H;have C:=F (dep (gt U k)) (by omega) (λj A=>w.2 j k A q) (by omega);have e:∀x∈elsP P U k,Vec P.orders x:=elsP_sub G.sub_all (λz I=>(w.1 z I).1) k (by omega);have J:=G.v.ord (dep (gt U k)) r
  have i:∀x,Vec P.orders x->∀t:Nat,t<(gt P.orders (dep (gt U k))).toNat->gt (rMul P x (pw P (gt U k) t)) (dep (gt U k))=(gt x (dep (gt U k))+t)%gt P.orders (dep (gt U k))/\∀j,j<dep (gt U k)->gt (rMul P x (pw P (gt U k) t)) j=gt x j:=λx hx t l=>by
   have E:=G.right (Nat.le_of_lt r) hx (G.pw_T (Nat.le_of_lt r) D t);refine⟨?_,E.1⟩;rw[E.2 r,G.pw_at r D,h1,Int.mul_one,Int.emod_eq_of_lt (show(0:Int)<=t by omega) (by omega)]
  simp only[elsP];rw[List.pairwise_flatMap];refine⟨λx hx => ?_,?_⟩
  ·unfold stepE
   rw[List.pairwise_map];refine List.Pairwise.imp_of_mem ?_ List.pairwise_lt_range;intro s t p l K;have p:=List.mem_range.1 p;have l:=List.mem_range.1 l;refine⟨dep (gt U k),B,?_⟩;rw[(i x (e x hx) s p).1,(i x (e x hx) t l).1];rcases J with h|h|h|h<;>rw[h] at p l ⊢ <;> omega
  ·refine List.Pairwise.imp_of_mem ?_ C
   rintro x y hx hy ⟨j,u,hne⟩ a ha b hb;simp only[stepE,List.mem_map,List.mem_range] at ha hb;obtain⟨s,p,rfl⟩:=ha;obtain⟨t,l,rfl⟩:=hb;exact⟨j,by omega,by rw[(i x (e x hx) s p).2 j u,(i y (e y hy) t l).2 j u];exact hne⟩
theorem Grp.elsP_nodup {U:List (List Int)}(a:SeqOk P U):(elsP P U U.length).Nodup:=
 (G.elsP_diff a U.length P.orders.length (Nat.le_refl _) (λj b=>(a.1 _ (gtMem b)).2.1) (Nat.le_refl _)).imp (λ⟨j,_,h⟩ e=>h (by rw[e]))
def nextD (P:Pr) (U:List (List Int)) (k:Nat):Nat:=if k<U.length then dep (gt U k) else P.orders.length
theorem Grp.next_T {H:List Int->Prop}{U:List (List Int)}(p:SeqOk P U) (q:∀x,H x->Vec P.orders x) (a:∀x,H x->∀d,d<P.orders.length->T P d x->gt x d≠0->∃j,j<U.length/\dep (gt U j)=d) (k m:Nat) (hk:k<=U.length) (r:∀j,j<k->dep (gt U j)<m) {z:List Int}(i:H z) (u:∀j,j<m->gt z j=0):T P (nextD P U k) z:=by
 by_cases l:z=zeros P.orders.length
 ·rw[l];exact T.zeros G.v _
 ·obtain ⟨d,hd,hTd,b⟩:=depth_ex (q z i) l
  obtain⟨j,hj,hjd⟩:=a z i d hd hTd b
  have w:m<=d:=by
   rcases Nat.lt_or_ge d m with h|h
   ·exact absurd (u d h) b
   ·exact h
  have y:k<=j:=by
   rcases Nat.lt_or_ge j k with h|h
   ·have:=r j h;omega
   ·exact h
  have e:nextD P U k<=d:=by
   unfold nextD;rw[if_pos (by omega)];rcases Nat.lt_or_ge k j with h|h
   ·have:=p.2 k j h hj;omega
   ·have:k=j:=by omega
    rw[this];omega
  exact hTd.down e
theorem Grp.elsP_all {H:List Int->Prop}{U:List (List Int)}(S:Sub P H) (q:SeqOk P U) (m:∀z∈U,H z) (i:∀x,H x->∀d,d<P.orders.length->T P d x->gt x d≠0->∃j,j<U.length/\dep (gt U j)=d) {h:List Int}(u:H h) :
  ∀k,k<=U.length->∃x z,x∈elsP P U k/\H z/\T P (nextD P U k) z/\h=rMul P x z:=by
 intro k;induction k with
 | zero=>exact λ_=>⟨zeros P.orders.length,h,by simp[elsP],u,G.next_T q S.vec i 0 0 (by omega) (λj w=>by omega) u (λj w=>by omega),(G.grp.el _ (S.vec h u)).symm⟩
 | succ k I=>
  intro hk;have b:k<U.length:=by omega
  obtain⟨x,z,hx,D,e,rfl⟩:=I (by omega);unfold nextD at e;rw[if_pos b] at e;obtain⟨E,r,h1⟩:=q.1 _ (gtMem b);have F:=dep_T E;have J:=e.1.2 _ r;have y:=S.vec x (elsP_sub S m k (by omega) x hx);have a:=G.pw_vec E (gt z (dep (gt U k))).toNat;have A:=G.pw_T (Nat.le_of_lt r) F (gt z (dep (gt U k))).toNat
  have B:gt (pw P (gt U k) (gt z (dep (gt U k))).toNat) (dep (gt U k))=gt z (dep (gt U k)):=by
   rw[G.pw_at r F,h1,Int.mul_one,Int.emod_eq_of_lt (by omega) (by omega)];omega
  have C:=G.diff r A e B;have p:H (rMul P (rInv P (pw P (gt U k) (gt z (dep (gt U k))).toNat)) z):=S.mul _ _ (S.inv _ (S.pw (m _ (gtMem b)) _)) D;have l:=S.vec z D;refine⟨rMul P x (pw P (gt U k) (gt z (dep (gt U k))).toNat),_,?_,p,?_,?_⟩
  ·simp only[elsP,List.mem_flatMap,stepE,List.mem_map,List.mem_range]
   exact⟨x,hx,_,by omega,rfl⟩
  ·exact G.next_T q S.vec i (k+1) (dep (gt U k)+1) hk (λj w=>by
    rcases Nat.lt_succ_iff_lt_or_eq.1 w with h|h
    ·have:=q.2 j k h b;omega
    ·rw[h];omega) p C.2
  ·rw[G.ass y a (G.mulV (G.invV a) l),<-G.ass a (G.invV a) l,G.mul_inv a,G.grp.el _ l]
theorem Grp.elsP_mem {H:List Int->Prop}{U:List (List Int)}(S:Sub P H) (l:SeqOk P U) (b:∀z∈U,H z) (e:∀x,H x->∀d,d<P.orders.length->T P d x->gt x d≠0->∃j,j<U.length/\dep (gt U j)=d) (h:List Int):h∈elsP P U U.length↔H h:=by
 refine⟨elsP_sub S b _ (Nat.le_refl _) h,λm => ?_⟩;obtain⟨x,z,hx,hz,a,p⟩:=G.elsP_all S l b e m U.length (Nat.le_refl _);unfold nextD at a;rw[if_neg (by omega)] at a;have i:z=zeros P.orders.length:=Vec.ext a.1 (zeros_vec G.v) (λk hk=>by rw[a.2 k (by have:=a.1.1;omega)];exact(gt_replicate _ _).symm);rw[p,i,G.grp.er _ (S.vec x (elsP_sub S b _ (Nat.le_refl _) x hx))];exact hx
theorem Grp.seq_facts {H:List Int->Prop}(S:Sub P H):SeqOk P (cseq P H)/\(∀z∈cseq P H,H z)/\∀x,H x->∀d,d<P.orders.length->T P d x->gt x d≠0->∃j,j<(cseq P H).length/\dep (gt (cseq P H) j)=d:=by
 obtain⟨r,a,q⟩:=G.cseq_spec S;have k:CanInv P H r r 0:=⟨λe _ _=>Iff.rfl,λe _ h1 b=>a.mem e h1 b,λe e' _ h1 b i u=>a.red e e' h1 b i u⟩;rw[q,sq_all];refine⟨k.seqOk (by omega),λz w => ?_,λx hx d l y A => ?_⟩
 ·obtain ⟨e,_,b,i,rfl⟩:=mem_sq.1 w
  exact(a.mem e (by omega) i).1
 ·have m:=a.piv x hx d l y A
  have B:r d∈sq r P.orders.length 0:=mem_sq.2 ⟨d,by omega,by omega,m,rfl⟩;obtain⟨j,p,hje⟩:=List.getElem_of_mem B;exact⟨j,p,by rw[gt_eq _ j p,hje];exact k.dep (by omega) l m⟩
theorem Grp.els_sorted {H:List Int->Prop}(S:Sub P H):sortL (elsP P (cseq P H) (cseq P H).length)=elemsIn P H:=by
 obtain⟨h1,a,b⟩:=G.seq_facts S;exact sort_elemsIn G.v S.vec (G.elsP_nodup h1) (G.elsP_mem S h1 a b)
end
end Go.Proofs.YtoakmefajbbggaaGreat
namespace Go.Proofs.YtoakmefajbbggaaGreat
open Go.RowKit
def SlOA {α:Type} [Inhabited α] (El:(Nat->Prop)->World->Value->α->Prop) (E B:Nat) (A:Nat->Prop) (w:World) (v:Value) (xs:List α):Prop:=
 ∃ (a:List Value) (G:Nat->Nat->Prop),a.length=xs.length/\OwnV B E w v a/\(∀i k,i<xs.length->G i k->B<=k/\v.ownBlock≠some k/\k<w.heap.size) /\
  (∀i j k,i<xs.length->j<xs.length->G i k->G j k->i=j)/\(∀i,i<xs.length->El (G i) w (gt a i) (gt xs i))/\(∀i k,i<xs.length->G i k->¬A k)/\∀k,v.ownBlock=some k->¬A k
theorem SlOA.o {α:Type} [Inhabited α] {El:(Nat->Prop)->World->Value->α->Prop}{E B:Nat}{A:Nat->Prop}{w:World}{v:Value}{xs:List α}(h:SlOA El E B A w v xs):SlO El E B w v xs:=by
 obtain⟨a,G,h1,h2,h3,h4,h5,_⟩:=h;exact⟨a,G,h1,h2,h3,h4,h5⟩
theorem SlOA.ext {α:Type} [Inhabited α] {El:(Nat->Prop)->World->Value->α->Prop}(l:RdOk El) {E B:Nat}{A:Nat->Prop}{w w':World}{v:Value}{xs:List α}(h:SlOA El E B A w v xs) (j:Ext w w'):SlOA El E B A w' v xs:=by
 obtain⟨p,G,hvl,hO,hG,hd,q,hr⟩:=h;refine⟨p,G,hvl,hO.kept j (by cases r:v.ownBlock<;>simp),λi k m hk => ?_,hd,λi m=>l.mono (q i m) (λk hk e=>⟨hk,Nat.lt_of_lt_of_le e j.size,j.block k e (by simp)⟩),hr⟩;obtain⟨a,b,c⟩:=hG i k m hk;exact⟨a,b,Nat.lt_of_lt_of_le c j.size⟩
theorem SlOA.avoids {α:Type} [Inhabited α] {El:(Nat->Prop)->World->Value->α->Prop}{E B:Nat}{A:Nat->Prop}{w:World}{v:Value}{xs:List α}(h:SlOA El E B A w v xs) (k:Nat) (hk:v.ownBlock=some k):¬A k/\B<=k/\k<w.heap.size:=by
 obtain⟨a,G,h1,h2,h3,h4,h5,h6,h7⟩:=h;exact⟨h7 k hk,h2.lt k hk⟩
theorem wp_app_oneA {α:Type} [Inhabited α] {El:(Nat->Prop)->World->Value->α->Prop}(F:RdOk El) (T E:Nat) (z:Value) (bytes:Nat) (hT:Tryz.prog.underlying T=some (.slice E))
  (hE:(Tryz.prog.info? E).map (λi=>(i.zero,i.size,i.bytes))=some (some z,1,bytes)) (X:z.cells.size=1) (Y:bytes<=64)
  {K:Array Oper}{rest:List Oper}{o:Oper}{a:Act}{Q:Exit->Act->World->Prop}{w:World}(Z:o.guard=none) (s x:Operand)
  (ho:o.op=Op.call { callee:=Callee.builtin Builtin.append,args := #[s,x],argTypes := #[T,T] }) (B:Nat) (A:Nat->Prop) (D p:World) (v u:Value) (xs:List α) (y:α) (hs:a.eval s=v) (L:SlOA El E B A D v xs) (hA:∀k,A k->k<D.heap.size)
  (r:Option Nat) (H:D.grownBy p r) (M:∀k,r=some k->A k) (hu:El (From D.heap.size) p u y) (hw:w=p.alloc (.cells #[u] E)) (hx:a.eval x=.slice (some ⟨p.heap.size,0,none⟩) 1 1) (aj:xs.length<=1000000) (aa:B<=D.heap.size)
  (h:∀N w',SlOA El E B A w' N (xs++[y])->p.grownBy w' v.ownBlock->wpList Tryz.prog K Q rest (a.put o.dst N) w') :
  wpList Tryz.prog K Q (o :: rest) a w:=by
 subst hw;obtain⟨vs,G,I,hO,hG,hd,ac,hr,hr2⟩:=L;have O:Ext p (p.alloc (.cells #[u] E)):=World.grownBy_alloc _ _ _
 have ad:v.ownBlock=none\/v.ownBlock≠r:=by
  cases hv:v.ownBlock with
  | none=>exact .inl rfl
  | some b=>exact .inr (λe=>hr2 b hv (M b e.symm))
 have ae:OwnV B E (p.alloc (.cells #[u] E)) v vs:=hO.kept (grown_trans H (grown_of_ext _ O)) ad;refine wp_app T E z bytes hT hE X Y Z s x ho B v vs hs ae (some ⟨p.heap.size,0,none⟩) 1 1 [u] hx rfl (by simp) ?_ ?_ (by omega) (by have:=H.size;simp;omega) ?_
 ·intro j hj
  have:j=0:=by omega
  subst this;exact⟨p.heap.size,0,rfl,by rw[World.cell?_alloc_at _ _ _ _ rfl];rfl⟩
 ·intro u' R
  simp at R;subst R;exact F.one hu
 ·intro N w' h1 h2 _ af
  have S:∀k,v.ownBlock=some k->B<=k/\k<D.heap.size:=hO.lt;have q:p.grownBy w' v.ownBlock:=grown_trans (grown_of_ext _ O) h2;have U:D.heap.size<=w'.heap.size:=Nat.le_trans H.size q.size
  have C:∀k,N.ownBlock=some k->v.ownBlock=some k\/p.heap.size<k:=by
   intro k hk;rcases af with h|h
   ·exact .inl (by rw[<-h];exact hk)
   ·rw [h] at hk
    have:(p.alloc (.cells #[u] E)).heap.size=k:=by simpa using hk
    simp at this
    exact .inr (by omega)
  refine h N w' ⟨vs++[u],λi k=>if i<xs.length then G i k/\k<D.heap.size else D.heap.size<=k/\k<p.heap.size,by simp[I],h1,?_,?_,?_,?_,?_⟩ q
  ·intro i k V hk
   split at hk
   ·rename_i m
    obtain⟨a1,a2,a3⟩:=hG i k m hk.1;refine⟨a1,λJ => ?_,Nat.lt_of_lt_of_le a3 U⟩;rcases C k J with h|h
    ·exact a2 h
    ·have:=H.size;omega
   ·refine ⟨by omega,λJ => ?_,Nat.lt_of_lt_of_le hk.2 q.size⟩
    rcases C k J with h|h
    ·have:=S k h;omega
    ·omega
  ·intro i j k V hj hk W
   simp only[List.length_append,List.length_singleton] at V hj;split at hk<;>split at W
   ·exact hd i j k (by assumption) (by assumption) hk.1 W.1
   ·omega
   ·omega
   ·omega
  ·intro i V
   simp only[List.length_append,List.length_singleton] at V;by_cases m:i<xs.length
   ·rw [gt_append_left _ _ _ (by omega),gt_append_left _ _ _ m]
    simp only[if_pos m];exact F.mono (ac i m) (λk hk l=>⟨⟨hk,l⟩,Nat.lt_of_lt_of_le l U,(q.block k (Nat.lt_of_lt_of_le l H.size) (λe=>(hG i k m hk).2.1 e.symm)).trans (H.block k l (λe=>hr i k m hk (M k e.symm)))⟩)
   ·have ag:i=xs.length:=by omega
    subst ag;rw[gt_concat,<-I,gt_concat];simp only[I,Nat.lt_irrefl,if_false]
    exact F.mono hu (λk hk l=>⟨⟨hk,l⟩,Nat.lt_of_lt_of_le l q.size,q.block k l (λe=>by
     have hk:D.heap.size<=k:=hk;have:=S k e.symm;omega)⟩)
  ·intro i k V hk ha
   split at hk
   ·exact hr i k (by assumption) hk.1 ha
   ·have:=hA k ha;omega
  ·intro k hk ha
   rcases C k hk with h|h
   ·exact hr2 k h ha
   ·have:=hA k ha;have:=H.size;omega
theorem step_app (T E:Nat) (z:Value) (bytes:Nat) (C:Tryz.prog.underlying T=some (.slice E)) (D:(Tryz.prog.info? E).map (λi=>(i.zero,i.size,i.bytes))=some (some z,1,bytes))
  (q:z.cells.size=1) (r:bytes<=64) {y:Array Oper}{o:Oper}{a:Act}{K:Act->World->Prop}{Q:Exit->Act->World->Prop}{F:Prop}{w:World}(A:o.guard=none) (s x:Operand)
  (G:o.op=Op.call { callee:=Callee.builtin Builtin.append,args := #[s,x],argTypes := #[T,T] }) (base:Nat) (v:Value) (xs:List Value) (I:a.eval s=v) (e:OwnV base E w v xs)
  (H:Nat) (u:Value) (hx:a.eval x=.slice (some ⟨H,0,none⟩) 1 1) (J:w.cell? ⟨H,0,none⟩=some u) (h1:u.oneCell'=true) (B:xs.length<=2000000) (b:base<=w.heap.size)
  (h:∀m w',OwnV base E w' m (xs++[u])->w.grownBy w' v.ownBlock->(m.ownBlock=v.ownBlock\/m.ownBlock=some w.heap.size)->K (a.put o.dst m) w') :
  if Region.wanted o (yielded y a.tmps)=true then Oper.wp Tryz.prog o a w K Q else F:=by
 obtain⟨L,hi,hz0,hz1,hz2⟩:=info_parts D;refine step_append_lies w A s x T G base E L z 1 bytes C hi hz0 hz1 hz2 q (by decide) v xs.length xs I e ⟨H,0,none⟩ 1 1 [u] hx rfl ?_ ?_ (by omega) (by unfold maxLen;omega) (by have:=Nat.mul_le_mul (show xs.length+1<=2000001 by omega) r;omega) b w.heap.size rfl ?_
 ·intro j M p
  match j,p with
  | 0,p=>
   simp at p;subst p
   simpa [Addr.add] using J
 ·intro M k
  simp at k;subst k;exact h1
 ·intro g cap w' N O l _
  refine h _ w' ?_ O ?_
  ·unfold OwnV;rw[List.length_append];exact N
  ·rcases l with l|l
   ·left;rw[l];rfl
   ·right;rw[<-l];rfl
theorem step_append_at {P:Program}(w:World) {y:Array Oper}{o:Oper}{a:Act}{K:Act->World->Prop}{Q:Exit->Act->World->Prop}{N:Prop}
  (O:o.guard=none) (s x:Operand) (t:TypeId) (A:o.op=Op.call { callee:=Callee.builtin Builtin.append,args := #[s,x],argTypes := #[t,t] })
  (e:TypeId) (i:TypeInfo) (z:Value) (size bytes:Nat) (h1:P.underlying t=some (.slice e)) (H:P.info? e=some i) (R:i.zero=some z) (I:i.size=size) (S:i.bytes=bytes) (T:z.cells.size=size) (U:0<size)
  (b off n cap:Nat) (k:List Value) (J:a.eval s=.slice (some ⟨b,off,none⟩) n cap) (F:k.length=n*size) (holds:∀j u,k[j]? = some u->w.cell? ⟨b,off+j,none⟩=some u)
  (C:Addr) (m c:Nat) (news:List Value) (hx:a.eval x=.slice (some C) m c) (L:news.length=m*size) (M:∀j u,news[j]? = some u->w.cell? (C.add j)=some u) (G:∀u∈news,u.oneCell'=true)
  (l:n+m<=cap->∀j,j<news.length->(w.cell? ⟨b,off+n*size+j,none⟩).isSome=true/\w.frozen? ⟨b,off+n*size+j,none⟩=false)
  (b1:n+m<=maxLen) (b2:(n+m)*bytes<=140737488355328)
  (q:n+m<=cap->K (a.put o.dst (.slice (some ⟨b,off,none⟩) (n+m) cap)) (w.setCells b (off+n*size) news))
  (r:cap<n+m->∀D w',w'.ownsRow w.heap.size e size D (n+m) (k++news)->w.grownBy w' none->K (a.put o.dst D) w') :
  if Region.wanted o (yielded y a.tmps)=true then Oper.wp P o a w K Q else N:=by
 have V:Region.wanted o (yielded y a.tmps)=true:=by simp[Region.wanted,O]
 rw[if_pos V];by_cases E:n+m<=cap
 ·subst I
  have p:=run_append_room_cells (P:=P) w t o.type e i h1 H b off n cap C m c news L M G E (λj B=>(l E j B).1) (λj B=>(l E j B).2);unfold Oper.wp;simp[execOp,A,resolve,invoke,builtin,J,hx,p,Result.andThen]
  exact q E
 ·obtain ⟨D,w',p,W,X⟩:=run_append_arg_grows (P:=P) w t o.type e i z size bytes h1 H R I S T U ⟨b,off,none⟩ n cap k F (λj u B=>by rw[Addr.add_lit];exact holds j u B) C m c news L M (by omega) b1 b2
  unfold Oper.wp;simp[execOp,A,resolve,invoke,builtin,J,hx,p,Result.andThen]
  exact r (by omega) D w' W X
theorem step_q_app (T E:Nat) (z:Value) (bytes:Nat) (U:Tryz.prog.underlying T=some (.slice E)) (V:(Tryz.prog.info? E).map (λi=>(i.zero,i.size,i.bytes))=some (some z,1,bytes))
  (A:z.cells.size=1) (B:bytes<=64) {J:Array Oper}{o:Oper}{a:Act}{K:Act->World->Prop}{Q:Exit->Act->World->Prop}{Ex:Prop}{w:World}(C:o.guard=none) (s x:Operand)
  (W:o.op=Op.call { callee:=Callee.builtin Builtin.append,args := #[s,x],argTypes := #[T,T] }) (base:Nat) (v:Value) (xs:List Value) (X:a.eval s=v) (D:QOwn base E w v xs)
  (H:Nat) (u:Value) (hx:a.eval x=.slice (some ⟨H,0,none⟩) 1 1) (Y:w.cell? ⟨H,0,none⟩=some u) (h1:u.oneCell'=true) (Z:xs.length<=1000000) (q:base<=w.heap.size)
  (h:∀p w',QOwn base E w' p (xs++[u])->w.grownBy w' v.ownBlock->(p.ownBlock=v.ownBlock\/∀k,p.ownBlock=some k->w.heap.size<=k)->K (a.put o.dst p) w') :
  if Region.wanted o (yielded J a.tmps)=true then Oper.wp Tryz.prog o a w K Q else Ex:=by
 rcases D with⟨rfl,rfl⟩|⟨g,off,cap,cur,rfl,hb,G,hnc,hcm,hsz,hc⟩
 ·refine step_app T E z bytes U V A B C s x W base (.slice none 0 0) [] X (World.ownsRow_nil _ _ _ _) H u hx Y h1 (by simp) q ?_
  intro p w' I L k4;exact h p w' (QOwn.of I) L (k4.imp id (λe k hk=>by rw[e] at hk;cases hk;exact Nat.le_refl _))
 ·obtain ⟨i0,M,hz0,hz1,hz2⟩:=info_parts V
  have af:g<w.heap.size:=(Array.getElem?_eq_some_iff.1 G).1
  have b:∀i,i<cur.size->w.cell? ⟨g,i,none⟩=cur[i]? :=λi _=>by
   simp only[World.cell?,G,Option.isSome_none,Bool.false_eq_true,if_false]
  refine step_append_at w C s x T W E i0 z 1 bytes U M hz0 hz1 hz2 A (by decide) g off xs.length cap xs X (by omega) ?_ ⟨H,0,none⟩ 1 1 [u] hx rfl ?_ ?_ ?_ (by unfold maxLen;omega) (by have:=Nat.mul_le_mul (show xs.length+1<=1000001 by omega) B;omega) ?_ ?_
  ·intro j u' m
   have N:j<xs.length:=by
    rcases Nat.lt_or_ge j xs.length with h|h
    ·exact h
    ·rw[List.getElem?_eq_none h] at m;cases m
   rw[b _ (by omega),hc j N];simp[gt,m]
  ·intro j u' m
   match j,m with
   | 0,m=>
    simp at m;subst m
    simpa [Addr.add] using Y
  ·intro u' F
   simp at F;subst F;exact h1
  ·intro l j m
   have:j=0:=by simpa using m
   subst this;refine⟨?_,?_⟩
   ·rw[b _ (by omega),Array.getElem?_eq_getElem (by omega)];rfl
   ·simp[World.frozen?,G]
  ·intro l
   have e:w.setCells g (off+xs.length*1) [u]=w.setCell ⟨g,off+xs.length,none⟩ u:=by
    simp[World.setCells]
   rw[e];refine h _ _ (.inr ⟨g,off,cap,cur.setIfInBounds (off+xs.length) u,by simp,hb,?_,by simpa using l,hcm,by simpa using hsz,λi M => ?_⟩) ?_ (.inl rfl)
   ·simp only[World.setCell,Array.getElem?_modify,if_true,G,Option.map_some]
    simp
   ·simp only[List.length_append,List.length_singleton] at M
    by_cases ei:i=xs.length
    ·subst ei
     rw[gt_concat,Array.getElem?_setIfInBounds_self];simp;omega
    ·rw [gt_append_left _ _ _ (by omega),Array.getElem?_setIfInBounds_ne (by omega)]
     exact hc i (by omega)
   ·exact⟨rfl,rfl,rfl,by simp[World.setCell],λk hk O=>Below.heap_setCell _ _ _ _ (by intro e2;exact O (by rw[e2];rfl))⟩
  ·intro R p w' I L
   have k3:OwnV base E w' p (xs++[u]):=by
    unfold OwnV;rw[List.length_append];obtain⟨S,y⟩:=I;refine⟨S,?_⟩;rcases y with h|⟨g',cap',cur',hv,hg',r⟩
    ·exact .inl h
    ·exact .inr ⟨g',cap',cur',hv,by omega,r⟩
   refine h p w' (QOwn.of k3) (grown_of_ext _ L) (.inr (λk hk => ?_));obtain⟨_,y⟩:=I;rcases y with h|⟨g',cap',cur',rfl,hg',r⟩
   ·rw[h.1] at hk;simp[Value.ownBlock] at hk
   ·simp [Value.ownBlock] at hk
    omega
theorem step_shq_app {A:Array Oper}{o:Oper}{a:Act}{K:Act->World->Prop}{Q:Exit->Act->World->Prop}{M:Prop}{w:World}(C:o.guard=none) (s x:Operand)
  (N:o.op=Op.call { callee:=Callee.builtin Builtin.append,args := #[s,x],argTypes := #[25,25] }) (bad:Nat->Prop) (B:Nat) (v u:Value) (xs:List (List Int)) (y:List Int) (O:a.eval s=v) (w0:World) (p:ShQ bad B w0 v xs)
  (R:w=w0.alloc (.cells #[u] 24)) (H:Ints (λk=>¬bad k/\v.ownBlock≠some k) w0 u y) (hx:a.eval x=.slice (some ⟨w0.heap.size,0,none⟩) 1 1) (I:xs.length<=1000000) (D:B<=w0.heap.size)
  (h:∀j w',ShQ bad B w' j (xs++[y])->w0.grownBy w' v.ownBlock->(j.ownBlock=v.ownBlock\/∀k,j.ownBlock=some k->w0.heap.size<=k)->K (a.put o.dst j) w') :
  if Region.wanted o (yielded A a.tmps)=true then Oper.wp Tryz.prog o a w K Q else M:=by
 subst R;obtain⟨E,J,hq,S⟩:=p;have l:Ext w0 (w0.alloc (.cells #[u] 24)):=World.grownBy_alloc _ _ _;have b:=hq.lt;have F:QOwn B 24 (w0.alloc (.cells #[u] 24)) v E:=hq.kept (λk hk=>l.block k (b k hk).2 (by simp));have q:u.oneCell'=true:=rdInts.one H;refine step_q_app 25 24 (.slice none 0 0) 24 und_rows Tryz.infoRow rfl (by decide) C s x N B v E O F w0.heap.size u hx (by rw[World.cell?_alloc_at _ _ _ _ rfl];rfl) q (by omega) (by have:=l.size;omega) ?_;intro j w' h1 T L;have m:w0.grownBy w' v.ownBlock:=grown_trans (grown_of_ext _ l) T
 have r:∀k,k<w0.heap.size->j.ownBlock=some k->v.ownBlock=some k:=λk hk e=>by
  rcases L with h|h
  ·rw[<-h];exact e
  ·have:=h k e;simp at this;omega
 refine h j w' ⟨E++[u],by simp[J],h1,λi U => ?_⟩ m (L.imp id (λh k hk=>by have:=h k hk;simp at this;omega));simp only[List.length_append,List.length_singleton] at U
 have z:∀k,(¬bad k/\v.ownBlock≠some k)->k<w0.heap.size->(¬bad k/\j.ownBlock≠some k)/\k<w'.heap.size/\w'.heap[k]? = w0.heap[k]? :=λk hk b=>
  ⟨⟨hk.1,λe=>hk.2 (r k b e)⟩,Nat.lt_of_lt_of_le b m.size,m.block k b (λe=>hk.2 e.symm)⟩
 by_cases b:i<xs.length
 ·rw [gt_append_left _ _ _ (by omega),gt_append_left _ _ _ b]
  exact Ints.mono (S i b) z
 ·have G:i=xs.length:=by omega
  subst G;rw[gt_concat,<-J,gt_concat];exact Ints.mono H z
theorem run_tail_rows (w:World) (a:Option Addr) (n cap:Nat) (k:Int) (b:0<=k) (h1:k<=n) :
  (Instr.slice 25 (.slice a n cap) (some (.int .i64 k)) none none).run Tryz.prog w=.ok (subSl (.slice a n cap) k.toNat n) w:=by
 rw[run_slice_l w 25 a n cap (by kernel_rfl) .i64 k b h1];have:(sizeOf (Tryz.prog.elem 25)).run Tryz.prog w=.ok 1 w:=by kernel_rfl
 rw[this];simp[Result.andThen,sliced,subSl]
theorem Sl.vals {α:Type} [Inhabited α] {El:World->Value->α->Prop}{S:Nat->Prop}{w:World}{a:Option Addr}{n cap:Nat}{xs:List α}(h:Sl El S w (.slice a n cap) xs) :
  ∃k:List Value,k.length=xs.length/\∀i,i<xs.length->(∃b off,a=some ⟨b,off,none⟩/\w.cell? ⟨b,off+i,none⟩=some (gt k i))/\El w (gt k i) (gt xs i):=by
 have h1:∀i,∃u,i<xs.length->(∃b off,a=some ⟨b,off,none⟩/\w.cell? ⟨b,off+i,none⟩=some u)/\El w u (gt xs i):=λi=>by
  by_cases j:i<xs.length
  ·obtain ⟨b,off,u,h1,_,_,h4,h5⟩:=h.at i j
   exact⟨u,λ_=>⟨⟨b,off,h1,h4⟩,h5⟩⟩
  ·exact⟨undef,λh=>absurd h j⟩
 obtain⟨f,hf⟩:=Classical.axiomOfChoice h1;refine⟨(List.range xs.length).map f,by simp,λi j => ?_⟩;have e:gt ((List.range xs.length).map f) i=f i:=by simp[gt,j]
 rw[e];exact hf i j
theorem cloneRows_ok (w:World) (v:Value) (xs:List (List Int)) (S bad:Nat->Prop) (E:Rows2 S w v xs) (J:∀k,S k->k<w.heap.size->¬bad k) (K:xs.length<=1000000) :
  Calls Tryz.prog 180 #[v] w (Ret w λw' r=>ShQ bad w.heap.size w' r xs):=by
 obtain⟨a,cap,rfl,_,_⟩:=Sl.shape E;have Q:=λn=>Lib.run_eql_slice_nil (P:=Tryz.prog) w 25 24 a n cap 0 0 (by kernel_rfl);cases a with
 | none=>
  obtain⟨rfl,rfl⟩:=Sl.nil_of_none E;clear E K;go_enter Tryz.func180,Tryz.ntmps180;go_wp2_with fail
  go_ret;exact⟨_,rfl,Ext.refl _,ShQ.nil _ _ _⟩
 | some a=>
  obtain⟨z,A,m⟩:=Sl.vals E
  have l:∀w',Ext w w'->∀j,j<xs.length->∃b off,some a=some ⟨b,off,none⟩/\w'.cell? ⟨b,off+j,none⟩=some (gt z j):=λw' q j B=>by
   obtain⟨⟨b,off,h1,h2⟩,_⟩:=m j B;exact⟨b,off,h1,q.cell h2 (by simp)⟩
  have h1:∀u,u∈z->u.oneCell'=true:=λu L=>by
   obtain⟨j,B,rfl⟩:=List.getElem_of_mem L;rw[<-gt_eq z j B];exact rdInts.one (m j (by omega)).2
  have C:∀(y:World) (D:Value),OwnV w.heap.size 24 y D z->Ext w y->ShQ bad w.heap.size y D xs:=λy D I q=>by
   refine⟨z,A,QOwn.of I,λi M=>Ints.mono (m i M).2 (λk hk p=>⟨⟨J k hk p,λe => ?_⟩,Nat.lt_of_lt_of_le p q.size,q.block k p (by simp)⟩)⟩;have:=(I.lt k e).1;omega
  have F:=Lib.hid (And.intro l (And.intro h1 C));clear l h1 C m;go_enter Tryz.func180,Tryz.ntmps180;go_wp2_with (at_builtin;refine wp_app 25 24 (.slice none 0 0) 24 und_rows Tryz.infoRow rfl (by decide) rfl _ _ rfl w.heap.size _ [] rfl (World.ownsRow_lit w #[] 0 (Nat.le_refl _) (by decide) rfl) (some a) xs.length cap z rfl A (by simp) (F.out.1 _ (World.grownBy_alloc _ _ _)) F.out.2.1 (by simp;omega) (by simp) ?_;intro D y G H N O)
  go_ret;have q:Ext w y:=grown_own (World.grownBy_alloc _ _ _) H (λj B p=>by have:=own_blk B;omega);exact⟨_,rfl,q,F.out.2.2 y D (by simpa using G) q⟩
theorem OwnV.weak {B B' E:Nat}{w:World}{v:Value}{a:List Value}(h:OwnV B E w v a) (b:B'<=B):OwnV B' E w v a:=by
 obtain⟨h1,e⟩:=h;refine⟨h1,?_⟩;rcases e with h|⟨g,cap,cur,hv,hg,r⟩
 ·exact .inl h
 ·exact .inr ⟨g,cap,cur,hv,Nat.le_trans b hg,r⟩
theorem wp_prep_row {H:Array Oper}{rest:List Oper}{o:Oper}{a:Act}{Q:Exit->Act->World->Prop}{w:World}(T:o.guard=none) (s x:Operand)
  (ho:o.op=Op.call { callee:=Callee.builtin Builtin.append,args := #[s,x],argTypes := #[25,25] }) (B:Nat) (E l:World) (v u:Value) (xs:List (List Int)) (y:List Int) (I:RowsO B E v xs) (hB:B<=E.heap.size)
  (U:Ext E l) (hu:OwnIn (From E.heap.size) l u y) (hw:w=l.alloc (.cells #[u] 24)) (hs:a.eval s=.slice (some ⟨l.heap.size,0,none⟩) 1 1) (hx:a.eval x=v) (Z:xs.length<=1000000)
  (h:∀J w',RowsO B w' J (y :: xs)->Ext E w'->wpList Tryz.prog H Q rest (a.put o.dst J) w') :
  wpList Tryz.prog H Q (o :: rest) a w:=by
 subst hw;obtain⟨p,F,V,hO,hG,hd,K⟩:=I;have G:Ext l (l.alloc (.cells #[u] 24)):=World.grownBy_alloc _ _ _;have L:=grown_trans U G;have M:OwnV B 24 (l.alloc (.cells #[u] 24)) v p:=hO.kept L (by cases hv:v.ownBlock<;>simp);have N:OwnV l.heap.size 24 (l.alloc (.cells #[u] 24)) (.slice (some ⟨l.heap.size,0,none⟩) 1 1) [u]:=World.ownsRow_lit l #[u] 1 (Nat.le_refl _) (by decide) rfl;have ah:=U.size
 have r:∃O c,v=.slice O p.length c/\(O=none->c=0)/\∀j,j<p.length->∃b off,O=some ⟨b,off,none⟩/\(l.alloc (.cells #[u] 24)).cell? ⟨b,off+j,none⟩=some (gt p j):=by
  rcases M.form with⟨rfl,h2⟩|⟨g,cp,rfl,_⟩
  ·exact⟨none,0,by rw[h2];rfl,λ_=>rfl,λj q=>by rw[h2] at q;simp at q⟩
  ·exact⟨_,_,rfl,λh=>by simp at h,λj q=>⟨g,0,rfl,by rw[Nat.zero_add];exact M.cell j q⟩⟩
 obtain⟨O,c,hv,W,z⟩:=r;refine wp_app 25 24 (.slice none 0 0) 24 und_rows Tryz.infoRow rfl (by decide) T s x ho l.heap.size _ [u] hs N O p.length c p (hx.trans hv) rfl W z ?_ (by simp;omega) G.size ?_
 ·intro u' X
  obtain⟨j,q,rfl⟩:=List.getElem_of_mem X;rw[<-gt_eq p j q];exact rdOwn.one (K j (by omega))
 ·intro J w' k1 k2 _ _
  have A:Ext l w':=grown_own G k2 (λj q aj=>by have:=own_blk q;omega);have C:=grown_trans U A;have D:∀k,J.ownBlock=some k->l.heap.size<=k:=λk hk=>(k1.lt k hk).1;refine h J w' ⟨[u]++p,λi k=>if i=0 then E.heap.size<=k/\k<l.heap.size else F (i-1) k/\k<E.heap.size,by simp[V],?_,?_,?_,?_⟩ C
  ·exact OwnV.weak k1 (by omega)
  ·intro i k R hk
   split at hk
   ·exact⟨by omega,λe=>by have:=D k e;omega,Nat.lt_of_lt_of_le hk.2 A.size⟩
   ·rename_i Y
    simp only[List.length_cons] at R;obtain⟨a1,a2,a3⟩:=hG (i-1) k (by omega) hk.1;exact⟨a1,λe=>by have:=D k e;omega,Nat.lt_of_lt_of_le a3 C.size⟩
  ·intro i j k R q hk S
   simp only[List.length_cons] at R q;split at hk<;>split at S
   ·omega
   ·omega
   ·omega
   ·have:=hd (i-1) (j-1) k (by omega) (by omega) hk.1 S.1;omega
  ·intro i R
   simp only[List.length_cons] at R;by_cases Y:i=0
   ·subst Y
    simp only[if_true];exact rdOwn.mono hu (λk hk m=>⟨⟨hk,m⟩,Nat.lt_of_lt_of_le m A.size,A.block k m (by simp)⟩)
   ·simp only[if_neg Y]
    have e1:gt ([u]++p) i=gt p (i-1):=by
     obtain⟨j,rfl⟩:∃j,i=j+1:=⟨i-1,by omega⟩;simp[gt]
    have e2:gt (y :: xs) i=gt xs (i-1):=by
     obtain⟨j,rfl⟩:∃j,i=j+1:=⟨i-1,by omega⟩;simp[gt]
    rw[e1,e2];exact rdOwn.mono (K (i-1) (by omega)) (λk hk m=>⟨⟨hk,m⟩,Nat.lt_of_lt_of_le m C.size,C.block k m (by simp)⟩)
theorem canonical_ok (P:Pr) (G:Grp P) (w:World) (sb gb B:Nat) (p:Value) (b:List (List Int)) (H:List Int->Prop) (Sp bad:Nat->Prop) (hp:PresP Sp w p P) (T:SeqAt B bad w sb gb p P.orders.length b) (hI:Ind P H (gt b)) :
  Calls Tryz.prog 137 #[.pointer (some ⟨sb,0,none⟩)] w (Ret w λw' v=>RowsO w.heap.size w' v (cseq P H)):=by
 have hP:=G.v;have ak:=hP.n6;obtain⟨pb,po,rfl⟩:=hp.shape;have q:=T.c0;have u:=T.c1;have R:=Lib.hid hI;clear hI;have U:IntKind.i64.wrap ((P.orders.length:Int)-1)=(P.orders.length:Int)-1:=IntWalk.i64_in _ (by omega);go_enter Tryz.func137,Tryz.ntmps137;go_wp2;clear U;go_loopw [3,4] (λov dv wr=>∃(m:Nat) (r:Nat->List Int) (v4:Value),v4=ov/\dv=.int .i64 ((m:Int)-1)/\m<=P.orders.length/\Ext w wr/\RowsO w.heap.size wr v4 (sq r (P.orders.length-m) m)/\Hid (CanInv P H (gt b) r m)) (λ_ dv _=>(intOf dv+1).toNat)
 case atStart=>exact⟨P.orders.length,λ_=>[],_,rfl,rfl,Nat.le_refl _,Ext.refl _,by rw[Nat.sub_self];exact SlO.nil _ _ _ _,Lib.hid ⟨λe h1 h2=>by omega,λe h1 h2=>by omega,λe e' h1 h2 h3=>by omega⟩⟩
 case round=>
  obtain⟨m,r,v4,rfl,rfl,hm,C,hO,D⟩:=hrel;clear q u;by_cases E:m=0
  ·subst E
   have F:=sq_len r P.orders.length 0;rw[G.can_end R.out D.out] at F;rw[Nat.sub_zero,G.can_end R.out D.out] at hO;have I:((0:Nat):Int)-1 = -1:=rfl;rw[I];obtain⟨az,capz,rfl,_⟩:=SlD.shape (hO.toD (by omega));go_wp2;go_ret;exact⟨_,rfl,C,hO⟩
  ·obtain ⟨d,rfl⟩:∃d,m=d+1:=⟨m-1,by omega⟩
   obtain⟨k,hk⟩:∃k,k=P.orders.length-(d+1):=⟨_,rfl⟩;rw[<-hk] at hO;have J:d+1+k=P.orders.length:=by omega
   have K:P.orders.length-d=k+1:=by omega
   rw[show(((d+1:Nat)):Int)-1=d by omega];have an:(d:Int)<P.orders.length:=by omega
   have ao:(0:Int)<=d:=by omega
   have ap:IntKind.i64.wrap ((d:Int)-1)=(d:Int)-1:=IntWalk.i64_in _ (by omega);have y:=T.ext C;have q:=y.c0;have u:=y.c1;have F:=sq_len r k (d+1);have aq:k<=6:=by omega
   have S:=Lib.hid (And.intro J K);clear J K hk E;obtain⟨_,V⟩:=y.tab.at d (by omega);rcases V with⟨h0,hcell⟩|⟨z,ab,L,hcell,W⟩
   ·obtain ⟨a,i⟩:=can_skip (k:=k) D.out h0
    have l:=Lib.hid (And.intro a i);clear a i h0;go_wp2;go_roundw
    case rel=>exact⟨d,_,v4,rfl,rfl,by omega,C,by rw[S.out.2,l.out.2];exact hO,Lib.hid l.out.1⟩
    case measure=>simp[intOf]
   ·have M:=hO.toD (by omega)
    obtain⟨az,capz,hvz,_,_⟩:=SlD.shape M;subst hvz;have hU:=RowsD.rows M;have N:=D.out.seqOk S.out.1;have O:=(R.out.mem d (by omega) z).2.1.1;have X:=hp.ext C;have Z:=Lib.hid (And.intro N (And.intro O z));clear N O z;have e1:∀w',Ext wr w'->w'.cell? ⟨sb,0,none⟩=some (.pointer (some ⟨pb,po,none⟩)):=λw' h=>h.cell q (by simp);have e2:∀w',Ext wr w'->w'.cell? ⟨sb,1,none⟩=some (.slice (some ⟨gb,0,none⟩) P.orders.length P.orders.length):=λw' h=>h.cell u (by simp);have e3:∀w',Ext wr w'->w'.cell? ⟨gb,d,none⟩=some (.slice (some ab) (gt b d).length L):=λw' h=>h.cell hcell (by simp);go_wp2
    go_region_held3 (λw'=>Ext wr w') (first|exact grown_drew _ _|assumption)
     (first
      | (go_at_call 148;refine Calls.mono (Calls.rel (w0:=wr) (by assumption) (representative_ok P G _ _ _ _ (sq r k (d+1)) (gt b d) Any Any Any (PresP.sub (PresP.ext X (by assumption)) (λ_ _ _=>trivial)) (Rows2.sub (Rows2.ext hU (by assumption)) (λ_ _ _=>trivial)) Z.out.1 (by omega) (Ints.sub (Ints.ext W (by assumption)) (λ_ _ _=>trivial)) Z.out.2.1)) ?_;rintro eY wY ⟨yv,rfl,aa,hsY,Y,hOY,A⟩))
    have aA:Y.length<=6:=by rw[A.vec.1];omega
    obtain⟨a,i⟩:=G.can_step R.out D.out S.out.1 Z.out.2.2 A;have l:=Lib.hid (And.intro a i);clear a i;have Q:OwnIn (From wr.heap.size) wY yv Y:=OwnIn.of hOY (by omega) (λj h1 _=>Nat.le_trans hsY h1);obtain⟨ay,capy,hvy,_,_⟩:=Q.ints.shape;subst hvy;clear e1 e2 e3 hcell q u A;go_wp2_with (first|(at_builtin;refine wp_prep_row rfl _ _ rfl w.heap.size wr wY _ _ (sq r k (d+1)) Y hO C.size aa Q rfl rfl rfl (by omega) ?_;intro v5 w5 ac ad)|fail)
    go_roundw
    case rel=>exact⟨d,_,v5,rfl,rfl,by omega,grown_trans C ad,by rw[S.out.2,l.out.2];exact ac,Lib.hid l.out.1⟩
    case measure=>simp[intOf]
theorem inverseMod_ret (a m:Int) (w:World) (b:m=2\/m=3\/m=5\/m=7) (h1:1<=a) (i:a<m) :
  Calls Tryz.prog 195 #[.int .i64 a,.int .i64 m] w (Ret w λ_ v=>∃k:Int,v=.tuple #[.int .i64 k,.bool true]/\0<=k/\k<m/\(k*a)%m=1):=
 (inverseMod_ok a m w b h1 i).mono (by rintro e w' ⟨⟨k,rfl,h⟩,rfl⟩;exact⟨_,rfl,Ext.refl _,k,rfl,h⟩)
theorem q_kept {bad:Nat->Prop}{i j:World}{v1 l:Value}(a:i.grownBy j v1.ownBlock) (m:l.ownBlock=v1.ownBlock\/∀k,l.ownBlock=some k->i.heap.size<=k) :
  ∀k,(¬bad k/\v1.ownBlock≠some k)->k<i.heap.size->(¬bad k/\l.ownBlock≠some k)/\k<j.heap.size/\j.heap[k]? = i.heap[k]? :=λk hk b=>
 ⟨⟨hk.1,λe=>by
  rcases m with h|h
  ·exact hk.2 (by rw[<-h];exact e)
  ·have:=h k e;omega⟩,Nat.lt_of_lt_of_le b a.size,a.block k b (λe=>hk.2 e.symm)⟩
theorem seq_kept {B sb gb n W:Nat}{pv:Value}{i p:World}{v1 j:Value}{b:List (List Int)}(h:SeqAt B (λk=>v1.ownBlock=some k) i sb gb pv n b) (q:∀k,v1.ownBlock=some k->W<=k) (r:gb<W) (u:sb<W)
  (a:i.grownBy p v1.ownBlock) (l:j.ownBlock=v1.ownBlock\/∀k,j.ownBlock=some k->i.heap.size<=k):SeqAt B (λk=>j.ownBlock=some k) p sb gb pv n b:=by
 refine h.kept a.size (λk hk m=>a.block k hk (λe => ?_)) (λk hk e => ?_)
 ·rcases m with rfl|rfl|m
  ·have:=q _ e.symm;omega
  ·have:=q _ e.symm;omega
  ·exact m e.symm
 ·rcases l with h|h
  ·rw[<-h];exact e
  ·have:=h k e;omega
def AddPost (P:Pr) (H:List Int->Prop) (L b a:List (List Int)) (g:Bool):Prop:=
 Ind P (genP P (λx=>H x\/x∈L)) (gt a)/\(g=false->a=b)/\(g=true->miss a P.orders.length<miss b P.orders.length)
def AddSt (P:Pr) (H:List Int->Prop) (L b a q:List (List Int)) (g:Bool):Prop:=
 (∃R,AddInv P (λx=>H x\/x∈L) (gt a) q R)/\(g=false->a=b)/\(g=true->miss a P.orders.length<miss b P.orders.length)/\miss a P.orders.length<=miss b P.orders.length
theorem add_ok (P:Pr) (G:Grp P) (w:World) (sb gb B:Nat) (p lv:Value) (L b:List (List Int)) (H:List Int->Prop) (hp:PresP (λk=>k≠gb) w p P) (F:SeqAt B (λ_=>False) w sb gb p P.orders.length b) (hI:Ind P H (gt b))
  (hL:∀x∈L,Vec P.orders x) (hl:Rows2 (λk=>¬(k=gb\/k=sb)) w lv L) (cy:L.length<=10000) :
  Calls Tryz.prog 135 #[.pointer (some ⟨sb,0,none⟩),lv] w λe w'=>∃a g,e=.returned (.bool g)/\w.grownBy w' (some gb)/\SeqAt B (λ_=>False) w' sb gb p P.orders.length a/\AddPost P H L b a g:=by
 have hP:=G.v;have cH:=hP.n6;obtain⟨pb,po,rfl⟩:=hp.shape;obtain⟨ao,ad,aU,hoi⟩:=hp.ordAt;obtain⟨_,_,_,cd,bv,_⟩:=hp.at;have Q:=F.tab.lt;have bw:∀w',w.grownBy w' (some gb)->PresP (λk=>k≠gb) w' (.pointer (some ⟨pb,po,none⟩)) P:=λw' h=>hp.mono (frame_of h (λk hk _=>⟨hk,λe=>hk (Option.some.inj e).symm⟩));have aV:∀w',w.grownBy w' (some gb)->w'.cell? ⟨sb,0,none⟩=some (.pointer (some ⟨pb,po,none⟩)):=λw' h=>(World.cell?_of_block (h.block sb F.slt (by simpa using F.ne))).trans F.c0;have aW:∀w',w.grownBy w' (some gb)->w'.cell? ⟨sb,1,none⟩=some (.slice (some ⟨gb,0,none⟩) P.orders.length P.orders.length):=λw' h=>(World.cell?_of_block (h.block sb F.slt (by simpa using F.ne))).trans F.c1;have aX:∀w',w.grownBy w' (some gb)->w'.cell? ⟨pb,po,none⟩=some (.slice ao P.orders.length ad):=λw' h=>(World.cell?_of_block (h.block pb bv (by simpa using cd))).trans aU;have I:=Lib.hid (And.intro bw (And.intro aV (And.intro aW aX)));clear bw aV aW aX aU;have HI:=Lib.hid (And.intro hI hL);clear hI hL;go_enter Tryz.func135,Tryz.ntmps135;go_wp2_with fail
 refine Calls.mono (cloneRows_ok w lv L _ (λk=>k=gb\/k=sb) hl (λk hk _=>hk) (by omega)) ?_;rintro e0 w0 ⟨cJ,rfl,hg0,bz⟩;go_wp2
 go_loopg [5,6] (miss b P.orders.length*(P.orders.length+3)+L.length) (λgk gv qv wr=>∃(a q:List (List Int)) (g:Bool),gk<=20000/\gk=miss a P.orders.length*(P.orders.length+3)+q.length/\gv=.bool g/\w.grownBy wr (some gb) /\
  SeqAt B (λk=>qv.ownBlock=some k) wr sb gb (.pointer (some ⟨pb,po,none⟩)) P.orders.length a/\ShQ (λk=>k=gb\/k=sb) w.heap.size wr qv q/\Hid (AddSt P H L b a q g))
 case atStart=>
  have bb:miss b P.orders.length*(P.orders.length+3)+L.length<=20000:=by
   have h3:miss b P.orders.length*(P.orders.length+3)<=6*9:=Nat.mul_le_mul (by have:=miss_le b P.orders.length;omega) (by omega);omega
  exact⟨b,L,false,bb,rfl,rfl,grown_of_ext _ hg0,F.kept hg0.size (λk hk _=>hg0.block k hk (by simp)) (λk hk h=>by have:=(bz.lt k h).1;omega),bz,Lib.hid ⟨⟨_,G.addInv_start HI.out.1 HI.out.2⟩,λ_=>rfl,by simp,Nat.le_refl _⟩⟩
 case round=>
  obtain⟨a,q,g,hgkb,bc,rfl,hg,aw,hq,hSt⟩:=hrel;cases q with
  | nil=>
   obtain⟨aq,capq,rfl,_⟩:=hq.shape;go_wp2;go_ret;exact⟨a,g,rfl,hg,aw.kept (Nat.le_refl _) (λ_ _ _=>rfl) (λ_ _ h=>h.elim),by obtain⟨⟨R,hA⟩,h2,h3,_⟩:=hSt.out;exact⟨G.addInv_end hA,h2,h3⟩⟩
  | cons y q=>
   obtain⟨aq,capq,rfl,_⟩:=hq.shape;obtain⟨gq,off,u,rfl,hgB,hglt,l,ae⟩:=ShQ.head hq 0 (by simp);obtain⟨m,hm⟩:∃m,m=(y :: q).length:=⟨_,rfl⟩;rw[<-hm] at hq bc ⊢;have bA:m=q.length+1:=by rw[hm];rfl
   have ae:Ints (λk=>¬(k=gb\/k=sb)/\k≠gq) wr u y:=ae;obtain⟨ay,capy,rfl,_,_⟩:=ae.shape;have cM:m<=20000:=by omega
   have ce:=I.out.2.1 wr hg;have bB:=I.out.2.2.1 wr hg;rw[Nat.add_zero] at l;have cN:(0:Int)<m:=by omega
   have HM:=Lib.hid (And.intro bc (And.intro hm bA));clear bc hm bA;have bC:Vec P.orders y:=by obtain⟨⟨R,hA⟩,_⟩:=hSt.out;exact hA.vec _ (hA.que _ List.mem_cons_self)
   have aY:∀d,d<P.orders.length->gt a d≠[]->T P d (gt a d)/\gt (gt a d) d=1:=by obtain⟨⟨R,hA⟩,_⟩:=hSt.out;exact λd X h=>(hA.tab d X h).2
   have HT:=Lib.hid (And.intro bC aY);clear bC aY;go_wp2_with fail
   refine Calls.mono (sift_ok P G wr sb gb B _ _ y a _ _ _ (I.out.1 wr hg) aw HT.out.2 ae HT.out.1) ?_;rintro e1 S ⟨xv,rfl,bd,Y,hYI,be,bD,hΦ⟩;have C:=grown_trans hg (grown_of_ext (some gb) bd)
   have U:Hid (AddSt P H L b a (Y :: q) g):=by
    obtain⟨⟨R,hA⟩,h2⟩:=hSt.out;exact Lib.hid ⟨G.sift_add hA hΦ,h2⟩
   clear hΦ hSt ce bB l;have D:ShQ (λk=>k=gb\/k=sb) w.heap.size S (subSl (.slice (some ⟨gq,off,none⟩) m capq) 1 m) q:=(hq.ext bd).tail;have bf:=run_tail_rows S (some ⟨gq,off,none⟩) m capq 1 (by omega) (by omega)
   have r:∀k,(subSl (.slice (some ⟨gq,off,none⟩) m capq) 1 m).ownBlock=some k->k=gq:=λk hk=>by
    have h3:=QOwn.own_tail k hk;simp[Value.ownBlock] at h3;exact h3.symm
   rw[show(1:Int).toNat=1 from rfl] at bf;generalize subSl (.slice (some ⟨gq,off,none⟩) m capq) 1 m=bE at D bf r;have af:SeqAt B (λk=>bE.ownBlock=some k) S sb gb (.pointer (some ⟨pb,po,none⟩)) P.orders.length a:=(aw.ext bd).kept (Nat.le_refl _) (λ_ _ _=>rfl) (λk _ h=>by rw[r k h];rfl)
   have A:Ints (λk=>¬(k=gb\/k=sb)/\bE.ownBlock≠some k) S xv Y:=Ints.sub hYI (λk hk _=>by
    have h1:=F.slt;have h2:=hg.size;rcases hk with hk|hk
    ·exact⟨hk.1,λe=>hk.2 (r k e)⟩
    ·exact⟨by omega,λe=>by have:=r k e;omega⟩)
   obtain⟨a1,bF,rfl,_⟩:=D.shape;obtain⟨ax,capx,hv,_,_⟩:=A.shape;rw[be.1] at hv;subst hv;clear aw hq ae hYI r;have HY:=Lib.hid (And.intro be bD);clear be bD;by_cases aB:dep Y=P.orders.length
   ·have bH:Hid (AddSt P H L b a q g):=by
     obtain⟨⟨R,hA⟩,h2⟩:=U.out;exact Lib.hid ⟨⟨R,addInv_drop hA ((dep_top hP HY.out.1).1 aB)⟩,h2⟩
    clear U;go_wp2_with (go_at_call 194;refine Calls.mono (depthOf_ok _ Y S _ A) ?_;rintro eD wD ⟨rfl,rfl⟩)
    go_roundg (gk-1)
    case measure=>have:=HM.out;omega
    case rel=>exact⟨a,q,g,by omega,by have:=HM.out;omega,rfl,C,af,D,bH⟩
   ·have X:dep Y<P.orders.length:=by have:=dep_le Y;have:=HY.out.1.1;omega
    have aD:=dep_T HY.out.1;have bI:=dep_ne (x:=Y) (by rw[HY.out.1.1];exact X);have bg:=HY.out.2 X;obtain⟨d,aE⟩:∃d,d=dep Y:=⟨_,rfl⟩;rw[<-aE] at X aD bI bg aB;have ho:=hP.ord7 d X;have bJ:=hP.ord d X;have cg:=aD.1.2 d X;have bK:1<=gt Y d:=by omega
    obtain⟨bx,ox,rfl,_,_,hcx⟩:=Ints.at A d (by rw[HY.out.1.1];exact X);obtain⟨b2,off2,rfl,ag,bL,ah⟩:=Ints.at hoi d X;have c1:∀w',w.grownBy w' (some gb)->w'.cell? ⟨b2,off2+d,none⟩=some (.int .i64 (gt P.orders d)):=λw' h=>(World.cell?_of_block (h.block b2 bL (by simpa using ag))).trans ah;have HD:=Lib.hid (And.intro aE (And.intro aD (And.intro bg (And.intro c1 (And.intro bJ aB)))));clear aD bI bg c1 bJ ah aB;have e1:∀w',Ext S w'->w'.cell? ⟨sb,0,none⟩=some (.pointer (some ⟨pb,po,none⟩)):=λw' h=>I.out.2.1 w' (grown_trans C (grown_of_ext _ h));have e2:∀w',Ext S w'->w'.cell? ⟨pb,po,none⟩=some (.slice (some ⟨b2,off2,none⟩) P.orders.length ad):=λw' h=>I.out.2.2.2 w' (grown_trans C (grown_of_ext _ h));have e3:∀w',Ext S w'->w'.cell? ⟨b2,off2+d,none⟩=some (.int .i64 (gt P.orders d)):=λw' h=>HD.out.2.2.2.1 w' (grown_trans C (grown_of_ext _ h));have e4:∀w',Ext S w'->w'.cell? ⟨bx,ox+d,none⟩=some (.int .i64 (gt Y d)):=λw' h=>h.cell hcx (by simp);have q1:(d:Int)<P.orders.length:=by omega
    have q2:(0:Int)<=d:=by omega
    have q3:((d:Int) == (P.orders.length:Int))=false:=by simp;omega
    have bM:Calls Tryz.prog 194 #[.slice (some ⟨bx,ox,none⟩) P.orders.length capx] S (λe w'=>e=.returned (.int .i64 d)/\S=w'):=by rw[aE];exact depthOf_ok _ Y S _ A
    clear aE;go_wp2_with (go_at_call 194;refine Calls.mono bM ?_;rintro eD wD ⟨rfl,rfl⟩)
    go_region_held3 (λw'=>Ext S w') (first|exact grown_drew _ _|assumption)
     (first
      | (go_at_call 195;refine Calls.mono (Calls.rel (w0:=S) (by assumption) (inverseMod_ret (gt Y d) (gt P.orders d) _ HD.out.2.2.2.2.1 bK cg.2)) ?_;rintro eI wI ⟨vI,rfl,aF,hsI,kk,rfl,bb,hk1,hkm⟩;have HK:=Lib.hid hkm;clear hkm))
    clear e1 e2 e3 e4 bM bf;have aZ:=grown_trans C (grown_of_ext (some gb) aF);have bi:=D.ext aF;have a0:=af.ext aF;have ai:=A.ext aF;have a2:∀k,(Value.slice a1 q.length bF).ownBlock=some k->w.heap.size<=k:=λk hk=>(bi.lt k hk).1;have cU:q.length<=20000:=by have:=HM.out.2.2;omega
    clear D af A hcx;go_wp2_with (first|(at_builtin;refine wp_shq_app rfl _ _ rfl (λk=>k=gb\/k=sb) w.heap.size _ _ q Y rfl wI bi rfl ai rfl (by omega) aZ.size ?_;intro v2 w2 bj aG ag;have V:=grown_own aZ aG (λj J bN=>by have:=a2 j J;omega);have cA:=I.out.2.1 w2 V)|fail)
    have a3:=seq_kept a0 a2 Q.2 F.slt aG ag;have a4:=Ints.mono ai (q_kept aG ag);clear bi a0 ai;refine Calls.mono (power_ok P hP w2 _ _ Y kk _ _ (I.out.1 w2 V) a4 HY.out.1 (by omega)) ?_;rintro eZ wZ ⟨zv,rfl,bk,aj⟩;have eZ:iPow P Y kk=pw P Y kk.toNat:=G.iPow_eq HY.out.1 kk;rw[eZ] at aj;clear eZ;obtain⟨Z,hZ⟩:∃Z,Z=pw P Y kk.toNat:=⟨_,rfl⟩;rw[<-hZ] at aj;have aH:Vec P.orders Z:=by rw[hZ];exact G.pw_vec HY.out.1 _
    have HZ:=Lib.hid hZ;clear hZ;have W:=grown_trans V (grown_of_ext (some gb) bk);have aI:=bj.ext bk;have a5:=a3.ext bk
    have aJ:Ints (λk=>¬(k=gb\/k=sb)/\v2.ownBlock≠some k) wZ zv Z:=ints_of_own aj (by rw[aH.1];omega) (λk hk=>by
     have h1:=(aj.lt k hk).1;have h2:=F.slt;have h3:=V.size;exact⟨by omega,λe=>by have:=(bj.lt k e).2;omega⟩)
    have ak:∀k,v2.ownBlock=some k->w.heap.size<=k:=λk hk=>(aI.lt k hk).1;clear bj a3 a4 aG ag;obtain⟨az,al,hv,_,_⟩:=aJ.shape;rw[aH.1] at hv;subst hv;have K:=Lib.hid aH;clear aH;have bO:Vec P.orders (pw P Z (gt P.orders d).toNat):=G.pw_vec K.out _;have bP:(pw P Z (gt P.orders d).toNat).length<=6:=by rw[bO.1];omega
    have bQ:iPow P Z (gt P.orders d)=pw P Z (gt P.orders d).toNat:=G.iPow_eq K.out _;have bR:=Lib.hid (And.intro bP bQ);clear bP bQ bO;have e1:∀w',w.grownBy w' (some gb)->w'.cell? ⟨sb,0,none⟩=some (.pointer (some ⟨pb,po,none⟩)):=I.out.2.1;have e2:∀w',w.grownBy w' (some gb)->w'.cell? ⟨pb,po,none⟩=some (.slice (some ⟨b2,off2,none⟩) P.orders.length ad):=I.out.2.2.2;have e3:∀w',w.grownBy w' (some gb)->w'.cell? ⟨b2,off2+d,none⟩=some (.int .i64 (gt P.orders d)):=HD.out.2.2.2.1;go_wp2
    go_region_held3 (λw'=>w.grownBy w' (some gb)) (first|exact grown_trans W (grown_drew _ _)|assumption|exact grown_trans am (World.grownBy_alloc _ _ _))
     (first
      | (go_at_call 196;refine Calls.mono (Calls.rel2 (w0:=wZ) (grown_drew _ _) (power_ok P hP _ _ _ Z (gt P.orders d) _ _ ((I.out.1 wZ W).ext (grown_drew _ _)) (aJ.ext (grown_drew _ _)) K.out (by omega))) ?_;rintro eT wT ⟨vT,rfl,aK,hgT2,hsT,aL⟩;have am:=grown_trans W (grown_of_ext (some gb) aK);rw[bR.out.2] at aL;have bl:Ints (λk=>¬(k=gb\/k=sb)/\v2.ownBlock≠some k) wT vT (pw P Z (gt P.orders d).toNat):=ints_of_own aL (by have:=bR.out.1;omega) (λk hk=>by
        have h1:=(aL.lt k hk).1;have h2:=F.slt;have h3:=W.size;exact⟨by omega,λe=>by have:=(aI.lt k e).2;omega⟩);obtain⟨aT,capT,hvT,_,_⟩:=bl.shape;subst hvT)
      | (refine step_shq_app rfl _ _ rfl (λk=>k=gb\/k=sb) w.heap.size v2 _ (q++[Y]) _ rfl wT (aI.ext aK) rfl bl rfl (by simp;omega) am.size ?_;intro v3 w3 bm aM bn;have an:=grown_own am aM (λj J bN=>by have:=ak j J;omega)))
    clear e1 e2 e3;have a6:=seq_kept (a5.ext aK) ak Q.2 F.slt aM bn;have a7:=Ints.mono (aJ.ext aK) (q_kept aM bn);have bS:=I.out.2.2.1 w3 an;have bT:=I.out.2.1 w3 an;obtain⟨T1,bo⟩:∃T1,T1=pw P Z (gt P.orders d).toNat:=⟨_,rfl⟩;rw[<-bo] at bm;have cp:=Lib.hid bo;clear bo;clear aI a5 aJ bl aL aj aM bn;go_wp2;clear bS bT
    go_loopw [6,84] (λqv iv aO=>∃(k:Nat) (v4:Value),v4=qv/\iv=.int .i64 k/\k<=P.orders.length/\w.grownBy aO (some gb)/\SeqAt B (λj=>v4.ownBlock=some j) aO sb gb (.pointer (some ⟨pb,po,none⟩)) P.orders.length a /\
     ShQ (λk=>k=gb\/k=sb) w.heap.size aO v4 (q++[Y]++[T1]++coms P a Z k)/\Ints (λj=>¬(j=gb\/j=sb)/\v4.ownBlock≠some j) aO (.slice az P.orders.length al) Z) (λ_ iv _=>P.orders.length-(intOf iv).toNat)
    case atStart=>exact⟨0,_,rfl,rfl,by omega,an,a6,by simpa [coms] using bm,a7⟩
    case round=>
     obtain⟨k,v4,rfl,rfl,hk,M,i,aa,E⟩:=hrel;clear a6 bm a7;have N:∀j,v4.ownBlock=some j->w.heap.size<=j:=λj J=>(aa.lt j J).1;by_cases bU:k<P.orders.length
     ·obtain ⟨_,aP⟩:=i.tab.at k bU
      rcases aP with⟨h0,l⟩|⟨bp,ab,capb,l,cr⟩
      ·have ap:coms P a Z (k+1)=coms P a Z k:=by simp only[coms];rw[if_pos h0,List.append_nil]
       have HC:=Lib.hid ap;clear ap h0;go_wp2;go_roundw
       case rel=>exact⟨k+1,v4,rfl,by go_num,by omega,M,i,by rw[HC.out];exact aa,E⟩
       case measure=>simp[intOf];omega
      ·have ap:coms P a Z (k+1)=coms P a Z k++[comR P (gt a k) Z]:=by simp only[coms];rw[if_neg bp]
       have aQ:=(HT.out.2 k bU bp).1.1;have bW:Vec P.orders (comR P (gt a k) Z):=G.mulV (G.invV (G.mulV K.out aQ)) (G.mulV aQ K.out);have HC:=Lib.hid (And.intro ap (And.intro aQ bW));clear ap aQ bW bp;have cs:=I.out.2.1 wr M;go_wp2_with fail
       refine Calls.mono (commutator_ok P G wr _ _ _ (gt a k) Z _ _ _ (I.out.1 wr M) cr E HC.out.2.1 K.out) ?_;rintro eC wC ⟨vC,rfl,aR,ar⟩;have ar:Own wr.heap.size wC vC (comR P (gt a k) Z):=ar
       have bX:Ints (λj=>¬(j=gb\/j=sb)/\v4.ownBlock≠some j) wC vC (comR P (gt a k) Z):=ints_of_own ar (by rw[HC.out.2.2.1];omega) (λj J=>by
        have h1:=(ar.lt j J).1;have h2:=F.slt;have h3:=M.size;exact⟨by omega,λe=>by have:=(aa.lt j e).2;omega⟩)
       have a8:=grown_trans M (grown_of_ext (some gb) aR);obtain⟨aC,capC,hvC,_,_⟩:=bX.shape;subst hvC;have cY:=coms_len P a Z k;clear ar l cs;go_wp2_with (first|(at_builtin;refine wp_shq_app rfl _ _ rfl (λk=>k=gb\/k=sb) w.heap.size v4 _ (q++[Y]++[T1]++coms P a Z k) (comR P (gt a k) Z) rfl wC (aa.ext aR) rfl bX rfl (by simp;omega) a8.size ?_;intro v5 w5 bq O bY;have bZ:=grown_own a8 O (λj J bN=>by have:=N j J;omega))|fail)
       go_roundw
       case rel=>exact⟨k+1,v5,rfl,by go_num,by omega,bZ,seq_kept (i.ext aR) N Q.2 F.slt O bY,by rw[HC.out.1,<-List.append_assoc];exact bq,Ints.mono (E.ext aR) (q_kept O bY)⟩
       case measure=>simp[intOf];omega
     ·have cu:k=P.orders.length:=by omega
      subst cu;have a9:Z≠[]:=λh=>by have:=K.out.1;rw[h] at this;simp at this;omega
      obtain⟨cv,O⟩:=i.put d (u := .slice az P.orders.length al) (y:=Z) (Ints.sub E (λj J _=>⟨λe=>J.1 (.inl e),λh=>h.elim (λe=>J.1 (.inr e)) J.2⟩)) a9;obtain⟨c3,aP⟩:=i.tab.at d X;have c4:wr.cell? ⟨gb,d,none⟩=some (.slice none 0 0):=aP.elim (λh=>h.2) (λh=>absurd HD.out.2.2.1 h.1)
      have bq:ShQ (λk=>k=gb\/k=sb) w.heap.size (wr.setCell ⟨gb,d,none⟩ (.slice az P.orders.length al)) v4 (q++[Y]++[T1]++coms P a Z P.orders.length):=aa.kept O.size (λj J hc=>O.block j J (λe=>by
       have e:=Option.some.inj e;subst e;rcases hc with hc|hc
       ·have:=N _ hc;have:=Q.2;omega
       ·exact hc (.inl rfl))) (λ_ _ h=>h)
      have bB:=I.out.2.2.1 wr M;have aS:=miss_set (b:=a) (z:=Z) HD.out.2.2.1 a9 P.orders.length (by rw[i.tab.len];exact Nat.le_refl _);rw[if_pos X] at aS;have b1:(q++[Y]++[T1]++coms P a Z P.orders.length).length<=q.length+2+P.orders.length:=by have:=coms_len P a Z P.orders.length;simp;omega
      have a':miss a P.orders.length*(P.orders.length+3)=miss (a.set d Z) P.orders.length*(P.orders.length+3)+(P.orders.length+3):=by rw[<-aS,Nat.add_mul,Nat.one_mul]
      have b3:Hid (AddSt P H L b (a.set d Z) (q++[Y]++[T1]++coms P a Z P.orders.length) true):=by
       obtain⟨⟨R,hA⟩,h2,h3,h4⟩:=U.out;have b4:=G.add_step hA X HD.out.2.1 HD.out.2.2.1 i.tab.len kk bb HK.out;rw[<-HZ.out,<-cp.out] at b4;exact Lib.hid ⟨b4,by simp,λ_=>by omega,by omega⟩
      have ba:miss (a.set d Z) P.orders.length*(P.orders.length+3)+(q++[Y]++[T1]++coms P a Z P.orders.length).length<gk:=by have:=HM.out;omega
      have HX:=Lib.hid (And.intro b1 (And.intro ba (And.intro a' aS)));clear b1 a' aS ba U aP aa i E;have c5:(d:Int)<P.orders.length:=by omega
      go_wp2;go_roundg (miss (a.set d Z) P.orders.length*(P.orders.length+3)+(q++[Y]++[T1]++coms P a Z P.orders.length).length)
      case measure=>exact HX.out.2.1
      case rel=>exact⟨a.set d Z,_,true,by have:=HX.out.2.1;omega,rfl,rfl,grown_trans M O,cv,bq,b3⟩
section
variable {P:Pr}(G:Grp P)
include G
theorem Grp.inv_one:rInv P (zeros P.orders.length)=zeros P.orders.length:=by
 have h:=G.inv_mul G.oneV;rwa [G.grp.er _ (G.invV G.oneV)] at h
theorem Grp.sub_one:Sub P (λx=>x=zeros P.orders.length):=
 ⟨λx h=>by rw[h];exact G.oneV,rfl,λx y hx hy=>by rw[hx,hy];exact G.grp.el _ G.oneV,λx h=>by rw[h];exact G.inv_one⟩
theorem Grp.ind_one:Ind P (λx=>x=zeros P.orders.length) (gt (List.replicate P.orders.length ([]:List Int))):=
 ⟨G.sub_one,λd a h=>absurd (by simp[gt,a]) h,λx hx d a _ b=>absurd (by rw[hx];exact gt_replicate _ _) b⟩
omit G in
theorem genP_one (Q:List Int->Prop):genP P (λx=>x=zeros P.orders.length\/Q x)=genP P Q:=
 funext λx=>propext ⟨λh K S a=>h K S (λy hy=>hy.elim (λe=>by rw[e];exact S.one) (a y)),λh K S a=>h K S (λy hy=>a y (.inr hy))⟩
end
theorem generated_ok (P:Pr) (G:Grp P) (w:World) (p u:Value) (L:List (List Int)) (y C:Nat->Prop) (i:PresP y w p P) (z:Rows2 C w u L) (A:∀x∈L,Vec P.orders x) (e:L.length<=10000) :
  Calls Tryz.prog 109 #[p,u] w (Ret w λw' v=>RowsO w.heap.size w' v (cseq P (genP P (λx=>x∈L)))):=by
 have hP:=G.v;have l:=hP.n6;obtain⟨pb,po,rfl⟩:=i.shape;obtain⟨K,capl,rfl,_,_⟩:=Sl.shape z;have D:=Lib.hid A;clear A;go_enter Tryz.func109,Tryz.ntmps109;go_wp2_with fail
 refine Calls.mono (newSequence_ok P w _ y (λ_=>False) i l) ?_;rintro M E ⟨v1,rfl,hg1,sb,gb,rfl,m⟩;have F:=m.tab.lt;have H:=m.sB;go_wp2_with fail
 refine Calls.mono (add_ok P G E sb gb w.heap.size _ _ L _ (λx=>x=zeros P.orders.length) (i.mono (λk _ a=>⟨by omega,Nat.lt_of_lt_of_le a hg1.size,hg1.block k a (by simp)⟩)) m G.ind_one D.out (Rows2.mono z (λk _ a=>⟨by omega,Nat.lt_of_lt_of_le a hg1.size,hg1.block k a (by simp)⟩)) e) ?_;rintro N B ⟨b2,g,rfl,hg2,q,r,_,_⟩;rw[genP_one] at r;have b:Ext w B:=grown_own hg1 hg2 (λj I a=>by cases I;omega);have J:=Lib.hid r;clear r;go_wp2_with fail
 refine Calls.mono (canonical_ok P G B sb gb w.heap.size _ b2 _ _ _ (i.ext b) q J.out) ?_;rintro O Q ⟨R,rfl,hg3,hO⟩;go_wp2;go_ret;exact⟨_,rfl,grown_trans b hg3,hO.weak b.size⟩
theorem eqRows_ok (v1 D:Value) (A B:List (List Int)) (w:World) (J K:Nat->Prop) (h1:Rows2 J w v1 A) (E:Rows2 K w D B) :
  Calls Tryz.prog 217 #[v1,D,.func (.func 147) #[] #[]] w (Ret w λ_ v=>v=.bool (eqB A B)):=by
 obtain⟨a1,cap1,rfl,_,_⟩:=Sl.shape h1;obtain⟨a2,cap2,rfl,_,_⟩:=Sl.shape E;by_cases a:A.length=B.length
 ·have F:=Lib.hid a
  have b:((A.length:Int) != (B.length:Int))=false:=by simp[a]
  clear a;go_enter Tryz.func217,Tryz.ntmps217;go_wp2;go_loopw [17] (λq wr=>∃k:Nat,q=.int .i64 k/\k<=A.length/\Ext w wr/\Hid (∀j,j<k->gt A j=gt B j)) (λq _=>A.length-(intOf q).toNat)
  case atStart=>exact⟨0,rfl,by omega,Ext.refl _,Lib.hid (λj h=>by omega)⟩
  case round=>
   obtain⟨k,rfl,hk,l,hE⟩:=hrel;clear b;by_cases r:k<A.length
   ·have G:(k:Int)<A.length:=by omega
    have H:(k:Int)<B.length:=by have:=F.out;omega
    obtain⟨b1,o1,c1,d1,rfl,_,_,hc1,u⟩:=Rows2.at (Rows2.ext h1 l) k r;obtain⟨b2,o2,c2,d2,rfl,_,_,hc2,y⟩:=Rows2.at (Rows2.ext E l) k (by omega);have L:(0:Int)<=k:=by omega
    go_wp2_with fail
    refine Calls.mono (sEqual_ok _ _ (gt A k) (gt B k) wr _ _ u y) ?_;rintro N O ⟨Q,rfl,hgE,rfl⟩;clear hc1 hc2;cases p:eqB (gt A k) (gt B k) with
    | true=>
     have z:=Lib.hid p;clear p;go_wp2;go_roundw
     case rel=>exact⟨k+1,by go_num,by omega,grown_trans l hgE,Lib.hid (λj M=>by
      rcases Nat.lt_succ_iff_lt_or_eq.1 M with h|h
      ·exact hE.out j h
      ·rw[h];exact eqB_true.1 z.out)⟩
     case measure=>simp[intOf];omega
    | false=>
     have I:=eqB_false_at (eqB_false.1 p);have z:=Lib.hid I;clear p I;go_wp2;go_ret;exact⟨_,rfl,grown_trans l hgE,by rw[z.out];rfl⟩
   ·have m:eqB A B=true:=eqB_true.2 (ext_gt F.out (λi R=>hE.out i (by omega)))
    have C:=Lib.hid m;clear m;go_wp2;go_ret;exact⟨_,rfl,l,by rw[C.out];rfl⟩
 ·have m:eqB A B=false:=eqB_false.2 (λe=>a (by rw[e]))
  have C:=Lib.hid m;clear m;have b:((A.length:Int) != (B.length:Int))=true:=by simp;omega
  clear a;go_enter Tryz.func217,Tryz.ntmps217;go_wp2;go_ret;exact⟨_,rfl,Ext.refl _,by rw[C.out];rfl⟩
theorem sameRows_ok (v1 b:Value) (A B:List (List Int)) (w:World) (e i:Nat->Prop) (h1:Rows2 e w v1 A) (j:Rows2 i w b B) :
  Calls Tryz.prog 159 #[v1,b] w (Ret w λ_ v=>v=.bool (eqB A B)):=by
 have a:=eqRows_ok v1 b A B w e i h1 j;obtain⟨a1,cap1,rfl,_,_⟩:=Sl.shape h1;obtain⟨a2,cap2,rfl,_,_⟩:=Sl.shape j;go_enter Tryz.func159,Tryz.ntmps159;go_wp2_with fail
 refine Calls.mono a ?_;rintro k l ⟨v,rfl,hg,rfl⟩;clear a;go_wp2;go_ret;exact⟨_,rfl,hg,rfl⟩
def SubB (P:Pr) (u:List (List Int)):Prop:=(∀x∈u,Vec P.orders x)/\u=cseq P (genP P (λx=>x∈u))
theorem Grp.cseq_len {P:Pr}(G:Grp P) {H:List Int->Prop}(S:Sub P H):(cseq P H).length<=P.orders.length:=by
 obtain⟨r,_,h⟩:=G.cseq_spec S;rw[h,sq_all];exact sq_len _ _ _
theorem Grp.sub_len {P:Pr}(G:Grp P) {u:List (List Int)}(h:SubB P u):u.length<=P.orders.length:=by
 rw[h.2];exact G.cseq_len (G.genP_sub h.1)
theorem areSubgroups_ok (P:Pr) (w:World) (p lv:Value) (y:List (List (List Int))) (Q S:Nat->Prop) (R:PresP Q w p P) (e:Rows3 S w lv y) :
  Calls Tryz.prog 77 #[p,lv] w (Ret w λ_ v=>∃r:Bool,v=.bool r/\(r=true↔rconsB P=true/\∀u∈y,SubB P u)):=by
 obtain⟨pb,po,rfl⟩:=R.shape;obtain⟨al,capl,rfl,_,_⟩:=Sl.shape e;obtain⟨vo,vp,vc,_,_,hc0,hc1,hc2,h3⟩:=R.at;obtain⟨ao,H,rfl,_,_⟩:=h3.o.shape;obtain⟨ap,capp,rfl,_,_⟩:=Sl.shape h3.p;obtain⟨ac,capc,rfl,_,_⟩:=Sl.shape h3.c;have k:=isConsistent_ok P w (.agg #[.slice ao P.orders.length H,.slice ap P.powers.length capp,.slice ac P.conj.length capc]) Q ⟨_,_,_,rfl,h3⟩;rw[icons_eq] at k;go_enter Tryz.func77,Tryz.ntmps77;go_wp2_with fail
 refine Calls.mono k ?_;rintro e1 w1 ⟨v,rfl,hg1,rfl⟩;clear k;cases hq:rconsB P with
 | false=>
  have T:=Lib.hid hq;clear hq;go_wp2;go_ret;exact⟨_,rfl,hg1,false,rfl,by simp only[Bool.false_eq_true,false_iff];rintro⟨h,_⟩;rw[T.out] at h;cases h⟩
 | true =>
  have G:=grp_of_r hq;have aj:=G.v.n6;have T:=Lib.hid hq;clear hq hc1 hc2;go_wp2;go_loopw [16] (λV wr=>∃i:Nat,V=.int .i64 i/\i<=y.length/\Ext w wr/\Hid (∀j,j<i->SubB P (gt y j))) (λV _=>y.length-(intOf V).toNat)
  case atStart=>exact⟨0,rfl,by omega,hg1,Lib.hid (λj h=>by omega)⟩
  case round=>
   obtain⟨i,rfl,hi,a,hS⟩:=hrel;by_cases z:i<y.length
   ·have af:(i:Int)<y.length:=by omega
    obtain⟨b,off,a2,cap2,rfl,_,_,I,F⟩:=Rows3.at e i z;obtain⟨U,W⟩:∃U,U=gt y i:=⟨_,rfl⟩;rw[<-W] at I F;have A:=Lib.hid W;clear W;have J:=a.cell hc0 (by simp);have K:=a.cell I (by simp);by_cases C:U.length<=P.orders.length
    ·have L:¬(P.orders.length:Int)<U.length:=by omega
     go_wp2;clear K J L;go_loopw [30] (λX wr=>∃j:Nat,X=.int .i64 j/\j<=U.length/\Ext w wr/\Hid (∀l,l<j->Vec P.orders (gt U l))) (λX _=>U.length-(intOf X).toNat)
     case atStart=>exact⟨0,rfl,by omega,a,Lib.hid (λj h=>by omega)⟩
     case round=>
      clear a;obtain⟨j,rfl,hj,a,hV⟩:=hrel;by_cases M:j<U.length
      ·have ag:(j:Int)<U.length:=by omega
       obtain⟨b3,off3,a3,cap3,rfl,_,_,hc3,Y⟩:=Rows2.at (Rows2.ext F a) j M;have hex:=isExponents_ok wr _ _ P (gt U j) Q S (R.ext a) Y (λi hi=>by have:=G.v.ord7 i hi;omega);cases m:expB P.orders (gt U j) with
       | true=>
        rw[m] at hex;have B:=Lib.hid (expB_vec.1 m);clear m;go_wp2_with fail
        refine Calls.mono hex ?_;rintro eE wE ⟨rfl,rfl⟩;clear hex;go_wp2;go_roundw
        case rel=>exact⟨j+1,by go_num,by omega,a,Lib.hid (λl e=>by
         rcases Nat.lt_succ_iff_lt_or_eq.1 e with h|h
         ·exact hV.out l h
         ·rw[h];exact B.out)⟩
        case measure=>simp[intOf];omega
       | false=>
        rw[m] at hex
        have q:¬SubB P U:=λh=>by
         have:=expB_vec.2 (h.1 _ (gtMem M));rw[m] at this;cases this
        have B:=Lib.hid q;clear m q;go_wp2_with fail
        refine Calls.mono hex ?_;rintro eE wE ⟨rfl,rfl⟩;clear hex;go_wp2;go_ret
        exact ⟨_,rfl,a,false,rfl,by
         simp only[Bool.false_eq_true,false_iff];rintro⟨_,h⟩;exact B.out (by rw[A.out];exact h _ (gtMem z))⟩
      ·have Z:j=U.length:=by omega
       subst Z
       have D:∀x∈U,Vec P.orders x:=λx hx=>by
        obtain⟨l,e,rfl⟩:=List.getElem_of_mem hx;rw[<-gt_eq U l e];exact hV.out l e
       have an:(cseq P (genP P (λx=>x∈U))).length<=P.orders.length:=G.cseq_len (G.genP_sub D);have N:=Lib.hid D;clear D;go_wp2_with fail
       refine Calls.mono (generated_ok P G wr _ _ U Q S (R.ext a) (Rows2.ext F a) N.out (by omega)) ?_;rintro eG wG ⟨vG,rfl,hgG,aa⟩;have E:=grown_trans a hgG;have O:=RowsD.rows (aa.toD (by omega));obtain⟨aG,capG,hvG,_,_⟩:=Sl.shape O;subst hvG;go_wp2_with fail
       refine Calls.mono (sameRows_ok _ _ _ U wG _ _ O (Rows2.ext F E)) ?_;rintro eS wS ⟨vS,rfl,hgS,rfl⟩;cases m:eqB (cseq P (genP P (λx=>x∈U))) U with
       | true=>
        have B:=Lib.hid (eqB_true.1 m);clear m;go_wp2;go_roundw
        case rel=>exact⟨i+1,by go_num,by omega,grown_trans E hgS,Lib.hid (λl e=>by
         rcases Nat.lt_succ_iff_lt_or_eq.1 e with h|h
         ·exact hS.out l h
         ·rw[h,<-A.out];exact⟨N.out,B.out.symm⟩)⟩
        case measure=>simp[intOf];omega
       | false=>
        have B:=Lib.hid (eqB_false.1 m);clear m;go_wp2;go_ret
        exact ⟨_,rfl,grown_trans E hgS,false,rfl,by
         simp only[Bool.false_eq_true,false_iff];rintro⟨_,h⟩;have:=h _ (gtMem z);rw[<-A.out] at this;exact B.out this.2.symm⟩
    ·have L:(P.orders.length:Int)<U.length:=by omega
     have q:¬SubB P U:=λh=>C (G.sub_len h);have B:=Lib.hid q;clear q C;go_wp2;go_ret
     exact ⟨_,rfl,a,false,rfl,by
      simp only[Bool.false_eq_true,false_iff];rintro⟨_,h⟩;exact B.out (by rw[A.out];exact h _ (gtMem z))⟩
   ·have ab:i=y.length:=by omega
    subst ab;go_wp2;go_ret
    exact ⟨_,rfl,a,true,rfl,by
     simp only[true_iff]
     exact ⟨T.out,λu F=>by
      obtain⟨l,e,rfl⟩:=List.getElem_of_mem F;rw[<-gt_eq y l e];exact hS.out l e⟩⟩
end Go.Proofs.YtoakmefajbbggaaGreat
namespace Go.Proofs.YtoakmefajbbggaaGreat
theorem pwZ_nat (P:Pr) (x:List Int) (k:Int) (hk:0<=k):pwZ P x k=pw P x k.toNat:=by
 unfold pwZ;rw[if_neg (by omega)]
def tabTo (U:List (List Int)) (n:Nat):Nat->List (List Int)
 | 0=>List.replicate n []
 | k+1=>(tabTo U n k).set (dep (gt U k)) (gt U k)
theorem tabTo_len (U:List (List Int)) (n k:Nat):(tabTo U n k).length=n:=by
 induction k with
 | zero=>simp[tabTo]
 | succ k a=>simp only[tabTo,List.length_set];exact a
theorem tabTo_at (P:Pr) (U:List (List Int)):∀k,k<=U.length->∀d,d<P.orders.length ->
  (gt (tabTo U P.orders.length k) d=[]/\∀j,j<k->dep (gt U j)≠d)\/∃j,j<k/\dep (gt U j)=d/\gt (tabTo U P.orders.length k) d=gt U j:=by
 intro k;induction k with
 | zero=>intro _ d b;exact .inl ⟨by simp[tabTo,gt,b],λj a=>by omega⟩
 | succ k e=>
  intro hk d b;have i:=tabTo_len U P.orders.length k;simp only[tabTo];by_cases h:dep (gt U k)=d
  ·right
   exact⟨k,by omega,h,by rw[h,gt_set_eq _ _ _ (by omega)]⟩
  ·rw [gt_set_ne _ _ _ _ h]
   rcases e (by omega) d b with⟨h1,h2⟩|⟨j,h1,h2,h3⟩
   ·left
    refine⟨h1,λj a => ?_⟩;rcases Nat.lt_succ_iff_lt_or_eq.1 a with a|a
    ·exact h2 j a
    ·rw[a];exact h
   ·right
    exact⟨j,by omega,h2,h3⟩
theorem tabTo_vec {P:Pr}{U:List (List Int)}(e:SeqOk P U) (d:Nat) (i:d<P.orders.length) (b:gt (tabTo U P.orders.length U.length) d≠[]) :
  T P d (gt (tabTo U P.orders.length U.length) d)/\gt (gt (tabTo U P.orders.length U.length) d) d=1:=by
 rcases tabTo_at P U U.length (Nat.le_refl _) d i with⟨h,_⟩|⟨j,k,hjd,l⟩
 ·exact absurd h b
 ·obtain ⟨a,_,c⟩:=e.1 _ (gtMem k)
  rw[l,<-hjd];exact⟨dep_T a,c⟩
structure RedTo (P:Pr) (H:List Int->Prop) (b:List (List Int)) (X:List Int) (d:Nat) (Y:List Int):Prop where
 vec:Vec P.orders Y
 cos:H (rMul P (rInv P X) Y)
 zer:∀e,e<d->gt b e≠[]->gt Y e=0
structure StripTo (P:Pr) (b:List (List Int)) (X:List Int) (d:Nat) (Y:List Int):Prop where
 vec:T P d Y
 inv:∀Q q R,AddInv P Q (gt b) (X :: q) R->∃R',AddInv P Q (gt b) (Y :: q) R'
structure FullTo (P:Pr) (r:Nat->List Int) (m:Nat) (X:List Int) (e:Nat) (Y:List Int):Prop where
 vec:Vec P.orders Y
 zer:∀i,m<=i->i<e->r i≠[]->gt Y i=0
 cos:∀K,Sub P K->(∀i,m<=i->i<P.orders.length->r i≠[]->K (r i))->K (rMul P (rInv P X) Y)
 old:∀k,(∀i,m<=i->i<P.orders.length->r i≠[]->k<i)->gt Y k=gt X k
def comsR (P:Pr) (b:List (List Int)) (z:List Int):Nat->List (List Int)
 | 0=>[]
 | k+1=>comsR P b z k++(if gt b k=[] then [] else [comR P z (gt b k)])
theorem comsR_len (P:Pr) (b:List (List Int)) (z:List Int) (k:Nat):(comsR P b z k).length<=k:=by
 induction k with
 | zero=>exact Nat.le_refl _
 | succ k a=>simp only[comsR];split<;>simp<;>omega
theorem mem_comsR {P:Pr}{b:List (List Int)}{z x:List Int}{k:Nat} : x∈comsR P b z k↔∃e,e<k/\gt b e≠[]/\x=comR P z (gt b e):=by
 induction k with
 | zero=>simp[comsR]
 | succ k j=>
  simp only[comsR,List.mem_append,j];constructor
  ·rintro (⟨e,h1,a,i⟩|h)
   ·exact⟨e,by omega,a,i⟩
   ·split at h
    ·simp at h
    ·rename_i hk
     simp at h
     exact⟨k,by omega,hk,h⟩
  ·rintro ⟨e,h1,a,i⟩
   rcases Nat.lt_succ_iff_lt_or_eq.1 h1 with h|h
   ·exact .inl ⟨e,h,a,i⟩
   ·subst h;right;rw[if_neg a];simp[i]
section
variable {P:Pr}(G:Grp P)
include G
theorem Grp.ind_tab {H:List Int->Prop}(S:Sub P H):Ind P H (gt (tabTo (cseq P H) P.orders.length (cseq P H).length)):=by
 obtain⟨h1,h2,h3⟩:=G.seq_facts S;refine⟨S,λd a b => ?_,λx hx d a l m => ?_⟩
 ·refine ⟨?_,tabTo_vec h1 d a b⟩
  rcases tabTo_at P _ _ (Nat.le_refl _) d a with⟨h,_⟩|⟨j,e,_,k⟩
  ·exact absurd h b
  ·rw[k];exact h2 _ (gtMem e)
 ·obtain ⟨j,e,hjd⟩:=h3 x hx d a l m
  rcases tabTo_at P _ _ (Nat.le_refl _) d a with⟨_,h⟩|⟨i,p,_,k⟩
  ·exact absurd hjd (h j e)
  ·rw [k]
   intro q;have:=(h1.1 _ (gtMem p)).1.1;rw[q] at this;simp at this;omega
theorem Grp.redTo_zero {H:List Int->Prop}{b:List (List Int)}(S:Sub P H) {X:List Int}(a:Vec P.orders X):RedTo P H b X 0 X:=
 ⟨a,by rw[G.inv_mul a];exact S.one,λe i=>by omega⟩
omit G in
theorem RedTo.skip {H:List Int->Prop}{b:List (List Int)}{X Y:List Int}{d:Nat}(h:RedTo P H b X d Y) (i:gt b d=[]\/gt Y d=0):RedTo P H b X (d+1) Y:=
 ⟨h.vec,h.cos,λe j a=>by
  rcases Nat.lt_succ_iff_lt_or_eq.1 j with h1|h1
  ·exact h.zer e h1 a
  ·subst h1;exact i.elim (λh=>absurd h a) id⟩
theorem Grp.redTo_step {H:List Int->Prop}{b:List (List Int)}(I:Ind P H (gt b)) {X Y:List Int}{d:Nat}(l:Vec P.orders X) (j:d<P.orders.length) (m:gt b d≠[]) (h:RedTo P H b X d Y) :
  RedTo P H b X (d+1) (rMul P Y (pwZ P (gt b d) (-(gt Y d)))):=by
 obtain⟨p,k,m3⟩:=I.mem d j m;have a:=G.right_clear j h.vec k m3;refine⟨a.2.2,?_,λe q i => ?_⟩
 ·rw [<-G.ass (G.invV l) h.vec (G.pwZ_vec k.1 _)]
  exact I.sub.mul _ _ h.cos (I.sub.pwZ p _)
 ·rcases Nat.lt_succ_iff_lt_or_eq.1 q with h1|h1
  ·rw[a.2.1 e h1];exact h.zer e h1 i
  ·subst h1;exact a.1
omit G in
theorem RedTo.rep {H:List Int->Prop}{b:List (List Int)}{X Y:List Int}(h:RedTo P H b X P.orders.length Y):Rep P H (gt b) X Y:=⟨h.vec,h.cos,h.zer⟩
theorem Grp.rep_mem {H:List Int->Prop}{b:Nat->List Int}(I:Ind P H b) {X Y:List Int}(a:Vec P.orders X) (h:Rep P H b X Y):Y=zeros P.orders.length↔H X:=by
 have i:=G.invV a;constructor
 ·intro j
  have h1:=h.2.1;rw[j,G.grp.er _ i] at h1;have:=I.sub.inv _ h1;rwa [G.inv_inv a] at this
 ·intro hx
  refine G.rep_one I a h ⟨G.oneV,?_,λe _ _=>gt_replicate _ _⟩;rw[G.grp.er _ i];exact I.sub.inv _ hx
omit G in
theorem stripTo_zero {b:List (List Int)}{X:List Int}(a:Vec P.orders X):StripTo P b X 0 X:=⟨T_zero.2 a,λ_ _ R A=>⟨R,A⟩⟩
omit G in
theorem StripTo.skip {b:List (List Int)}{X Y:List Int}{d:Nat}(h:StripTo P b X d Y) (a:gt Y d=0):StripTo P b X (d+1) Y:=⟨h.vec.up a,h.inv⟩
theorem Grp.stripTo_step {b:List (List Int)}{X Y:List Int}{d:Nat}(l:d<P.orders.length) (p:gt b d≠[]) (a:T P d (gt b d)/\gt (gt b d) d=1) (r:gt Y d≠0) (h:StripTo P b X d Y) :
  StripTo P b X (d+1) (rMul P Y (pwZ P (gt b d) (-(gt Y d)))):=by
 have e:=G.right_clear l h.vec.1 a.1 a.2;have m:T P (d+1) (rMul P Y (pwZ P (gt b d) (-(gt Y d)))):=T.up ⟨e.2.2,λk hk=>by rw[e.2.1 k hk];exact h.vec.2 k hk⟩ e.1;have i:=G.pwZ_vec a.1.1 (-(gt Y d));refine⟨m,λQ q R A => ?_⟩;obtain⟨w,A1⟩:=h.inv Q q R A;refine⟨_,addInv_sift A1 l h.vec r p m (λK S h1 j => ?_) (λK S h1 j=>S.mul _ _ j (S.pwZ h1 _))⟩;have u:=S.mul _ _ j (S.inv _ (S.pwZ h1 (-(gt Y d))));rwa [G.ass h.vec.1 i (G.invV i),G.mul_inv i,G.grp.er _ h.vec.1] at u
theorem Grp.close_step {Q:List Int->Prop}{b q q':List (List Int)}{R:List Int->Prop}{y:List Int}(A:AddInv P Q (gt b) (y :: q) R) {d:Nat}(m:d<P.orders.length) (p:T P d y) (w:gt b d=[]) (r:b.length=P.orders.length)
  (k:Int) (i:0<=k) (hk:(k*gt y d)%gt P.orders d=1) (a:∀x,x∈q'↔x∈q\/x=y\/x=pw P (pw P y k.toNat) (gt P.orders d).toNat\/x∈comsR P b (pw P y k.toNat) P.orders.length) :
  ∃R',AddInv P Q (gt (b.set d (pw P y k.toNat))) q' R':=by
 obtain⟨z,hz1⟩:=G.lead_one m p k i hk;refine⟨_,G.addInv_insert A m p w z hz1 (λK S h=>S.pw h _) (λe u => ?_) (λx hx => ?_) (λx hx => ?_) (λe u j => .inr ?_)⟩
 ·by_cases h:e=d
  ·subst h;rw[if_pos rfl,gt_set_eq _ _ _ (by omega)]
  ·rw[if_neg h,gt_set_ne _ _ _ _ (λl=>h l.symm)]
 ·rcases (a x).1 hx with h|h|h|h
  ·exact .inl h
  ·exact .inr (.inl h)
  ·exact .inr (.inr (.inr (.inl h)))
  ·obtain ⟨e,h1,l,h3⟩:=mem_comsR.1 h
   exact .inr (.inr (.inr (.inr ⟨e,h1,l,.inr h3⟩)))
 ·rw [a]
  rcases hx with h|h|h
  ·exact .inl h
  ·exact .inr (.inl h)
  ·exact .inr (.inr (.inl h))
 ·rw [a]
  exact .inr (.inr (.inr (mem_comsR.2 ⟨e,u,j,rfl⟩)))
theorem Grp.fullTo_zero {r:Nat->List Int}{m:Nat}{X:List Int}(a:Vec P.orders X):FullTo P r m X m X:=
 ⟨a,λi h1 b=>by omega,λK S _=>by rw[G.inv_mul a];exact S.one,λ_ _=>rfl⟩
omit G in
theorem FullTo.skip {r:Nat->List Int}{m e:Nat}{X Y:List Int}(h:FullTo P r m X e Y) (j:r e=[]\/gt Y e=0):FullTo P r m X (e+1) Y:=
 ⟨h.vec,λi h1 k b=>by
  rcases Nat.lt_succ_iff_lt_or_eq.1 k with a|a
  ·exact h.zer i h1 a b
  ·subst a;exact j.elim (λh=>absurd h b) id,h.cos,h.old⟩
theorem Grp.fullTo_step {r:Nat->List Int}{m e:Nat}{X Y:List Int}(y:Vec P.orders X) (a:m<=e) (l:e<P.orders.length) (u:r e≠[]) (p:T P e (r e)/\gt (r e) e=1) (h:FullTo P r m X e Y) :
  FullTo P r m X (e+1) (rMul P Y (pwZ P (r e) (-(gt Y e)))):=by
 have b:=G.right_clear l h.vec p.1 p.2;refine⟨b.2.2,λi h1 z q => ?_,λK S w => ?_,λk hk=>by rw[b.2.1 k (hk e a l u)];exact h.old k hk⟩
 ·rcases Nat.lt_succ_iff_lt_or_eq.1 z with j|j
  ·rw[b.2.1 i j];exact h.zer i h1 j q
  ·subst j;exact b.1
 ·rw [<-G.ass (G.invV y) h.vec (G.pwZ_vec p.1.1 _)]
  exact S.mul _ _ (h.cos K S w) (S.pwZ (w e a l u) _)
omit G in
theorem FullTo.repTo {H:List Int->Prop}{b r:Nat->List Int}{d k:Nat}{X Y:List Int}(h:FullTo P r (d+1) X P.orders.length Y) (C:CanInv P H b r (d+1)) (hk:d+1+k=P.orders.length) :
  RepTo P (sq r k (d+1)) X (sq r k (d+1)).length Y:=by
 refine ⟨h.vec,λj l => ?_,λK S p=>h.cos K S (λi h1 m a=>p _ (mem_sq.2 ⟨i,h1,by omega,a,rfl⟩)),λj l=>h.old j (λi h1 m a=>by
  have:=l _ (mem_sq.2 ⟨i,h1,by omega,a,rfl⟩);rwa [C.dep h1 m a] at this)⟩
 obtain⟨e,h1,m,a,q⟩:=mem_sq.1 (gtMem l);rw[q,C.dep h1 (by omega) a];exact h.zer e h1 (by omega) a
end
theorem genP_or (P:Pr) (Q L:List Int->Prop):genP P (λx=>genP P Q x\/L x)=genP P (λx=>Q x\/L x):=
 funext λ_=>propext ⟨λh K S a=>h K S (λy hy=>hy.elim (λh=>h K S (λz b=>a z (.inl b))) (λh=>a y (.inr h))),
  λh K S a=>h K S (λy hy=>hy.elim (λh=>a y (.inl (genP_mem h))) (λh=>a y (.inr h)))⟩
theorem Grp.genP_cseq {P:Pr}(G:Grp P) {H:List Int->Prop}(S:Sub P H):genP P (λx=>x∈cseq P H)=H:=by
 have a:=G.seq_facts S;have b:∀y,y∈cseq P H->Vec P.orders y:=λy hy=>S.vec y (a.2.1 y hy);refine funext λx=>propext ⟨λh=>h H S a.2.1,λh => ?_⟩;exact elsP_sub (G.genP_sub b) (λz e=>genP_mem e) _ (Nat.le_refl _) x ((G.elsP_mem S a.1 a.2.1 a.2.2 x).2 h)
theorem Grp.subB {P:Pr}(G:Grp P) {u:List (List Int)}(h:SubB P u):Sub P (genP P (λx=>x∈u)):=G.genP_sub h.1
theorem Grp.subB_cseq {P:Pr}(G:Grp P) {H:List Int->Prop}(S:Sub P H):SubB P (cseq P H):=
 ⟨λx hx=>S.vec x ((G.seq_facts S).2.1 x hx),by rw[G.genP_cseq S]⟩
theorem flatMap_len' {α b:Type}(l:List α) (f:α->List b) (n:Nat) (h:∀x∈l,(f x).length=n):(l.flatMap f).length=l.length*n:=by
 induction l with
 | nil=>simp
 | cons a l e=>
  rw[List.flatMap_cons,List.length_append,h a (List.mem_cons_self ..),e (λx hx=>h x (List.mem_cons_of_mem _ hx)),List.length_cons,Nat.succ_mul];omega
theorem nodup_sub_len {α:Type} : ∀(l m:List α),l.Nodup->(∀x∈l,x∈m)->l.length<=m.length
 | [],m,_,_=>by simp
 | a :: l,m,hn,e=>by
  obtain⟨i,j,rfl⟩:=List.append_of_mem (e a (List.mem_cons_self ..));have b:=List.nodup_cons.1 hn
  have:=nodup_sub_len l (i++j) b.2 (λx hx=>by
   have h1:=e x (List.mem_cons_of_mem _ hx);rw[List.mem_append,List.mem_cons] at h1;rw[List.mem_append];rcases h1 with h1|h1|h1
   ·exact .inl h1
   ·subst h1;exact absurd hx b.1
   ·exact .inr h1)
  simp only[List.length_append,List.length_cons] at *;omega
end Go.Proofs.YtoakmefajbbggaaGreat
namespace Go.Proofs.YtoakmefajbbggaaGreat
open Go.RowKit
def prodU (P:Pr) (U:List (List Int)):Nat->Int
 | 0=>1
 | k+1=>prodU P U k*gt P.orders (dep (gt U k))
theorem prodU_le {P:Pr}(hP:Valid P) {U:List (List Int)}(e:SeqOk P U):∀k m,k<=U.length->(∀j,j<k->dep (gt U j)<m)->m<=P.orders.length->1<=prodU P U k/\prodU P U k<=prodTo P.orders m:=by
 intro k;induction k with
 | zero=>intro m _ _ l;exact⟨by simp[prodU],prodTo_pos m (λi p=>hP.pos i (by omega))⟩
 | succ k q=>
  intro m hk a l;have u:=a k (by omega);have b:k<U.length:=by omega
  obtain⟨h1,h2⟩:=q (dep (gt U k)) (by omega) (λj a=>e.2 j k a b) (by omega);have w:=hP.ord7 (dep (gt U k)) (by omega);have y:prodU P U k*gt P.orders (dep (gt U k))<=prodTo P.orders (dep (gt U k))*gt P.orders (dep (gt U k)):=Int.mul_le_mul_of_nonneg_right h2 (by omega);have r:prodTo P.orders (dep (gt U k)+1)<=prodTo P.orders m:=prodTo_mono _ _ (by omega) (λi p=>hP.pos i (by omega));have z:1*1<=prodU P U k*gt P.orders (dep (gt U k)):=Int.mul_le_mul h1 (by omega) (by omega) (by omega);simp only[prodTo] at r;simp only[prodU];exact⟨by omega,by omega⟩
theorem prodU_729 {P:Pr}(hP:Valid P) {U:List (List Int)}(a:SeqOk P U) (k:Nat) (hk:k<=U.length):1<=prodU P U k/\prodU P U k<=729:=by
 obtain⟨h1,h2⟩:=prodU_le hP a k P.orders.length hk (λj b=>(a.1 _ (gtMem (by omega))).2.1) (Nat.le_refl _);have:=hP.le729;exact⟨h1,by omega⟩
theorem sizeOf_ok (P:Pr) (hP:Valid P) (w:World) (p I:Value) (U:List (List Int)) (Q J:Nat->Prop) (K:PresP Q w p P) (L:Rows2 J w I U) (y:SeqOk P U) (hl:U.length<=100) :
  Calls Tryz.prog 82 #[p,I] w (Ret w λ_ v=>v=.int .i64 (prodU P U U.length)):=by
 have R:=hP.n6;obtain⟨pb,po,rfl⟩:=K.shape;obtain⟨ao,capo,hco0,A⟩:=K.ordAt;obtain⟨au,capu,rfl,_,_⟩:=Sl.shape L;have B:∀z∈U,dep z<z.length:=λz S=>by have:=y.1 z S;rw[this.1.1];exact this.2.1
 have M:=Lib.hid y;clear y;go_enter Tryz.func82,Tryz.ntmps82;go_wp2_with fail
 refine Calls.mono (pivots_ok _ U w J L B (by omega)) ?_;rintro e1 T ⟨pv,rfl,j,k⟩
 have m:∃V q,pv=.slice V U.length q:=by
  rcases k.form with⟨h1,l⟩|⟨g,cp,h1,_⟩
  ·have W:U.length=0:=by unfold depV at l;rw[List.map_eq_nil_iff] at l;rw[l];rfl
   exact⟨none,0,by rw[h1,W]⟩
  ·exact⟨_,_,by rw[h1];unfold depV;rw[List.length_map]⟩
 obtain⟨ap,capp,rfl⟩:=m;go_wp2;go_loopw [5,11] (λX C wr=>∃i:Nat,X=.int .i64 (prodU P U i)/\C=.int .i64 i/\i<=U.length/\T=wr) (λ_ C _=>U.length-(intOf C).toNat)
 case atStart=>exact⟨0,rfl,rfl,by omega,rfl⟩
 case round=>
  obtain⟨i,rfl,rfl,hi,rfl⟩:=hrel;by_cases a:i<U.length
  ·have N:(i:Int)<U.length:=by omega
   have r:gt (depV U) i=.int .i64 (dep (gt U i)):=by unfold depV;rw[gt_map _ _ _ a]
   have D:∃g,ap=some ⟨g,0,none⟩:=by
    rcases k.form with⟨h1,l⟩|⟨g,cp,h1,_⟩
    ·unfold depV at l;rw[List.map_eq_nil_iff] at l;rw[l] at a;simp at a
    ·simp only[Value.slice.injEq] at h1;exact⟨g,h1.1⟩
   obtain⟨gp,rfl⟩:=D;have u:=k.cell i (by unfold depV;rw[List.length_map];exact a);rw[r] at u;clear r;have e:prodU P U (i+1)=prodU P U i*gt P.orders (dep (gt U i)):=rfl;have E:=prodU_729 hP M.out (i+1) a;rw[e] at E;obtain⟨d,F⟩:∃d,d=dep (gt U i):=⟨_,rfl⟩;rw[<-F] at u e E;have G:d<P.orders.length:=by rw[F];exact(M.out.1 _ (gtMem a)).2.1
   clear F;have O:(d:Int)<P.orders.length:=by omega
   obtain⟨b,off,rfl,_,_,hco⟩:=Ints.at (A.ext j) d G;have Y:=j.cell hco0 (by simp);have hw:IntKind.i64.wrap (prodU P U i*gt P.orders d)=prodU P U i*gt P.orders d:=IntWalk.i64_in _ (by omega);have Z:=Lib.hid e;clear e E;go_wp2;go_roundw
   case rel=>exact⟨i+1,by rw[Z.out],by go_num,by omega,trivial⟩
   case measure=>simp[intOf];omega
  ·have H:i=U.length:=by omega
   subst H;go_wp2;go_ret;exact⟨_,rfl,j,rfl⟩
end Go.Proofs.YtoakmefajbbggaaGreat
namespace Go.Proofs.YtoakmefajbbggaaGreat
section
variable {P:Pr}(G:Grp P)
include G
theorem Grp.num_lt {x:List Int}(hx:Vec P.orders x):(num P x).toNat<(ordP P).toNat/\elAt P ((num P x).toNat:Int)=x:=by
 have a:=num_bd G.v hx;refine⟨by omega,?_⟩;rw[show(((num P x).toNat:Nat):Int)=num P x by omega];exact elAt_num G.v hx
theorem Grp.sub_closed {H:List Int->Prop}(h1:∀x,H x->Vec P.orders x) (l:H (zeros P.orders.length)) (p:∀x y,H x->H y->H (rMul P x y)):Sub P H:=by
 refine⟨h1,l,p,λx hx => ?_⟩;have a:=h1 x hx;obtain⟨M,hM,q⟩:=G.fin P.orders.length 0 x (by omega) (T_zero.2 a)
 have j:∀k,H (pw P x k):=λk=>by
  induction k with
  | zero=>exact l
  | succ k r=>exact p _ _ r hx
 obtain⟨m,rfl⟩:∃m,M=m+1:=⟨M-1,by omega⟩
 have e:rInv P x=pw P x m:=by
  have b:=G.invV a;have i:=G.pw_vec a m;rw[G.pw_succ' a] at q;rw[<-G.grp.er _ b,<-q,<-G.ass b a i,G.inv_mul a,G.grp.el _ i]
 rw[e];exact j m
def extP (P:Pr) (H:List Int->Prop) (x:List Int):List Int->Prop:=genP P (λy=>H y\/y=x)
end
def subLt (P:Pr) (u v:List (List Int)):Prop:=prodU P u u.length<prodU P v v.length\/(prodU P u u.length=prodU P v v.length/\cmpL u.flatten v.flatten<0)
theorem subLt_irrefl {P:Pr}{u:List (List Int)} : ¬subLt P u u:=by
 rintro(h|⟨_,h⟩)
 ·omega
 ·rw[(cmpL_zero _ _).2 rfl] at h;omega
theorem subLt_trans {P:Pr}{u v w:List (List Int)}(h:subLt P u v) (k:subLt P v w):subLt P u w:=by
 unfold subLt at *;rcases h with h|⟨h1,b⟩<;>rcases k with k|⟨i,k2⟩
 ·exact .inl (by omega)
 ·exact .inl (by omega)
 ·exact .inl (by omega)
 ·refine .inr ⟨by omega,?_⟩
  have e:=cmpL_le_trans u.flatten v.flatten w.flatten (by omega) (by omega);rcases Int.lt_or_eq_of_le e with a|a
  ·exact a
  ·rw [cmpL_zero] at a
   rw[a] at b;have:=cmpL_swap w.flatten v.flatten;omega
theorem sorted_one {α:Type}{r:α->α->Prop}(j:∀a,¬r a a) (q:∀a b c,r a b->r b c->r a c):∀ {l m:List α},l.Pairwise r->m.Pairwise r->(∀x,x∈l↔x∈m)->l=m
 | [],[],_,_,_=>rfl
 | [],b :: m,_,_,h=>by have:=(h b).2 (List.mem_cons_self ..);cases this
 | a :: l,[],_,_,h=>by have:=(h a).1 (List.mem_cons_self ..);cases this
 | a :: l,b :: m,hl,hm,h=>by
  have e:=List.pairwise_cons.1 hl;have i:=List.pairwise_cons.1 hm
  have k:a=b:=by
   rcases List.mem_cons.1 ((h a).1 (List.mem_cons_self ..)) with h1|h1
   ·exact h1
   ·rcases List.mem_cons.1 ((h b).2 (List.mem_cons_self ..)) with p|p
    ·exact p.symm
    ·exact absurd (q _ _ _ (e.1 b p) (i.1 a h1)) (j a)
  subst k;congr 1
  refine sorted_one j q e.2 i.2 (λx=>⟨λhx => ?_,λhx => ?_⟩)
  ·rcases List.mem_cons.1 ((h x).1 (List.mem_cons_of_mem _ hx)) with h1|h1
   ·subst h1;exact absurd (e.1 _ hx) (j _)
   ·exact h1
  ·rcases List.mem_cons.1 ((h x).2 (List.mem_cons_of_mem _ hx)) with h1|h1
   ·subst h1;exact absurd (i.1 _ hx) (j _)
   ·exact h1
section
variable {P:Pr}(G:Grp P)
include G
theorem Grp.elAtV {t:Nat}(_ht:t<(ordP P).toNat):Vec P.orders (elAt P t):=elAt_vec G.v _ (by omega)
end
section
variable {P:Pr}(G:Grp P)
include G
end
theorem flatten_inj {α:Type}{n:Nat}(e:0<n):∀ {u v:List (List α)},(∀x∈u,x.length=n)->(∀x∈v,x.length=n)->u.flatten=v.flatten->u=v
 | [],[],_,_,_=>rfl
 | [],b :: v,_,hv,h=>by
  have i:=hv b (List.mem_cons_self ..);have:=congrArg List.length h;simp only[List.flatten_nil,List.length_nil,List.flatten_cons,List.length_append] at this;omega
 | a :: u,[],hu,_,h=>by
  have ha:=hu a (List.mem_cons_self ..);have:=congrArg List.length h;simp only[List.flatten_nil,List.length_nil,List.flatten_cons,List.length_append] at this;omega
 | a :: u,b :: v,hu,hv,h=>by
  have ha:=hu a (List.mem_cons_self ..);have i:=hv b (List.mem_cons_self ..);rw[List.flatten_cons,List.flatten_cons] at h;obtain⟨h1,j⟩:=List.append_inj h (by omega);rw[h1,flatten_inj e (λx hx=>hu x (List.mem_cons_of_mem _ hx)) (λx hx=>hv x (List.mem_cons_of_mem _ hx)) j]
theorem subLt_total {P:Pr}(G:Grp P) {u v:List (List Int)}(b:SubB P u) (e:SubB P v) (a:u≠v) (i:¬subLt P u v):subLt P v u:=by
 unfold subLt at *;by_cases h1:prodU P u u.length=prodU P v v.length
 ·refine .inr ⟨h1.symm,?_⟩
  have l:¬cmpL u.flatten v.flatten<0:=λh=>i (.inr ⟨h1,h⟩)
  have m:cmpL u.flatten v.flatten≠0:=λh=>by
   rw[cmpL_zero] at h;by_cases p:P.orders.length=0
   ·have j:u=[]:=List.eq_nil_of_length_eq_zero (by have:=G.sub_len b;omega)
    have k:v=[]:=List.eq_nil_of_length_eq_zero (by have:=G.sub_len e;omega);exact a (j.trans k.symm)
   ·exact a (flatten_inj (n:=P.orders.length) (by omega) (λx hx=>(b.1 x hx).1) (λx hx=>(e.1 x hx).1) h)
  have:=cmpL_swap u.flatten v.flatten;omega
 ·refine .inl ?_
  have:¬prodU P u u.length<prodU P v v.length:=λh=>i (.inl h);omega
structure Ins (P:Pr) (L:List (List (List Int))) (u:List (List Int)) (k:Nat) (out:List (List (List Int))) (placed:Bool):Prop where
 new:∀j,j<k->gt L j≠u
 no:placed=false->out=L.take k/\∀j,j<k->¬subLt P u (gt L j)
 yes:placed=true->∃p,p<k/\out=L.take p++u :: (L.take k).drop p/\subLt P u (gt L p)/\∀j,j<p->¬subLt P u (gt L j)
theorem ins_end {P:Pr}(G:Grp P) {L:List (List (List Int))}{u:List (List Int)}(F:L.Pairwise (subLt P)) (H:∀v∈L,SubB P v) (J:SubB P u) {out:List (List (List Int))}{placed:Bool}(I:Ins P L u L.length out placed) :
  ∀R,R=(if placed then out else out++[u])->R.Pairwise (subLt P)/\∀v,v∈R↔v∈L\/v=u:=by
 rintro R rfl
 have k:∀v∈L,v≠u:=λv b=>by
  obtain⟨j,l,rfl⟩:=List.getElem_of_mem b;rw[<-gt_eq L j l];exact I.new j l
 cases placed with
 | false=>
  obtain⟨h1,h2⟩:=I.no rfl;rw[List.take_length] at h1;subst h1;rw[if_neg (by decide)];refine⟨List.pairwise_append.2 ⟨F,by simp,λv b w r => ?_⟩,λv=>by rw[List.mem_append,List.mem_singleton]⟩;rw[List.mem_singleton.1 r];obtain⟨j,l,hje⟩:=List.getElem_of_mem b;have i:gt out j=v:=by rw[gt_eq out j l];exact hje
  exact subLt_total G J (H v b) (λe=>k v b e.symm) (by rw[<-i];exact h2 j l)
 | true=>
  obtain⟨p,hp,h1,h2,h3⟩:=I.yes rfl;rw[List.take_length] at h1;rw[if_pos rfl,h1];have y:p<L.length:=hp;have a:L.take p++L.drop p=L:=List.take_append_drop p L;have m:L.drop p=gt L p :: L.drop (p+1):=by rw[List.drop_eq_getElem_cons y,gt_eq L p y]
  have z:=F;rw[<-a] at z;obtain⟨K,B,q3⟩:=List.pairwise_append.1 z
  have C:∀w∈L.drop p,subLt P u w:=λw r=>by
   rw[m] at r B;rcases List.mem_cons.1 r with rfl|q
   ·exact h2
   ·exact subLt_trans h2 ((List.pairwise_cons.1 B).1 w q)
  have D:∀v∈L.take p,subLt P v u:=λv b=>by
   have A:v∈L:=List.mem_of_mem_take b;obtain⟨j,l,hje⟩:=List.getElem_of_mem b;have E:j<p:=by rw[List.length_take] at l;omega
   have i:gt L j=v:=by
    rw[gt_eq L j (by omega),<-hje,List.getElem_take]
   exact subLt_total G J (H v A) (λe=>k v A e.symm) (by rw[<-i];exact h3 j E)
  refine⟨List.pairwise_append.2 ⟨K,List.pairwise_cons.2 ⟨C,B⟩,λv b w r => ?_⟩,λv => ?_⟩
  ·rcases List.mem_cons.1 r with rfl|q
   ·exact D v b
   ·exact q3 v b w q
  ·rw [List.mem_append,List.mem_cons]
   constructor
   ·rintro (h|h|h)
    ·exact .inl (List.mem_of_mem_take h)
    ·exact .inr h
    ·exact .inl (List.mem_of_mem_drop h)
   ·rintro (h|h)
    ·rw [<-a] at h
     exact(List.mem_append.1 h).imp id .inr
    ·exact .inr (.inl h)
end Go.Proofs.YtoakmefajbbggaaGreat
