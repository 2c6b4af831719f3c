/- Merged from templates. -/
import Derived.Test.YtdcobapnlpeaaaaGreatY12
set_option maxRecDepth 100000
set_option maxHeartbeats 8000000
namespace Go.Proofs.YtdcobapnlpeaaaaGreat
open Go.RowKit
theorem l10OneO_ok (o:List Int) (w:World) (vo vp vc:Value) (S:Nat->Prop) (i:Ints S w vo o) (k:o.length<=6) :
  Calls Tryz.prog 212 #[.agg #[vo,vp,vc]] w (Ret w λw' v=>Own w.heap.size w' v (zeros o.length)):=by
 obtain⟨g,a,rfl,_,_⟩:=i.shape;have j:(w.alloc (.cells #[.slice g o.length a,vp,vc] 28)).cell? ⟨w.heap.size,0,none⟩=some (.slice g o.length a):=by rw[World.cell?_alloc_at _ _ _ _ rfl];rfl
 go_enter Tryz.func212,Tryz.ntmps212;go_wp2_with (at_make;refine wp_make_ints rfl _ _ rfl (w.heap.size+1) o.length (w.heap.size+1) (by simp) _ rfl rfl rfl (by omega) (by simp) ?_;intro l b e _)
 go_ret;exact⟨_,rfl,grown_trans (World.grownBy_alloc _ _ _) e,b.weak (by omega)⟩
theorem l10AtO_ok (o:List Int) (hP:Valid (shapeP o)) (w:World) (vo vp vc:Value) (m:Int) (S:Nat->Prop) (B:Ints S w vo o) (hm:0<=m) (ab:m<=1000000000) :
  Calls Tryz.prog 107 #[.agg #[vo,vp,vc],.int .i64 m] w (Ret w λw' v=>Own w.heap.size w' v (elAt (shapeP o) m)):=by
 have K:o.length<=6:=hP.n6;have b:∀i,i<o.length->2<=gt o i/\gt o i<=7:=λi J=>hP.ord7 i J;have hinv:∀k,k<=o.length->(elTo o o.length m k).1.length=o.length/\0<=(elTo o o.length m k).2/\(elTo o o.length m k).2<=m:=λk hk=>⟨elTo_len _ _ _ _,(elTo_inv hP m hm k hk).2⟩;have U:=Lib.hid (And.intro b hinv);clear b hinv hP;obtain⟨u,a,rfl,_,_⟩:=B.shape;have C:Ext w (w.alloc (.cells #[.slice u o.length a,vp,vc] 28)):=World.grownBy_alloc _ _ _;have q:(w.alloc (.cells #[.slice u o.length a,vp,vc] 28)).cell? ⟨w.heap.size,0,none⟩=some (.slice u o.length a):=by rw[World.cell?_alloc_at _ _ _ _ rfl];rfl
 have D:(w.alloc (.cells #[.slice u o.length a,vp,vc] 28)).cell? ⟨w.heap.size,1,none⟩=some vp:=by rw[World.cell?_alloc_at _ _ _ _ rfl];rfl
 have E:(w.alloc (.cells #[.slice u o.length a,vp,vc] 28)).cell? ⟨w.heap.size,2,none⟩=some vc:=by rw[World.cell?_alloc_at _ _ _ _ rfl];rfl
 have F:=B.ext C;have G:(w.alloc (.cells #[.slice u o.length a,vp,vc] 28)).heap.size=w.heap.size+1:=by simp
 go_enter Tryz.func107,Tryz.ntmps107;go_wp2_with fail
 have HS:=Lib.hid G;clear G;clear D E;have H:=Lib.hid q;clear q;generalize N:w.alloc (.cells #[.slice u o.length a,vp,vc] 28)=w0 at *;clear N;refine Calls.mono (l10OneO_ok o w0 _ _ _ S F K) ?_;rintro e1 w1 ⟨r,rfl,hg1,e⟩;have y:=e.ints (by simp[zeros];omega);obtain⟨O,l,rfl,_,_⟩:=y.shape;have p:(zeros o.length).length=o.length:=by simp[zeros]
 rw[p] at y;have e:Own w0.heap.size w1 (.slice O o.length l) (zeros o.length):=by rw[p] at e;exact e
 simp only[p];clear p y;go_wp2
 go_loopw [1,6] (λmv i wr=>∃k:Nat,i=.int .i64 ((o.length:Int)-1-k)/\mv=.int .i64 (elTo o o.length m k).2/\k<=o.length/\Ext w0 wr /\
   Own w0.heap.size wr (.slice O o.length l) (elTo o o.length m k).1) (λ_ i _=>(intOf i+1).toNat)
 case atStart=>exact⟨0,by simp,rfl,by omega,hg1,e⟩
 case round=>
  clear e;obtain⟨k,rfl,rfl,hk,hg,hO⟩:=hrel;obtain⟨P,hm0,hm1⟩:=U.out.2 k hk;by_cases Q:k<o.length
  ·obtain ⟨g,capg,z,hgb,hgs⟩:=hO.form (by omega)
   rw[P] at z;obtain⟨rfl,_⟩:O=some ⟨g,0,none⟩/\l=capg:=by cases z;exact⟨rfl,rfl⟩
   clear z;obtain⟨b2,off2,rfl,_,_,ij⟩:=Ints.at F (o.length-1-k) (by omega);have af:=hg.cell H.out (by simp);have ag:=hg.cell ij (by simp);have b:=U.out.1 (o.length-1-k) (by omega);have hc:=hO.cell (o.length-1-k) (by omega);have hf:=hO.frozen (o.length-1-k);have n:elTo o o.length m (k+1)=((elTo o o.length m k).1.set (o.length-1-k) ((elTo o o.length m k).2%gt o (o.length-1-k)),(elTo o o.length m k).2/gt o (o.length-1-k)):=rfl;have I:=Lib.hid n;clear n;obtain⟨R,hg2⟩:=hO.store (o.length-1-k) ((elTo o o.length m k).2%gt o (o.length-1-k));have A:Ext w0 (wr.setCell ⟨g,o.length-1-k,none⟩ (.int .i64 ((elTo o o.length m k).2%gt o (o.length-1-k)))):=grown_own hg hg2 (λj hj Q=>by cases hj;omega);have V:=A.cell H.out (by simp);have W:=A.cell ij (by simp);clear ij P;have X:((o.length:Int)-1-k).toNat=o.length-1-k:=by omega
   generalize J:o.length-1-k=i at *;generalize (elTo o o.length m k).1=L at *;generalize (elTo o o.length m k).2=M at *;have Y:2<=gt o i:=b.1;have Z:gt o i<=7:=b.2;have HI:=Lib.hid J;clear J b;go_wp2;go_roundw
   case rel=>exact⟨k+1,by congr 1;omega,by rw[I.out],by omega,A,by rw[I.out];exact R⟩
   case measure=>simp[intOf];omega
  ·have T:k=o.length:=by omega
   subst T;clear P;go_wp2;go_ret;exact⟨_,rfl,grown_trans C hg,hO.weak (by have:=HS.out;omega)⟩
theorem l12Orders_ok (P:Pr) (hP:Valid P) (w:World) (pv O:Value) (U:List (List Int)) (Z Su:Nat->Prop) (E:PresV Z w pv P) (F:Rows2 Su w O U) (Q:SeqOk P U) (hl:U.length<=100) :
  Calls Tryz.prog 298 #[pv,O] w (Ret w λw' v=>Own w.heap.size w' v (ordsU P U)):=by
 have ab:=hP.n6;obtain⟨vo,vp,vc,rfl,h3⟩:=E;have k:=PresP.box h3 28;have l:Ext w (w.alloc (.cells #[vo,vp,vc] 28)):=World.grownBy_alloc _ _ _;have G:=Rows2.ext F l;obtain⟨ao,capo,dL,hoi⟩:=k.ordAt;obtain⟨au,capu,rfl,_,_⟩:=Sl.shape F;have m:(w.alloc (.cells #[vo,vp,vc] 28)).heap.size=w.heap.size+1:=by simp
 have n:=ordsU_len P U;have B:=Lib.hid (And.intro Q n);clear Q n k F;go_enter Tryz.func298,Tryz.ntmps298;go_wp2;have R:=Lib.hid m;clear m;generalize H:w.alloc (.cells #[vo,vp,vc] 28)=w0 at *;clear H;go_loopw [5,6] (λov I wr=>∃(i:Nat) (v4:Value),v4=ov/\I=.int .i64 i/\i<=U.length/\Ext w0 wr/\Own w0.heap.size wr v4 ((ordsU P U).take i)) (λ_ I _=>U.length-(intOf I).toNat)
 case atStart=>exact⟨0,_,rfl,rfl,by omega,World.grownBy_alloc _ _ _,by rw[<-R.out];exact World.ownsRow_lit w0 #[] 0 (Nat.le_refl _) (by decide) rfl⟩
 case round=>
  obtain⟨i,v4,rfl,rfl,hi,S,hO⟩:=hrel;by_cases a:i<U.length
  ·have T:(i:Int)<U.length:=by omega
   obtain⟨b,off,a2,p,rfl,_,_,J,V⟩:=Rows2.at G i a;have e:(ordsU P U).take (i+1)=(ordsU P U).take i++[gt P.orders (dep (gt U i))]:=by rw[take_succ_gt _ i (by rw[B.out.2];exact a),ordsU_at P U i a]
   obtain⟨z,C⟩:∃z,z=gt U i:=⟨_,rfl⟩;rw[<-C] at J V e;obtain⟨d,D⟩:∃d,d=dep z:=⟨_,rfl⟩;rw[<-D] at e;have K:d<P.orders.length:=by rw[D,C];exact(B.out.1.1 _ (gtMem a)).2.1
   have q:((ordsU P U).take i).length<=1000000:=by rw[List.length_take];omega
   have W:=Lib.hid (And.intro D (And.intro C q));clear D C q;have X:(d:Int)<P.orders.length:=by omega
   obtain⟨Y,oo,rfl,_,_,hcd⟩:=Ints.at hoi d K;have L:=Lib.hid e;clear e;have e1:∀w',Ext w0 w'->w'.cell? ⟨w.heap.size,0,none⟩=some (.slice (some ⟨Y,oo,none⟩) P.orders.length capo):=λw' h=>h.cell dL (by simp);have e2:∀w',Ext w0 w'->w'.cell? ⟨b,off+i,none⟩=some (.slice a2 z.length p):=λw' h=>h.cell J (by simp);have e3:∀w',Ext w0 w'->w'.cell? ⟨Y,oo+d,none⟩=some (.int .i64 (gt P.orders d)):=λw' h=>h.cell hcd (by simp);clear J hcd;go_wp2
   go_region_held3 (λw'=>Ext w0 w') (first|exact grown_trans S (grown_drew _ _)|assumption|exact grown_trans g (World.grownBy_alloc _ _ _))
    (first
     | (go_at_call 289;refine Calls.mono (Calls.rel2 (w0:=w0) (by assumption) (l12Depth_ok _ z _ Any (Ints.sub (Ints.ext V (by assumption)) (λ_ _ _=>trivial)))) ?_;rintro eE wE ⟨vE,rfl,g,r,gF,u⟩;rw[<-W.out.1] at u;subst u)
     | (refine step_app_int rfl _ _ rfl w0.heap.size _ ((ordsU P U).take i) (gt P.orders d) rfl wE (hO.ext0 (grown_trans (grown_drew _ _) r)) rfl rfl W.out.2.2 g.size ?_;intro v5 w5 y M;have A:Ext w0 w5:=grown_own g M (λj hj a=>by have:=(hO.lt j hj).1;omega)))
   clear e1 e2 e3;rw[<-L.out] at y;go_wp2;go_roundw
   case rel=>exact⟨i+1,v5,rfl,by go_num,by omega,A,y⟩
   case measure=>simp[intOf];omega
  ·have N:i=U.length:=by omega
   subst N;rw[List.take_of_length_le (by rw[B.out.2];exact Nat.le_refl _)] at hO;obtain⟨az,capz,fk,_,_⟩:=(hO.ints (by rw[B.out.2];omega)).shape;subst fk;go_wp2;go_ret;exact⟨_,rfl,grown_trans l S,hO.weak (by have:=R.out;omega)⟩
theorem l12Product_ok (P:Pr) (G:Grp P) (w:World) (pv V W:Value) (U:List (List Int)) (A:List Int) (Sp Su Sa:Nat->Prop) (J:PresV Sp w pv P) (K:Rows2 Su w V U) (ha:Ints Sa w W A) (X:∀z∈U,Vec P.orders z) (hl:U.length<=A.length)
  (Y:∀i,i<U.length->0<=gt A i/\gt A i<=1000) :
  Calls Tryz.prog 299 #[pv,V,W] w (Ret w λw' v=>Own w.heap.size w' v (prodR P U A U.length)):=by
 have hP:=G.v;have ag:=hP.n6;obtain⟨vo,vp,vc,rfl,h3⟩:=J;have n:=PresP.box h3 28;have b:Ext w (w.alloc (.cells #[vo,vp,vc] 28)):=World.grownBy_alloc _ _ _;have L:=Rows2.ext K b;have M:=ha.ext b;obtain⟨au,capu,rfl,_,_⟩:=Sl.shape K;obtain⟨aa,capa,rfl,_,_⟩:=ha.shape;have p:(w.alloc (.cells #[vo,vp,vc] 28)).heap.size=w.heap.size+1:=by simp
 obtain⟨N,dI,dG,_,_,O,q,u,e⟩:=n.at;simp only[Nat.zero_add] at q u;have Q:=Lib.hid (And.intro X Y);clear X Y n K ha;go_enter Tryz.func299,Tryz.ntmps299;go_wp2_with fail
 have Z:=Lib.hid p;clear p;generalize R:w.alloc (.cells #[vo,vp,vc] 28)=w0 at *;clear R;refine Calls.mono (l10One_ok P hP w0 _ Any ⟨_,_,_,rfl,e⟩) ?_;rintro e1 w1 ⟨r,rfl,hg1,ho1⟩;go_wp2;go_loopw [7,8] (λov S wr=>∃i:Nat,S=.int .i64 i/\i<=U.length/\Ext w0 wr/\Own w.heap.size wr ov (prodR P U A i)) (λ_ S _=>U.length-(intOf S).toNat)
 case atStart=>exact⟨0,rfl,by omega,hg1,ho1.weak (by have:=Z.out;omega)⟩
 case round=>
  clear ho1;obtain⟨i,rfl,hi,a,hO⟩:=hrel;have g:=G.prodR_vec Q.out.1 A i hi;have y:(prodR P U A i).length=P.orders.length:=g.1;have B:=hO.ints (by omega);obtain⟨ay,capy,gK,_,_⟩:=B.shape;subst gK;by_cases j:i<U.length
  ·have ac:(i:Int)<U.length:=by omega
   have ai:(i:Int)<A.length:=by omega
   obtain⟨bb,off,a2,C,rfl,_,_,hc,hr⟩:=Rows2.at (Rows2.ext L a) i j;obtain⟨ba,oa,rfl,_,_,hca⟩:=Ints.at (M.ext a) i (by omega);have k:=Q.out.1 _ (gtMem j);have D:=Q.out.2 i j;have E:prodR P U A (i+1)=rMul P (prodR P U A i) (pwZ P (gt U i) (gt A i)):=rfl;have l:=G.pwZ_vec k (gt A i);have F:(pwZ P (gt U i) (gt A i)).length<=6:=by rw[l.1];omega
   have m:=Lib.hid (And.intro k (And.intro l (And.intro F (And.intro g (And.intro D E)))));clear k l F g D E y;have e1:∀w',Ext wr w'->w'.cell? ⟨w.heap.size,0,none⟩=some N:=λw' h=>(grown_trans a h).cell O (by simp);have e2:∀w',Ext wr w'->w'.cell? ⟨w.heap.size,1,none⟩=some dI:=λw' h=>(grown_trans a h).cell q (by simp);have e3:∀w',Ext wr w'->w'.cell? ⟨w.heap.size,2,none⟩=some dG:=λw' h=>(grown_trans a h).cell u (by simp);have e4:∀w',Ext wr w'->w'.cell? ⟨bb,off+i,none⟩=some (.slice a2 (gt U i).length C):=λw' h=>h.cell hc (by simp);have e5:∀w',Ext wr w'->w'.cell? ⟨ba,oa+i,none⟩=some (.int .i64 (gt A i)):=λw' h=>h.cell hca (by simp);clear hc hca;go_wp2
   go_region_held3 (λw'=>Ext wr w') (first|exact grown_drew _ _|assumption)
    (first
     | (go_at_call 106;refine Calls.mono (Calls.rel (w0:=wr) (by assumption) (l10Pow_ok P G _ _ _ (gt U i) _ Any Any ⟨_,_,_,rfl,Pres3.ext (Pres3.ext e a) (by assumption)⟩ (Ints.sub (Ints.ext hr (by assumption)) (λ_ _ _=>trivial)) m.out.1 (by have:=m.out.2.2.2.2.1;omega))) ?_;rintro eA wA ⟨vA,rfl,dR,eW,gw⟩;have H:=gw.ints (by have:=m.out.2.2.1;omega))
     | (go_at_call 240;refine Calls.mono (Calls.rel (w0:=wr) (by assumption) (l08Mul_ok P hP _ _ _ _ (prodR P U A i) _ Any Any Any ⟨_,_,_,rfl,Pres3.ext (Pres3.ext e a) (by assumption)⟩ (Ints.sub (Ints.ext B (by assumption)) (λ_ _ _=>trivial)) H m.out.2.2.2.1 m.out.2.1)) ?_;rintro eB wB ⟨vB,rfl,hgB,hsB,I⟩))
   clear e1 e2 e3 e4 e5;rw[<-m.out.2.2.2.2.2] at I;go_wp2;go_roundw
   case rel=>exact⟨i+1,by go_num,by omega,grown_trans a hgB,I.weak (by have:=a.size;have:=Z.out;omega)⟩
   case measure=>simp[intOf];omega
  ·have T:i=U.length:=by omega
   subst T;clear y;go_wp2;go_ret;exact⟨_,rfl,grown_trans b a,hO⟩
def markAt (N:Nat) (f:Nat->Nat):Nat->List Bool
 | 0=>List.replicate N false
 | k+1=>(markAt N f k).set (f k) true
theorem markAt_len (N:Nat) (f:Nat->Nat) (k:Nat):(markAt N f k).length=N:=by
 induction k with
 | zero=>simp[markAt]
 | succ k a=>simp only[markAt,List.length_set];exact a
theorem markAt_true (N:Nat) (f:Nat->Nat) (k t:Nat) (a:t<N):gt (markAt N f k) t=true↔∃j,j<k/\f j=t:=by
 induction k with
 | zero=>simp[markAt,gt,a]
 | succ k b=>
  simp only[markAt];by_cases e:f k=t
  ·rw [e,gt_set_eq _ _ _ (by rw[markAt_len];exact a)]
   exact⟨λ_=>⟨k,by omega,e⟩,λ_=>rfl⟩
  ·rw [gt_set_ne _ _ _ _ e,b]
   exact ⟨λ⟨j,h1,h2⟩=>⟨j,by omega,h2⟩,λ⟨j,h1,h2⟩=>by
    rcases Nat.lt_succ_iff_lt_or_eq.1 h1 with h|h
    ·exact⟨j,h,h2⟩
    ·subst h;exact absurd h2 e⟩
def prodN (P:Pr) (U:List (List Int)) (k:Nat):List Int:=prodR P U (elAt (shapeP (ordsU P U)) (k:Int)) U.length
theorem Grp.marks_elems {P:Pr}(G:Grp P) {H:List Int->Prop}(S:Sub P H) (t:Nat) (e:t<(ordP P).toNat) :
  gt (markAt (ordP P).toNat (λk=>(num P (prodN P (cseq P H) k)).toNat) (prodU P (cseq P H) (cseq P H).length).toNat) t=true↔H (elAt P (t:Int)):=by
 have g:=λz i=>S.vec z ((G.seq_facts S).2.1 z i);have a:∀k,Vec P.orders (prodN P (cseq P H) k):=λk=>G.prodR_vec g _ _ (Nat.le_refl _);rw[markAt_true _ _ _ _ e,G.mem_prods S];constructor
 ·rintro ⟨j,hj,h⟩
  have n:=num_bd G.v (a j);refine⟨(j:Int),by omega,by omega,?_⟩;have b:num P (prodN P (cseq P H) j)=(t:Int):=by omega
  rw[<-b,elAt_num G.v (a j)];rfl
 ·rintro ⟨m,h1,b,h3⟩
  refine⟨m.toNat,by omega,?_⟩
  have l:prodN P (cseq P H) m.toNat=elAt P (t:Int):=by
   unfold prodN;rw[show((m.toNat:Nat):Int)=m by omega];exact h3.symm
  rw[l,num_elAt G.v _ (by omega) (by omega)];omega
noncomputable def elemsTo (P:Pr) (H:List Int->Prop) (k:Nat):List (List Int):=by
 classical exact(List.range k).filterMap (λt:Nat=>if H (elAt P (t:Int)) then some (elAt P (t:Int)) else none)
theorem elemsTo_succ (P:Pr) (H:List Int->Prop) (k:Nat):elemsTo P H (k+1)=elemsTo P H k++(by classical exact if H (elAt P (k:Int)) then [elAt P (k:Int)] else []):=by
 unfold elemsTo;rw[List.range_succ,List.filterMap_append];congr 1
 by_cases h:H (elAt P (k:Int))<;>simp[h]
theorem elemsTo_all (P:Pr) (H:List Int->Prop):elemsTo P H (ordP P).toNat=elemsIn P H:=by
 unfold elemsTo elemsIn;rfl
theorem elemsTo_len (P:Pr) (H:List Int->Prop) (k:Nat):(elemsTo P H k).length<=k:=by
 unfold elemsTo;have:=List.length_filterMap_le (λt:Nat=>by classical exact(if H (elAt P (t:Int)) then some (elAt P (t:Int)) else none)) (List.range k);rw[List.length_range] at this;exact this
theorem l12Elements_ok (P:Pr) (G:Grp P) (w:World) (pv uv:Value) (H:List Int->Prop) (Sp Su:Nat->Prop) (S:Sub P H) (a6:PresV Sp w pv P) (hu:Rows2 Su w uv (cseq P H)) :
  Calls Tryz.prog 254 #[pv,uv] w (Ret w λw' v=>RowsO w.heap.size w' v (elemsIn P H)):=by
 have hP:=G.v;have bJ:=hP.n6;have br:ordP P<=729:=hP.le729;have bs:=hP.ordP_pos;have hl:=G.cseq_len S;have B:=(G.seq_facts S).1;have af:∀z∈cseq P H,Vec P.orders z:=λz hz=>S.vec z ((G.seq_facts S).2.1 z hz);have Q:=G.marks_elems S;obtain⟨U,hU⟩:∃U,U=cseq P H:=⟨_,rfl⟩;rw[<-hU] at hl B af Q hu;have a8:=prodU_729 hP B U.length (Nat.le_refl _);have ag:=ordsU_len P U
 have u:Valid (shapeP (ordsU P U)):=by
  refine shapeP_valid (by omega) (λi hi => ?_) ?_
  ·rw [ordsU_at P U i (by omega)]
   exact hP.ord _ (B.1 _ (gtMem (by omega))).2.1
  ·rw[ag,prodTo_ordsU P U U.length (Nat.le_refl _)];exact a8.2
 obtain⟨vo,vp,vc,rfl,h3⟩:=a6;have aB:=PresP.box h3 28;have aC:Ext w (w.alloc (.cells #[vo,vp,vc] 28)):=World.grownBy_alloc _ _ _;have ah:=Rows2.ext hu aC;have D:(w.alloc (.cells #[vo,vp,vc] 28)).heap.size=w.heap.size+1:=by simp
 obtain⟨au,capu,rfl,_,_⟩:=Sl.shape hu;obtain⟨aD,dI,dG,_,_,R,E,F,dy⟩:=aB.at;simp only[Nat.zero_add] at E F;have T:∀w',Ext (w.alloc (.cells #[vo,vp,vc] 28)) w'->w'.cell? ⟨w.heap.size,0,none⟩=some aD/\w'.cell? ⟨w.heap.size,1,none⟩=some dI/\w'.cell? ⟨w.heap.size,2,none⟩=some dG:=λw' h=>⟨h.cell R (by simp),h.cell E (by simp),h.cell F (by simp)⟩;have HB:=Lib.hid T;clear T;have hE:=l12Order_ok P hP (w.alloc (.cells #[vo,vp,vc] 28)) _ _ U Any Su ⟨_,_,_,rfl,dy⟩ ah B (by omega);have I:=Lib.hid (And.intro B (And.intro af (And.intro u (And.intro hU ag))));clear B af u hU ag aB hu;go_enter Tryz.func254,Tryz.ntmps254;go_wp2_with fail
 have HS:=Lib.hid D;clear D R E F;generalize a':w.alloc (.cells #[vo,vp,vc] 28)=w0 at *;clear a';refine Calls.mono hE ?_;rintro e1 w1 ⟨v1,rfl,hg1,rfl⟩;clear hE;obtain⟨n,hb1,hb2⟩:=HB.out w1 hg1;go_wp2_with fail
 clear n hb1 hb2;refine Calls.mono (l10Order_ok w1 _ P Any hP ⟨_,_,_,rfl,Pres3.ext dy hg1⟩) ?_;rintro e2 l ⟨v2,rfl,hg2,rfl⟩;have y:=grown_trans hg1 hg2;obtain⟨n,hb1,hb2⟩:=HB.out l y;have bz:=hg1.size;have bA:=hg2.size;go_wp2_with (first|(at_make;refine wp_make_bools rfl _ _ rfl l.heap.size (ordP P).toNat l.heap.size rfl (ordP P) rfl rfl (by omega) (by omega) (Nat.le_refl _) ?_;intro w3 aF ai bB;have aG:=HB.out w3 (grown_trans y ai);obtain⟨R,E,F⟩:=aG)|fail)
 clear n hb1 hb2 R E F;have J:=grown_trans y ai;refine Calls.mono (l12Orders_ok P hP w3 _ _ U Any Su ⟨_,_,_,rfl,Pres3.ext dy J⟩ (Rows2.ext ah J) I.out.1 (by omega)) ?_;rintro e4 p ⟨ov,rfl,V,W⟩;have aH:=W.ints (by rw[I.out.2.2.2.2];omega);obtain⟨g,a,ig,_,_⟩:=aH.shape;subst ig;have bE:=grown_trans J V;have bM:w.heap.size<l.heap.size:=by have:=HS.out;omega
 have bN:w3.heap.size<=p.heap.size:=V.size;have bO:l.heap.size≠p.heap.size:=by omega
 have aj:Ext p (p.alloc (.cells #[.slice g (ordsU P U).length a,.slice none 0 0,.slice none 0 0] 28)):=World.grownBy_alloc _ _ _
 have ak:∀k,k<3->(p.alloc (.cells #[.slice g (ordsU P U).length a,.slice none 0 0,.slice none 0 0] 28)).cell? ⟨p.heap.size,k,none⟩=some (gt [Value.slice g (ordsU P U).length a,.slice none 0 0,.slice none 0 0] k):=λk hk=>by
  rw[World.cell?_alloc_at _ _ _ _ rfl];rcases(show k=0\/k=1\/k=2 by omega) with rfl|rfl|rfl<;>rfl
 have ba:Ints (λk=>w3.heap.size<=k) (p.alloc (.cells #[.slice g (ordsU P U).length a,.slice none 0 0,.slice none 0 0] 28)) (.slice g (ordsU P U).length a) (ordsU P U):=(ints_of_own W (by rw[I.out.2.2.2.2];omega) (λk hk=>(W.lt k hk).1)).ext aj;have al:=(aF.ext0 V).ext0 aj;have aI:=grown_trans ai (grown_trans V aj);have aa:(p.alloc (.cells #[.slice g (ordsU P U).length a,.slice none 0 0,.slice none 0 0] 28)).heap.size=p.heap.size+1:=by simp
 have bP:=Lib.hid aa;clear aa;go_wp2_with fail
 generalize bb:p.alloc (.cells #[.slice g (ordsU P U).length a,.slice none 0 0,.slice none 0 0] 28)=w5 at *;clear bb W aH aF;obtain⟨N,hN⟩:∃N,N=(ordP P).toNat:=⟨_,rfl⟩;obtain⟨f,hf⟩:∃f:Nat->Nat,f=λk=>(num P (prodN P U k)).toNat:=⟨_,rfl⟩;rw[<-hf,<-hN] at Q;have HN:=Lib.hid (And.intro hf (And.intro Q hN));clear hf Q;rw[<-hN] at al ⊢;have aJ:(N:Int)=ordP P:=by omega
 clear hN;have X:=Lib.hid aJ;clear aJ;have aK:BOwn l.heap.size w5 (.slice (some ⟨l.heap.size,0,none⟩) N N) (markAt N f 0):=al;clear al;go_loopw [8] (λkv wr=>∃k:Nat,kv=.int .i64 k/\(k:Int)<=prodU P U U.length/\w5.grownBy wr (some l.heap.size)/\BOwn l.heap.size wr (.slice (some ⟨l.heap.size,0,none⟩) N N) (markAt N f k)) (λkv _=>(prodU P U U.length).toNat-(intOf kv).toNat)
 case atStart=>exact⟨0,rfl,by omega,grown_refl _ _,aK⟩
 case round=>
  clear aK;obtain⟨k,rfl,hk,q,hM⟩:=hrel;have aL:Ext l wr:=grown_own aI q (λj hj be=>by cases hj;omega);have b:=grown_trans y aL;by_cases be:(k:Int)<prodU P U U.length
  ·have bQ:(k:Int)<=729:=by omega
   have bR:w5.heap.size<=wr.heap.size:=q.size;have bf:=HB.out wr b;obtain⟨n,hb1,hb2⟩:=bf;have D:wr.cell? ⟨p.heap.size,0,none⟩=some (.slice g (ordsU P U).length a):=q.cell (ak 0 (by omega)) (by simp;omega);have aM:wr.cell? ⟨p.heap.size,1,none⟩=some (.slice none 0 0):=q.cell (ak 1 (by omega)) (by simp;omega);have ab:wr.cell? ⟨p.heap.size,2,none⟩=some (.slice none 0 0):=q.cell (ak 2 (by omega)) (by simp;omega);have bg:Ints Any wr (.slice g (ordsU P U).length a) (ordsU P U):=Ints.mono ba (frame_of q (λj hj _=>⟨trivial,λe=>by cases e;omega⟩));have am:=elAt_vec I.out.2.2.1 (k:Int) (by omega);have K:(elAt (shapeP (ordsU P U)) (k:Int)).length=U.length:=am.1.trans I.out.2.2.2.2
   have aN:∀i,i<U.length->0<=gt (elAt (shapeP (ordsU P U)) (k:Int)) i/\gt (elAt (shapeP (ordsU P U)) (k:Int)) i<=1000:=λi hi=>by
    have h1:0<=gt (elAt (shapeP (ordsU P U)) (k:Int)) i/\gt (elAt (shapeP (ordsU P U)) (k:Int)) i<gt (ordsU P U) i:=am.2 i (by show i<(ordsU P U).length;rw[I.out.2.2.2.2];exact hi);have h2:2<=gt (ordsU P U) i/\gt (ordsU P U) i<=7:=I.out.2.2.1.ord7 i (by show i<(ordsU P U).length;rw[I.out.2.2.2.2];exact hi);omega
   have Y:Vec P.orders (prodN P U k):=G.prodR_vec I.out.2.1 _ _ (Nat.le_refl _);have aO:(prodN P U k).length<=6:=by rw[Y.1];omega
   have bh:=num_bd hP Y;have aP:prodR P U (elAt (shapeP (ordsU P U)) (k:Int)) U.length=prodN P U k:=rfl;have an:f k=(num P (prodN P U k)).toNat:=by rw[HN.out.1]
   have aQ:=X.out;obtain⟨n0,n1⟩:=bh;obtain⟨m,hm⟩:∃m,m=num P (prodN P U k):=⟨_,rfl⟩;rw[<-hm] at n0 n1 an;have bU:m<N:=by omega
   have ac:markAt N f (k+1)=(markAt N f k).set m.toNat true:=by rw[<-an];rfl
   have HV:=Lib.hid (And.intro K (And.intro aN (And.intro Y (And.intro aO (And.intro aP (And.intro hm ac))))));clear K aN Y aO aP hm ac am an aQ;have ae:=hM.cell m.toNat (by rw[markAt_len];omega);have bj:=hM.frozen m.toNat;have e1:∀w',Near wr l.heap.size w'->w'.cell? ⟨w.heap.size,0,none⟩=some aD:=λw' h=>h.cell n (by simp;omega);have e2:∀w',Near wr l.heap.size w'->w'.cell? ⟨w.heap.size,1,none⟩=some dI:=λw' h=>h.cell hb1 (by simp;omega);have e3:∀w',Near wr l.heap.size w'->w'.cell? ⟨w.heap.size,2,none⟩=some dG:=λw' h=>h.cell hb2 (by simp;omega);have e4:∀w',Near wr l.heap.size w'->w'.cell? ⟨p.heap.size,0,none⟩=some (.slice g (ordsU P U).length a):=λw' h=>h.cell D (by simp;omega);have e5:∀w',Near wr l.heap.size w'->w'.cell? ⟨p.heap.size,1,none⟩=some (.slice none 0 0):=λw' h=>h.cell aM (by simp;omega);have e6:∀w',Near wr l.heap.size w'->w'.cell? ⟨p.heap.size,2,none⟩=some (.slice none 0 0):=λw' h=>h.cell ab (by simp;omega);clear n hb1 hb2 D aM ab;have aR:=Pres3.ext dy b;have bk:=Rows2.ext ah b;go_wp2
   go_region_held3 (λw'=>Near wr l.heap.size w') (first|exact Near.of (grown_drew _ _)|exact Near.of (by assumption)|exact Near.store (by assumption)|assumption)
    (first
     | (go_at_call 107;refine Calls.mono (Calls.rel (w0:=wr) (by first|exact grown_drew _ _|assumption) (l10AtO_ok (ordsU P U) I.out.2.2.1 _ _ _ _ (k:Int) Any (Ints.ext bg (by first|exact grown_drew _ _|assumption)) (by omega) (by omega))) ?_;rintro eE wE ⟨vE,rfl,l7,gF,y6⟩;have bl:=y6.ints (by rw[HV.out.1];omega))
     | (go_at_call 299;refine Calls.mono (Calls.rel (w0:=wr) (by assumption) (l12Product_ok P G _ _ _ _ U _ Any Any Any ⟨_,_,_,rfl,Pres3.ext aR (by assumption)⟩ (Rows2.sub (Rows2.ext bk (by assumption)) (λ_ _ _=>trivial)) bl I.out.2.1 (by rw[HV.out.1];exact Nat.le_refl _) HV.out.2.1)) ?_;rintro eF wF ⟨vF,rfl,iX,iL,aS⟩;rw[HV.out.2.2.2.2.1] at aS;have bm:=aS.ints (by have:=HV.out.2.2.2.1;omega))
     | (go_at_call 255;refine Calls.mono (Calls.rel (w0:=wr) (by assumption) (l10Number_ok P hP _ _ _ _ Any Any ⟨_,_,_,rfl,Pres3.ext aR (by assumption)⟩ bm HV.out.2.2.1)) ?_;rintro eG wG ⟨vG,rfl,Z,nL,aT⟩;rw[<-HV.out.2.2.2.2.2.1] at aT;subst aT;have ao:=Z.cell ae (by simp);have aU:=(hM.ext0 Z).frozen m.toNat))
   clear e1 e2 e3 e4 e5 e6;obtain⟨aV,aW⟩:=(hM.ext0 Z).store m.toNat true;have bn:w5.grownBy (wG.setCell ⟨l.heap.size,m.toNat,none⟩ (.bool true)) (some l.heap.size):=grown_trans (grown_trans q (grown_of_ext _ Z)) aW;rw[<-HV.out.2.2.2.2.2.2] at aV;clear ae ao bj aU aW;go_wp2;go_roundw
   case rel=>exact⟨k+1,by go_num,by omega,bn,aV⟩
   case measure=>simp[intOf];omega
  ·have ap:k=(prodU P U U.length).toNat:=by omega
   obtain⟨wo,rfl⟩:∃wo:World,wo=wr:=⟨_,rfl⟩;rw[ap] at hM;have HK:=Lib.hid ap;clear ap;go_wp2;go_loopw [9,10] (λov tv wr=>∃(t:Nat) (v4:Value),v4=ov/\tv=.int .i64 t/\t<=N/\Ext wo wr/\RowsO wo.heap.size wr v4 (elemsTo P H t)) (λ_ tv _=>N-(intOf tv).toNat)
   case atStart=>exact⟨0,_,rfl,rfl,by omega,World.grownBy_alloc _ _ _,[],λ_ _=>False,by simp[elemsTo],World.ownsRow_lit wo #[] 0 (Nat.le_refl _) (by decide) rfl,by simp,by simp,by simp[elemsTo]⟩
   case round=>
    obtain⟨t,v4,rfl,rfl,ht,r,hO⟩:=hrel;by_cases aX:t<N
    ·have bG:(t:Int)<N:=by omega
     have aq:=r.cell (hM.cell t (by rw[markAt_len];exact aX)) (by simp);have A:=HN.out.2.1 t aX;have C:=elemsTo_succ P H t;have L:=elemsTo_len P H t;have T:=HB.out wr (grown_trans b r);obtain⟨n,hb1,hb2⟩:=T;cases hq:gt (markAt N f (prodU P U U.length).toNat) t with
     | true=>
      rw[hq] at aq;rw[if_pos (A.1 hq)] at C;have aY:=X.out;have aZ:=elAt_vec hP (t:Int) (by omega);have K:(elAt P (t:Int)).length=P.orders.length:=aZ.1;have M:=Lib.hid (And.intro C (And.intro K aY));clear C K A hq aZ aY;have O:N<=729:=by have:=M.out.2.2;omega
      go_wp2_with fail
      clear n hb1 hb2 aq;refine Calls.mono (l10At_ok P hP wr _ (t:Int) Any ⟨_,_,_,rfl,Pres3.ext dy (grown_trans b r)⟩ (by omega) (by omega)) ?_;rintro eA wA ⟨vA,rfl,dR,gw⟩;have a0:OwnIn (From wr.heap.size) wA vA (elAt P (t:Int)):=OwnIn.of gw (by rw[M.out.2.1];omega) (λj h1 _=>h1);obtain⟨ay,capy,gK,_,_⟩:=a0.ints.shape;subst gK;go_wp2_with (first|(at_builtin;refine wp_app_row rfl _ _ rfl wo.heap.size wr wA v4 _ (elemsTo P H t) (elAt P (t:Int)) rfl hO dR a0 rfl rfl (by omega) r.size ?_;intro v5 w6 bo bp b1;have a1:=hO.extw r (Nat.le_refl _) bp)|fail)
      go_roundw
      case rel=>exact⟨t+1,v5,rfl,by go_num,by omega,a1,by rw[M.out.1];exact bo⟩
      case measure=>simp[intOf];omega
     | false=>
      rw[hq] at aq;rw[if_neg (λh=>by have:=A.2 h;rw[hq] at this;cases this),List.append_nil] at C;have M:=Lib.hid C;clear C A hq;have O:N<=729:=by have:=X.out;omega
      go_wp2;go_roundw
      case rel=>exact⟨t+1,v4,rfl,by go_num,by omega,r,by rw[M.out];exact hO⟩
      case measure=>simp[intOf];omega
    ·have ar:t=N:=by omega
     have av:elemsTo P H t=elemsIn P H:=by rw[ar,HN.out.2.2];exact elemsTo_all P H
     have L:=elemsTo_len P H t;rw[av] at hO L;have O:N<=729:=by have:=X.out;omega
     obtain⟨az,capz,fk,_,_⟩:=SlD.shape (hO.toD (by omega));subst fk;have HX:=Lib.hid (And.intro ar av);clear ar av;go_wp2;go_ret;exact⟨_,rfl,grown_trans aC (grown_trans b r),hO.weak (by have:=b.size;have:=HS.out;omega)⟩
end Go.Proofs.YtdcobapnlpeaaaaGreat
namespace Go.Proofs.YtdcobapnlpeaaaaGreat
open Go.RowKit
attribute [local go_sem ↓] Go.wp_at_zero Go.wp_at_succ
theorem Pres3.y7 {B:Nat}{r:Option Nat}{w w':World}{vo vp vc:Value}{P:Pr}(h:Pres3 (From B) w vo vp vc P) (a:w.grownBy w' r) (b:∀k,r=some k->k<B):Pres3 (From B) w' vo vp vc P:=
 h.mono (frame_of a (λk hk _=>⟨hk,λe=>by have:=b k e;have hk:B<=k:=hk;omega⟩))
theorem Pres3.low {B B':Nat}{w:World}{vo vp vc:Value}{P:Pr}(h:Pres3 (From B) w vo vp vc P) (hB:B'<=B):Pres3 (From B') w vo vp vc P:=
 h.mono (λ_ hk a=>⟨Nat.le_trans hB hk,a,rfl⟩)
theorem y8 (w:World) (cv:Value) (l:List Int) (S:Nat->Prop) (y:Bytes S w cv l) :
  Calls Tryz.prog 96 #[cv] w (Ret w λw' v=>v=.pointer (some ⟨w.heap.size,0,none⟩)/\Src (w.heap.size+1) w' w.heap.size):=by
 obtain⟨a,cap,rfl,_,hlen⟩:=Sl.shape y;have z:=Box3.made w 172 (.slice a l.length cap) (.int .i64 0) (.int .i64 76001);have A:Ext w (w.alloc (.cells #[.slice a l.length cap,.int .i64 0,.int .i64 76001] 172)):=World.grownBy_alloc _ _ _;go_enter Tryz.func96,Tryz.ntmps96;go_wp2_with fail
 generalize w.alloc (.cells #[.slice a l.length cap,.int .i64 0,.int .i64 76001] 172)=w0 at *;go_loopw [4] (λH wr=>∃(i e:Nat),H=.int .i64 i/\i<=l.length/\e<2147483647/\Ext w wr/\Box3 wr w.heap.size (.slice a l.length cap) (.int .i64 0) (.int .i64 e)) (λH _=>l.length-(intOf H).toNat)
 case atStart=>exact⟨0,76001,rfl,by omega,by omega,A,z⟩
 case round=>
  clear z A;obtain⟨i,e,rfl,hi,hs,p,hB⟩:=hrel;by_cases g:i<l.length
  ·by_cases N:i<64
   ·obtain ⟨b,off,rfl,th,hbl,q,I,J⟩:=Bytes.at y i g
    have r:=p.cell q (by simp);generalize gt l i=x at q r I J;have B:(i:Int)<(l.length:Nat):=by omega
    have K:(i:Int)<64:=by omega
    obtain⟨n,u⟩:∃n:Nat,((e:Int)*71+x)%2147483647=(n:Int)/\n<2147483647:=⟨(((e:Int)*71+x)%2147483647).toNat,by omega,by omega⟩;have C:=(hB.put (.int .i64 (n:Nat))).2.2;have D:=grown_set wr w.heap.size 2 (.int .i64 (n:Nat));have E:Ext w (wr.setCell ⟨w.heap.size,2,none⟩ (.int .i64 (n:Nat))):=grown_own p D (λj O g=>by have:=Option.some.inj O;omega);have F:=C.ext (grown_drew (wr.setCell ⟨w.heap.size,2,none⟩ (.int .i64 (n:Nat))) none);have G:=grown_trans E (grown_drew (wr.setCell ⟨w.heap.size,2,none⟩ (.int .i64 (n:Nat))) none);have P:IntKind.i64.wrap ((e:Int)*71)=(e:Int)*71:=IntWalk.i64_in _ (by omega);have Q:IntKind.i64.wrap ((e:Int)*71+x)=(e:Int)*71+x:=IntWalk.i64_in _ (by omega);have R:IntKind.i64.wrap x=x:=IntWalk.i64_in _ (by omega);have L:((e:Int)*71+x).tmod 2147483647=(n:Int):=by rw[Int.tmod_eq_emod_of_nonneg (by omega)];exact u.1
    obtain⟨M,h1,h2,h3,h4⟩:=id hB;have c0:wr.drew.cell? ⟨w.heap.size,2,none⟩=some (.int .i64 e):=h3;have c1:wr.drew.cell? ⟨b,off+i,none⟩=some (.int .u8 x):=r;have c2:w.heap.size<wr.drew.heap.size:=M;have c3:=h4;have m:=Lib.hid (And.intro G (And.intro F (And.intro u.2 y)));clear G F u y E D C hB p M h1 h2 h3 q r;go_wp2;go_still_tail 15,(by kernel_rfl)
    change wpList _ _ _ _ _ wr.drew;go_wp2;go_roundw
    case rel=>exact⟨i+1,n,by go_num,by omega,m.out.2.2.1,m.out.1,m.out.2.1⟩
    case measure=>simp[intOf];omega
   ·have B:(i:Int)<(l.length:Nat):=by omega
    have K:¬(i:Int)<64:=by omega
    have m:=Lib.hid (And.intro p hB);clear p hB;go_wp2;go_ret;exact⟨_,rfl,m.out.1,rfl,_,0,e,l,m.out.2,Bytes.mono y (λk _ g=>⟨⟨by omega,by omega⟩,Nat.lt_of_lt_of_le g m.out.1.size,m.out.1.block k g (by simp)⟩),by omega,hs,by omega⟩
  ·have B:¬(i:Int)<(l.length:Nat):=by omega
   have m:=Lib.hid (And.intro p hB);clear p hB;go_wp2;go_ret;exact⟨_,rfl,m.out.1,rfl,_,0,e,l,m.out.2,Bytes.mono y (λk _ g=>⟨⟨by omega,by omega⟩,Nat.lt_of_lt_of_le g m.out.1.size,m.out.1.block k g (by simp)⟩),by omega,hs,by omega⟩
theorem y9 (w:World) (cv:Value) (b:List Int) (S:Nat->Prop) (g:Bytes S w cv b) :
  Calls Tryz.prog 15 #[cv] w λe w'=>e=.returned (.bool (decide (4096<b.length)))/\w=w':=by
 obtain⟨a,cap,rfl,_,hlen⟩:=Sl.shape g;go_enter Tryz.func15,Tryz.ntmps15;by_cases h:4096<b.length
 ·have i:(4096:Int)<(b.length:Nat):=by omega
  go_wp2;go_ret;exact⟨ret_b (by simp[h]),rfl⟩
 ·have i:¬(4096:Int)<(b.length:Nat):=by omega
  go_wp2;go_ret;exact⟨ret_b (by simp),rfl⟩
theorem ze (z:Nat) (w:World) (sb:Nat) (A:z<=w.heap.size) (P:Src z w sb) :
  Calls Tryz.prog 163 #[.pointer (some ⟨sb,0,none⟩)] w (Mut w (some sb) (iV z sb (kV 7 (λ_=>True) w.heap.size))):=by
 have W:=P.lt;have B:=Box3.made w 28 (.slice none 0 0) (.slice none 0 0) (.slice none 0 0);have u:Ext w (w.alloc (.cells #[.slice none 0 0,.slice none 0 0,.slice none 0 0] 28)):=World.grownBy_alloc _ _ _;have Q:(w.alloc (.cells #[.slice none 0 0,.slice none 0 0,.slice none 0 0] 28)).heap.size=w.heap.size+1:=by simp
 have C:=Lib.hid (P.ext u);clear P;go_enter Tryz.func163,Tryz.ntmps163;go_wp2_with fail
 generalize w.alloc (.cells #[.slice none 0 0,.slice none 0 0,.slice none 0 0] 28)=w0 at *;have S:w.heap.size+1<=w0.heap.size:=by omega
 clear Q;refine Calls.mono (l01Next_ok z w0 sb 15 C.out) ?_;rintro e3 O ⟨v3,rfl,m,x,rfl,_,hx1,hs3⟩;have D:=B.moved m (by omega);have r:=grown_trans (grown_of_ext (some sb) u) m;have T:=m.size;have U:=Lib.hid hs3;clear hs3 m B u C hx1;by_cases y:x=0
 ·subst y
  go_wp2_with fail
  refine Calls.mono (sY z O sb 243 (by omega) U.out) ?_;rintro X Y ⟨v4,rfl,hg4,⟨uo,up,uc,R,rfl,i,j,qa⟩,l⟩;obtain⟨E,F,G,hy1⟩:∃a n c,uo=.slice a n c:=by obtain⟨a,c,e,_⟩:=j.o.shape;exact⟨_,_,_,e⟩
  obtain⟨H,I,J,hy2⟩:∃a n c,up=.slice a n c:=by obtain⟨a,c,e,_⟩:=Sl.shape j.p;exact⟨_,_,_,e⟩
  obtain⟨K,L,M,iF⟩:∃a n c,uc=.slice a n c:=by obtain⟨a,c,e,_⟩:=Sl.shape j.c;exact⟨_,_,_,e⟩
  subst hy1 hy2 iF;have g:=D.moved hg4 (by omega);have b:=grown_trans r hg4;obtain⟨Z,b1,b2,b3,b4⟩:=id g;have N:=g.all (.slice E F G) (.slice H I J) (.slice K L M);obtain⟨-,z0,z1,z2,-⟩:=id N;have q:=Lib.hid (And.intro b (And.intro l (And.intro j i)));clear N b l j i g hg4 qa;go_wp2_with fail
  refine bodyPost_ret (v := .agg #[.slice E F G,.slice H I J,.slice K L M]) (by simp[results,Tryz.results163,go_sem,z0,z1,z2]) rfl ?_;exact iE q.out.1 (br:=w.heap.size) (Nat.le_refl _) (λk hk _=>by have hk:O.heap.size<=k:=hk;exact⟨by omega,by omega⟩) q.out.2.1 A q.out.2.2.2 q.out.2.2.1 trivial
 have V:(x == 0)=false:=by simp[y]
 clear y;go_wp2_with fail
 refine Calls.mono (sY z O sb 36 (by omega) U.out) ?_;rintro X Y ⟨v4,rfl,hg4,⟨uo,up,uc,R,rfl,i,j,qa⟩,l⟩;obtain⟨E,F,G,hy1⟩:∃a n c,uo=.slice a n c:=by obtain⟨a,c,e,_⟩:=j.o.shape;exact⟨_,_,_,e⟩
 obtain⟨H,I,J,hy2⟩:∃a n c,up=.slice a n c:=by obtain⟨a,c,e,_⟩:=Sl.shape j.p;exact⟨_,_,_,e⟩
 obtain⟨K,L,M,iF⟩:∃a n c,uc=.slice a n c:=by obtain⟨a,c,e,_⟩:=Sl.shape j.c;exact⟨_,_,_,e⟩
 subst hy1 hy2 iF;have g:=D.moved hg4 (by omega);have b:=grown_trans r hg4;obtain⟨Z,b1,b2,b3,b4⟩:=id g;have N:=g.all (.slice E F G) (.slice H I J) (.slice K L M);obtain⟨-,z0,z1,z2,-⟩:=id N;have q:=Lib.hid (And.intro b (And.intro l (And.intro j i)));clear N b l j i g hg4 qa;go_wp2_with fail
 refine bodyPost_ret (v := .agg #[.slice E F G,.slice H I J,.slice K L M]) (by simp[results,Tryz.results163,go_sem,z0,z1,z2]) rfl ?_;exact iE q.out.1 (br:=w.heap.size) (Nat.le_refl _) (λk hk _=>by have hk:O.heap.size<=k:=hk;exact⟨by omega,by omega⟩) q.out.2.1 A q.out.2.2.2 q.out.2.2.1 trivial
end Go.Proofs.YtdcobapnlpeaaaaGreat
namespace Go.Proofs.YtdcobapnlpeaaaaGreat
open Go.RowKit
section
variable {P:Pr}(G:Grp P)
include G
theorem Grp.kX {H:List Int->Prop}(S:Sub P H):prodU P (cseq P H) (cseq P H).length=(elemsIn P H).length:=by
 rw[<-G.els_sorted S,(sortL_perm _).length_eq];exact(elsP_len G.v (G.seq_facts S).1 _ (Nat.le_refl _)).symm
omit G in
theorem kY {P:Pr}(hP:Valid P) (H:List Int->Prop):(elemsIn P H).Nodup:=
 List.nodup_iff_pairwise_ne.2 ((elemsIn_asc hP H).imp (λ{a b} h e=>by subst e;omega))
theorem Grp.tj {H K:List Int->Prop}(S:Sub P H) (R:Sub P K) (h:∀x,H x->K x):prodU P (cseq P H) (cseq P H).length<=prodU P (cseq P K) (cseq P K).length /\
  (prodU P (cseq P H) (cseq P H).length=prodU P (cseq P K) (cseq P K).length->∀x,K x->H x):=by
 rw[G.kX S,G.kX R];have hP:=G.v;have hH:=elemsIn_mem hP S.vec;have b:=elemsIn_mem hP R.vec;have e:∀x∈elemsIn P H,x∈elemsIn P K:=λx hx=>(b x).2 (h x ((hH x).1 hx));have h1:=nodup_sub_len _ _ (kY hP H) e;refine⟨by omega,λk x hx=>Classical.byContradiction λg => ?_⟩;have a:(x :: elemsIn P H).Nodup:=List.nodup_cons.2 ⟨λi=>g ((hH x).1 i),kY hP H⟩
 have j:=nodup_sub_len _ (elemsIn P K) a (λy hy=>by
  rcases List.mem_cons.1 hy with rfl|hy
  ·exact(b _).2 hx
  ·exact e y hy)
 simp only[List.length_cons] at j;omega
end
section
variable {P:Pr}(G:Grp P)
include G
end
end Go.Proofs.YtdcobapnlpeaaaaGreat
namespace Go.Proofs.YtdcobapnlpeaaaaGreat
def El {P:Pr}(_:Grp P):Type := {x:List Int // Vec P.orders x}
section
variable {P:Pr}{G:Grp P}
instance:Mul (El G):=⟨λx y=>⟨rMul P x.1 y.1,G.mulV x.2 y.2⟩⟩
instance:One (El G):=⟨⟨zeros P.orders.length,G.oneV⟩⟩
instance:Inv (El G):=⟨λx=>⟨rInv P x.1,G.invV x.2⟩⟩
theorem El.ass (x y z:El G):x*y*z=x*(y*z):=Subtype.ext (G.ass x.2 y.2 z.2)
theorem El.ol (x:El G):1*x=x:=Subtype.ext (G.grp.el _ x.2)
theorem El.or (x:El G):x*1=x:=Subtype.ext (G.grp.er _ x.2)
theorem El.il (x:El G):x⁻¹ * x=1:=Subtype.ext (G.inv_mul x.2)
theorem El.ir (x:El G):x*x⁻¹ = 1:=Subtype.ext (G.mul_inv x.2)
theorem El.iM (x y:El G):x⁻¹ * (x*y)=y:=by rw[<-El.ass,El.il,El.ol]
theorem El.fB (x y:El G):x*(x⁻¹ * y)=y:=by rw[<-El.ass,El.ir,El.ol]
theorem El.inv_of {x y:El G}(h:x*y=1):y=x⁻¹ :=by rw[<-El.iM x y,h,El.or]
theorem El.mi (x y:El G):(x*y)⁻¹ = y⁻¹ * x⁻¹ := (El.inv_of (by rw[El.ass,El.fB,El.ir])).symm
theorem El.ii (x:El G):x⁻¹⁻¹ = x:=(El.inv_of (El.il x)).symm
theorem El.io:(1:El G)⁻¹ = 1:=(El.inv_of (El.ol 1)).symm
def ep (x:El G):Nat->El G
 | 0=>1
 | k+1=>ep x k*x
theorem nO (x:El G):∀k,(ep x k).1=pw P x.1 k
 | 0=>rfl
 | k+1=>by
  show rMul P (ep x k).1 x.1=_
  rw[nO x k];rfl
theorem nP (x:El G) (a b:Nat):ep x (a+b)=ep x a*ep x b:=by
 induction b with
 | zero=>exact(El.or _).symm
 | succ b e=>show ep x (a+b)*x=ep x a*(ep x b*x);rw[e,El.ass]
theorem fE (x:El G) (a b:Nat):ep x (a*b)=ep (ep x a) b:=by
 induction b with
 | zero=>rfl
 | succ b e=>rw[Nat.mul_succ,nP,e];rfl
theorem kZ (k:Nat):ep (1:El G) k=1:=by
 induction k with
 | zero=>rfl
 | succ k a=>show ep 1 k*1=1;rw[a,El.or]
theorem nQ (x:El G):ep x 1=x:=El.ol x
theorem l8 (x g:El G) (k:Nat):ep (g⁻¹ * (x*g)) k=g⁻¹ * (ep x k*g):=by
 induction k with
 | zero=>show(1:El G)=g⁻¹ * (1*g);rw[El.ol,El.il]
 | succ k a=>
  show ep _ k*_=_
  rw[a];show g⁻¹ * (ep x k*g)*(g⁻¹ * (x*g))=g⁻¹ * ((ep x k*x)*g)
  simp only[El.ass,El.fB]
structure SG (H:El G->Prop):Prop where
 one:H 1
 mul:∀x y,H x->H y->H (x*y)
 inv:∀x,H x->H x⁻¹
theorem SG.ep {H:El G->Prop}(S:SG H) {x:El G}(hx:H x) (k:Nat):H (ep x k):=by
 induction k with
 | zero=>exact S.one
 | succ k a=>exact S.mul _ _ a hx
theorem SG.and {H K:El G->Prop}(S:SG H) (R:SG K):SG (λx=>H x/\K x):=
 ⟨⟨S.one,R.one⟩,λ_ _ h k=>⟨S.mul _ _ h.1 k.1,R.mul _ _ h.2 k.2⟩,λ_ h=>⟨S.inv _ h.1,R.inv _ h.2⟩⟩
def dT (d:Nat) (x:El G):Prop:=∀k,k<d->gt x.1 k=0
theorem fN {d:Nat}{x:El G} : dT d x↔T P d x.1:=⟨λh=>⟨x.2,h⟩,λh=>h.2⟩
theorem jf {d:Nat}(a:d<=P.orders.length):SG (dT (G:=G) d):=
 ⟨fN.2 (T.zeros G.v d),λ_ _ h k=>fN.2 (G.T_mul a (fN.1 h) (fN.1 k)),λ_ h=>fN.2 (G.T_inv a (fN.1 h))⟩
theorem l9 {x:El G}(h:dT P.orders.length x):x=1:=Subtype.ext ((fN.1 h).top G.v)
theorem qd {d:Nat}{x:El G}(h:dT d x) (a:gt x.1 d=0):dT (d+1) x:=fN.2 ((fN.1 h).up a)
theorem lg {d:Nat}{x:El G}(h:dT (d+1) x):dT d x:=λk hk=>h k (by omega)
theorem kj (x:El G):dT 0 x:=λk hk=>by omega
def pv (H:El G->Prop) (d:Nat):Prop:=d<P.orders.length/\∃x,H x/\dT d x/\gt x.1 d≠0
theorem gL {H K:El G->Prop}(h:∀x,H x->K x) {d:Nat} : pv H d->pv K d:=λ⟨h1,x,h2,h3⟩=>⟨h1,x,h _ h2,h3⟩
theorem zf (q c k:Nat) (a:q=2\/q=3\/q=5\/q=7) (e:0<c) (h1:c<q) (hk:¬q∣k):(k*c)%q≠0:=by
 have b:c=1\/c=2\/c=3\/c=4\/c=5\/c=6:=by omega
 rcases a with rfl|rfl|rfl|rfl<;>rcases b with rfl|rfl|rfl|rfl|rfl|rfl<;>omega
theorem zg (q b c:Nat) (a:q=2\/q=3\/q=5\/q=7) (e:0<b) (h1:b<q) (g:c<q):∃j,(j*b)%q=c:=by
 have key:∀q,q<8->(q=2\/q=3\/q=5\/q=7)->∀b,b<q->0<b->∀c,c<q->∃j,j<q/\(j*b)%q=c:=by decide
 obtain⟨j,_,h⟩:=key q (by omega) a b h1 e c g;exact⟨j,h⟩
theorem fG (G:Grp P) {d:Nat}(a:d<P.orders.length):∃q:Nat,gt P.orders d=(q:Int)/\(gt P.orders d).toNat=q/\(q=2\/q=3\/q=5\/q=7):=by
 have:=G.v.ord d a;exact⟨(gt P.orders d).toNat,by omega,rfl,by omega⟩
theorem nR {d:Nat}(a:d<=P.orders.length) {x:El G}(h:dT d x) (k:Nat):dT d (ep x k):=(jf a).ep h k
theorem qg {d:Nat}(a:d<P.orders.length) {x:El G}(h:dT d x) (k:Nat):gt (ep x k).1 d=((k:Int)*gt x.1 d)%gt P.orders d:=by
 rw[nO];exact G.pw_at a (fN.1 h) k
theorem tq {d:Nat}(a:d<P.orders.length) {x:El G}(h:dT d x) (g:gt x.1 d≠0) {k:Nat}(hk:¬(gt P.orders d).toNat∣k):gt (ep x k).1 d≠0:=by
 obtain⟨q,h1,b,h3⟩:=fG G a;have i:=x.2.2 d a;obtain⟨c,hc⟩:∃c:Nat,gt x.1 d=(c:Int):=⟨(gt x.1 d).toNat,by omega⟩;rw[qg a h,h1,hc];have:=zf q c k h3 (by omega) (by omega) (by rw[<-b];exact hk);intro e;apply this;have j:(((k*c)%q:Nat):Int)=0:=by rw[Int.natCast_emod,Int.natCast_mul];exact e
 omega
theorem tr {d:Nat}(a:d<P.orders.length) {x:El G}(h:dT d x) (g:gt x.1 d≠0) {c:Int}(i:0<=c/\c<gt P.orders d):∃j,gt (ep x j).1 d=c:=by
 obtain⟨q,h1,h2,h3⟩:=fG G a;have k:=x.2.2 d a;obtain⟨b,nI⟩:∃b:Nat,gt x.1 d=(b:Int):=⟨(gt x.1 d).toNat,by omega⟩;obtain⟨e,he⟩:∃e:Nat,c=(e:Int):=⟨c.toNat,by omega⟩;obtain⟨j,hj⟩:=zg q b e h3 (by omega) (by omega) (by omega);refine⟨j,?_⟩;rw[qg a h,h1,nI,he,<-hj,Int.natCast_emod,Int.natCast_mul]
theorem nS {d:Nat}(a:d<P.orders.length) {x y:El G}(hx:dT d x) (hy:dT d y) (h:gt x.1 d=gt y.1 d):dT (d+1) (x⁻¹ * y):=
 fN.2 (G.diff a (fN.1 hx) (fN.1 hy) h)
theorem tu {d:Nat}(a:d<P.orders.length) {x y:El G}(h:dT (d+1) (x⁻¹ * y)):gt x.1 d=gt y.1 d:=by
 have h1:=(G.right (Nat.succ_le_of_lt a) x.2 (fN.1 h)).1 d (by omega);have b:rMul P x.1 (x⁻¹ * y).1=y.1:=congrArg Subtype.val (El.fB x y);rw[b] at h1;exact h1.symm
theorem qh {H K:El G->Prop}(S:SG H) (R:SG K) (g:∀x,H x->K x) (m:∀d,pv K d->pv H d):∀x,K x->H x:=by
 have key:∀f d,d+f=P.orders.length->∀x,K x->dT d x->H x:=by
  intro f;induction f with
  | zero=>
   intro d n x _ b;have:d=P.orders.length:=by omega
   subst this;rw[l9 b];exact S.one
  | succ f k=>
   intro d n x hx b;by_cases l:gt x.1 d=0
   ·exact k (d+1) (by omega) x hx (qd b l)
   ·obtain ⟨a,y,hy,e,hy0⟩:=m d ⟨by omega,x,hx,b,l⟩
    obtain⟨j,p⟩:=tr a e hy0 (x.2.2 d a);have i:=nR (Nat.le_of_lt a) e j;have h1:=k (d+1) (by omega) _ (R.mul _ _ (R.inv _ (R.ep (g _ hy) j)) hx) (nS a i b p);have q:=S.mul _ _ (S.ep hy j) h1;rwa [El.fB] at q
 exact λx hx=>key P.orders.length 0 (by omega) x hx (kj x)
theorem qi (G:Grp P):∃l:List (El G),l.Nodup/\∀x,x∈l:=by
 have key:∀m:List (List Int),m.Nodup->∃l:List (El G),l.Nodup/\∀x:El G,x∈l↔x.1∈m:=by
  intro m;induction m with
  | nil=>intro _;exact⟨[],List.nodup_nil,λx=>by simp⟩
  | cons a m j=>
   intro h;obtain⟨h1,g⟩:=List.nodup_cons.1 h;obtain⟨l,hl,i⟩:=j g;by_cases ha:Vec P.orders a
   ·obtain ⟨y,hy⟩:∃y:El G,y.1=a:=⟨⟨a,ha⟩,rfl⟩
    refine⟨y :: l,List.nodup_cons.2 ⟨λb=>h1 (hy▸(i _).1 b),hl⟩,λx => ?_⟩;rw[List.mem_cons,List.mem_cons,i x];exact⟨λb=>b.elim (λe => .inl (by rw[e];exact hy)) .inr,λb=>b.elim (λe => .inl (Subtype.ext (e.trans hy.symm))) .inr⟩
   ·refine ⟨l,hl,λx => ?_⟩
    rw[i x,List.mem_cons];exact⟨.inr,λb=>b.elim (λe=>absurd (e▸x.2) ha) id⟩
 obtain⟨l,h1,g⟩:=key (elemsIn P (Vec P.orders)) (kY G.v _);exact⟨l,h1,λx=>(g x).2 ((elemsIn_mem G.v (λ_ h=>h)) x.1 |>.2 x.2)⟩
noncomputable def els (G:Grp P):List (El G):=Classical.choose (qi G)
theorem zh (G:Grp P):(els G).Nodup:=(Classical.choose_spec (qi G)).1
theorem tA (G:Grp P) (x:El G):x∈els G:=(Classical.choose_spec (qi G)).2 x
open Classical in
noncomputable def jA (H:El G->Prop):List (El G):=(els G).filter (λx=>decide (H x))
theorem jg (H:El G->Prop):(jA H).Nodup:=(zh G).filter _
theorem iq {H:El G->Prop}{x:El G} : x∈jA H↔H x:=by
 classical
 unfold jA;rw[List.mem_filter,decide_eq_true_iff];exact⟨λh=>h.2,λh=>⟨tA G x,h⟩⟩
noncomputable def cd (H:El G->Prop):Nat:=(jA H).length
theorem nU {H:El G->Prop}{l:List (El G)}(h1:l.Nodup) (a:∀x,x∈l↔H x):cd H=l.length:=
 ((List.perm_ext_iff_of_nodup (jg H) h1).2 (λx=>iq.trans (a x).symm)).length_eq
theorem tB {H K:El G->Prop}(h:∀x,H x↔K x):cd H=cd K:=by
 have:H=K:=funext λx=>propext (h x);rw[this]
def eqv (N:El G->Prop) (x y:El G):Prop:=N (x⁻¹ * y)
theorem iu {N:El G->Prop}(S:SG N) (x:El G):eqv N x x:=by unfold eqv;rw[El.il];exact S.one
theorem nV {N:El G->Prop}(S:SG N) {x y:El G}(h:eqv N x y):eqv N y x:=by
 have:=S.inv _ h;rwa [El.mi,El.ii] at this
theorem iY {N:El G->Prop}(S:SG N) {x y z:El G}(h:eqv N x y) (k:eqv N y z):eqv N x z:=by
 have:=S.mul _ _ h k;rwa [El.ass,El.fB] at this
theorem zi {α a:Type}(l:List α) (f:α->List a) (n:Nat) (h:∀x∈l,(f x).length=n):(l.flatMap f).length=l.length*n:=flatMap_len' l f n h
theorem qj {N B:El G->Prop}(S:SG N) {ts:List (El G)}(k:ts.Nodup) (p:∀t∈ts,∀n,N n->B (t*n)) (h1:∀t∈ts,∀u∈ts,eqv N t u->t=u) (q:∀x,B x->∃t∈ts,eqv N t x):cd B=ts.length*cd N:=by
 rw[nU (H:=B) (l:=ts.flatMap (λt=>(jA N).map (λn=>t*n))) ?_ ?_]
 ·exact zi _ _ _ (λx _=>List.length_map ..)
 ·refine List.nodup_iff_pairwise_ne.2 (List.pairwise_flatMap.2 ⟨λt _ => ?_,?_⟩)
  ·rw [List.pairwise_map]
   refine(List.nodup_iff_pairwise_ne.1 (jg N)).imp (λ{a b} g e=>g ?_);have:=congrArg (λz=>t⁻¹ * z) e;simpa only[El.iM] using this
  ·refine (List.nodup_iff_pairwise_ne.1 k).imp_of_mem (λ{a b} ha r g x hx y hy e=>g (h1 a ha b r ?_))
   obtain⟨n,i,rfl⟩:=List.mem_map.1 hx;obtain⟨m,j,rfl⟩:=List.mem_map.1 hy;unfold eqv
   have v:a⁻¹ * b=n*m⁻¹ :=by
    have w:b=a*n*m⁻¹ :=by rw[e,El.ass,El.ir,El.or]
    rw[w,El.ass,El.iM]
   rw[v];exact S.mul _ _ (iq.1 i) (S.inv _ (iq.1 j))
 ·intro x
  rw[List.mem_flatMap];constructor
  ·rintro ⟨t,ht,hx⟩
   obtain⟨n,i,rfl⟩:=List.mem_map.1 hx;exact p t ht n (iq.1 i)
  ·intro hx
   obtain⟨t,ht,h⟩:=q x hx;exact⟨t,ht,List.mem_map.2 ⟨t⁻¹ * x,iq.2 h,El.fB t x⟩⟩
open Classical in
noncomputable def rp (N:El G->Prop) (x:El G):El G:=((els G).find? (λt=>decide (eqv N t x))).getD 1
theorem mg {N:El G->Prop}(S:SG N) (x:El G):eqv N (rp N x) x:=by
 classical
 unfold rp;cases h:(els G).find? (λt=>decide (eqv N t x)) with
 | none=>
  have:=List.find?_eq_none.1 h x (tA G x);exact absurd (decide_eq_true (iu S x)) this
 | some t=>
  have a:=List.find?_some h;exact of_decide_eq_true a
theorem tC {N:El G->Prop}(S:SG N) {x y:El G}(h:eqv N x y):rp N x=rp N y:=by
 classical
 unfold rp
 have:(λt=>decide (eqv N t x))=λt=>decide (eqv N t y):=funext λt=>by
  rw[decide_eq_decide];exact⟨λk=>iY S k h,λk=>iY S k (nV S h)⟩
 rw[this]
noncomputable def jh (N B:El G->Prop):List (El G):=jA (λx=>B x/\rp N x=x)
theorem kr {N B:El G->Prop}{x:El G} : x∈jh N B↔B x/\rp N x=x:=iq
theorem nX {N B:El G->Prop}(S:SG N) (R:SG B) (h:∀x,N x->B x) {x:El G}(hx:B x):rp N x∈jh N B:=by
 have h1:=mg S x;refine kr.2 ⟨?_,tC S h1⟩;have a:=R.mul _ _ hx (h _ (nV S h1));rwa [El.fB] at a
theorem ql {N B:El G->Prop}(S:SG N) {t u:El G}(a:t∈jh N B) (b:u∈jh N B) (h:eqv N t u):t=u:=by
 rw[<-(kr.1 a).2,<-(kr.1 b).2];exact tC S h
theorem tD {N B:El G->Prop}(S:SG N) (R:SG B) (h:∀x,N x->B x):cd B=(jh N B).length*cd N:=
 qj S (jg _) (λ_ a n b=>R.mul _ _ (kr.1 a).1 (h n b)) (λ_ a _ g e=>ql S a g e) (λx hx=>⟨rp N x,nX S R h hx,mg S x⟩)
open Classical in
noncomputable def dg (P:Pr) (Q:Nat->Prop):Nat->Nat->Nat
 | 0,_=>1
 | f+1,d=>(if Q d then (gt P.orders d).toNat else 1)*dg P Q f (d+1)
theorem fC {Q R:Nat->Prop} : ∀f d,(∀k,d<=k->k<d+f->(Q k↔R k))->dg P Q f d=dg P R f d
 | 0,_,_=>rfl
 | f+1,d,h=>by
  have h1:=h d (by omega) (by omega);unfold dg;rw[fC f (d+1) (λk a b=>h k (by omega) (by omega))];by_cases e:Q d
  ·rw[if_pos e,if_pos (h1.1 e)]
  ·rw[if_neg e,if_neg (λg=>e (h1.2 g))]
theorem iN {Q R:Nat->Prop} : ∀f d,(∀k,d<=k->k<d+f->Q k->¬R k)->dg P Q f d*dg P R f d=dg P (λk=>Q k\/R k) f d
 | 0,_,_=>rfl
 | f + 1,d,h=>by
  have h1:=h d (by omega) (by omega);have i:=iN f (d+1) (λk a b=>h k (by omega) (by omega));unfold dg;rw[<-i];by_cases e:Q d
  ·rw [if_pos e,if_neg (h1 e),if_pos (.inl e)]
   simp only[Nat.one_mul,Nat.mul_assoc]
  ·by_cases g:R d
   ·rw [if_neg e,if_pos g,if_pos (.inr g)]
    simp only[Nat.one_mul,Nat.mul_left_comm]
   ·rw [if_neg e,if_neg g,if_neg (λj=>j.elim e g)]
    simp only[Nat.one_mul]
theorem iG (G:Grp P) (Q:Nat->Prop):∀f d,d+f=P.orders.length->0<dg P Q f d
 | 0,_,_=>Nat.one_pos
 | f+1,d,h=>by
  have:=iG G Q f (d+1) (by omega);obtain⟨q,_,h2,h3⟩:=fG G (show d<P.orders.length by omega);unfold dg;split
  ·exact Nat.mul_pos (by omega) this
  ·rw[Nat.one_mul];exact this
theorem qm {q r:Nat}(a:q=2\/q=3\/q=5\/q=7) (b:r=2\/r=3\/r=5\/r=7) (h:q≠r):Nat.Coprime q r:=by
 rcases a with rfl|rfl|rfl|rfl<;>rcases b with rfl|rfl|rfl|rfl<;>first|(exact absurd rfl h)|decide
theorem mh (G:Grp P) {Q:Nat->Prop}{q:Nat}(a:q=2\/q=3\/q=5\/q=7):∀f d,d+f=P.orders.length->(∀k,k<P.orders.length->Q k->(gt P.orders k).toNat≠q)->Nat.Coprime q (dg P Q f d)
 | 0,_,_,_=>Nat.coprime_one_right q
 | f + 1,d,hd,h=>by
  have b:=mh G a f (d+1) (by omega) h;obtain⟨r,_,g,h3⟩:=fG G (show d<P.orders.length by omega);unfold dg;split
  ·rename_i i
   refine Nat.Coprime.mul_right (qm a (by rw[g];exact h3) (λe=>h d (by omega) i e.symm)) b
  ·rw[Nat.one_mul];exact b
theorem qq (G:Grp P) {Q R:Nat->Prop} : ∀f d,d+f=P.orders.length->(∀j k,j<P.orders.length->k<P.orders.length->Q j->R k->gt P.orders j≠gt P.orders k)->Nat.Coprime (dg P Q f d) (dg P R P.orders.length 0)
 | 0,_,_,_=>Nat.coprime_one_left _
 | f + 1,d,hd,h=>by
  have a:=qq G f (d+1) (by omega) h;obtain⟨r,h1,b,h3⟩:=fG G (show d<P.orders.length by omega);rw[dg];split
  ·rename_i g
   refine Nat.Coprime.mul_left (mh G (by rw[b];exact h3) _ 0 (by omega) (λk hk i e=>h d k (by omega) hk g i ?_)) a;obtain⟨s,g1,g2,_⟩:=fG G hk;omega
  ·rw[Nat.one_mul];exact a
theorem tE {H:El G->Prop}(S:SG H):∀f d,d+f=P.orders.length->cd (λx=>H x/\dT d x)=dg P (pv H) f d
 | 0, d,hd=>by
  have:d=P.orders.length:=by omega
  subst this
  have:=nU (H:=λx=>H x/\dT P.orders.length x) (l:=[(1:El G)]) (by simp) (λx=>by
   rw[List.mem_singleton];exact⟨λe=>by rw[e];exact⟨S.one,(jf (Nat.le_refl _)).one⟩,λh=>l9 h.2⟩)
  exact this
 | f + 1,d,hd=>by
  have g:d<P.orders.length:=by omega
  have K:=tE S f (d+1) (by omega);have S':SG (λx=>H x/\dT (d+1) x):=S.and (jf (by omega));have B:SG (dT (G:=G) d):=jf (by omega);rw[dg,<-K];by_cases z:pv H d
  ·rw [if_pos z]
   obtain⟨_,y0,hy0,v,hn0⟩:=z;obtain⟨q,hq1,hq2,hq3⟩:=fG G g;obtain⟨j,C⟩:=tr g v hn0 (c:=1) (by omega);obtain⟨y,hy⟩:∃y,y=ep y0 j:=⟨_,rfl⟩;have w:H y:=by rw[hy];exact S.ep hy0 j
   have p:dT d y:=by rw[hy];exact nR (by omega) v j
   have D:gt y.1 d=1:=by rw[hy];exact C
   have r:∀i,i<q->gt (ep y i).1 d=(i:Int):=λi A=>by
    rw[qg g p,D,hq1,Int.mul_one,Int.emod_eq_of_lt (by omega) (by omega)]
   have m:∀i j,i<q->j<q->eqv (λx=>H x/\dT (d+1) x) (ep y i) (ep y j)->i=j:=λi j A C h=>by
    have:=tu g h.2;rw[r i A,r j C] at this;omega
   have L:((List.range q).map (λi=>ep y i)).length=(gt P.orders d).toNat:=by rw[List.length_map,List.length_range,hq2]
   rw[<-L];refine qj S' ?_ ?_ ?_ ?_
   ·refine List.nodup_iff_pairwise_ne.2 ?_
    rw[List.pairwise_map];refine(List.nodup_iff_pairwise_ne.1 List.nodup_range).imp_of_mem (λ{a b} ha I E e=>E (m a b (List.mem_range.1 ha) (List.mem_range.1 I) ?_));rw[e];exact iu S' _
   ·intro t F n J
    obtain⟨i,_,rfl⟩:=List.mem_map.1 F;exact⟨S.mul _ _ (S.ep w i) J.1,B.mul _ _ (B.ep p i) (lg J.2)⟩
   ·intro t F u M h
    obtain⟨i,A,rfl⟩:=List.mem_map.1 F;obtain⟨k,hk,rfl⟩:=List.mem_map.1 M;rw[m i k (List.mem_range.1 A) (List.mem_range.1 hk) h]
   ·intro x hx
    have I:=x.2.2 d g;refine⟨ep y (gt x.1 d).toNat,List.mem_map.2 ⟨_,List.mem_range.2 (by omega),rfl⟩,S.mul _ _ (S.inv _ (S.ep w _)) hx.1,nS g (B.ep p _) hx.2 ?_⟩;rw[r _ (by omega)];omega
  ·rw [if_neg z,Nat.one_mul]
   exact tB (λx=>⟨λh=>⟨h.1,qd h.2 (Classical.byContradiction λN=>z ⟨g,x,h.1,h.2,N⟩)⟩,λh=>⟨h.1,lg h.2⟩⟩)
theorem iZ {H:El G->Prop}(S:SG H):cd H=dg P (pv H) P.orders.length 0:=by
 rw[<-tE S _ _ (Nat.zero_add _)];exact tB (λx=>⟨λh=>⟨h,kj x⟩,λh=>h.1⟩)
theorem tF {N B:El G->Prop}(S:SG N) (R:SG B) (h:∀x,N x->B x):(jh N B).length=dg P (λd=>pv B d/\¬pv N d) P.orders.length 0:=by
 have h1:=tD S R h;rw[iZ R,iZ S] at h1;have b:=iN (P:=P) (Q:=λd=>pv B d/\¬pv N d) (R:=pv N) P.orders.length 0 (λk _ _ hk=>hk.2)
 have g:dg P (λk=>(pv B k/\¬pv N k)\/pv N k) P.orders.length 0=dg P (pv B) P.orders.length 0:=fC _ _ (λk _ _=>by
  constructor
  ·rintro (a|a)
   ·exact a.1
   ·exact gL h a
  ·intro a
   by_cases e:pv N k
   ·exact .inr e
   ·exact .inl ⟨a,e⟩)
 rw[g,h1] at b;exact(Nat.eq_of_mul_eq_mul_right (iG G _ _ _ (Nat.zero_add _)) b).symm
end
section
variable {P:Pr}{G:Grp P}
def iy (L N:El G->Prop):Prop:=∀g x,L g->N x->N (g⁻¹ * (x*g))
structure gG (N M:El G->Prop):Prop where
 sn:SG N
 sm:SG M
 le:∀x,N x->M x
 nn:iy M N
 ab:∀x y,M x->M y->N (x⁻¹ * (y⁻¹ * (x*y)))
section
variable {N M:El G->Prop}(A:gG N M)
include A
theorem gG.mul {x x' y a:El G}(h:eqv N x x') (k:eqv N y a) (hy:M y):eqv N (x*y) (x'*a):=by
 have h1:=A.sn.mul _ _ (A.nn y _ hy h) k;unfold eqv;have e:(x*y)⁻¹ * (x'*a)=y⁻¹ * (x⁻¹ * x'*y)*(y⁻¹ * a):=by simp only[El.mi,El.ass,El.fB]
 rw[e];exact h1
theorem gG.comm {x y:El G}(hx:M x) (hy:M y):eqv N (x*y) (y*x):=by
 have h1:=A.ab y x hy hx;unfold eqv;rw[El.mi,El.ass];exact h1
theorem gG.ep {x y:El G}(hx:M x) (h:eqv N x y):∀k,eqv N (ep x k) (ep y k)
 | 0=>iu A.sn _
 | k+1=>A.mul (gG.ep hx h k) h hx
theorem gG.fE {x y:El G}(hx:M x) (hy:M y):∀k,eqv N (Go.Proofs.YtdcobapnlpeaaaaGreat.ep (x*y) k) (Go.Proofs.YtdcobapnlpeaaaaGreat.ep x k*Go.Proofs.YtdcobapnlpeaaaaGreat.ep y k)
 | 0=>by
  show eqv N (1:El G) (1*1)
  rw[El.ol];exact iu A.sn _
 | k+1=>by
  have b:=gG.fE hx hy k;have e:=A.sm.ep hx k;have a:=A.sm.ep hy k;have h1:=A.mul b (iu A.sn (x*y)) (A.sm.mul _ _ hx hy);refine iY A.sn h1 ?_;show eqv N (Go.Proofs.YtdcobapnlpeaaaaGreat.ep x k*Go.Proofs.YtdcobapnlpeaaaaGreat.ep y k*(x*y)) (Go.Proofs.YtdcobapnlpeaaaaGreat.ep x k*x*(Go.Proofs.YtdcobapnlpeaaaaGreat.ep y k*y))
  have g:=A.mul (iu A.sn (Go.Proofs.YtdcobapnlpeaaaaGreat.ep x k)) (A.mul (A.comm a hx) (iu A.sn y) hy) (A.sm.mul _ _ (A.sm.mul _ _ a hx) hy);simpa only[El.ass] using g
end
def lp:List (El G)->El G
 | []=>1
 | x :: l=>x*lp l
theorem ku {M:El G->Prop}(S:SG M):∀ {l:List (El G)},(∀x∈l,M x)->M (lp l)
 | [],_=>S.one
 | x :: _,h=>S.mul _ _ (h x (List.mem_cons_self ..)) (ku S (λy hy=>h y (List.mem_cons_of_mem _ hy)))
section
variable {N M:El G->Prop}(A:gG N M)
include A
theorem gG.zj {l m:List (El G)}(h:l.Perm m):(∀x∈l,M x)->eqv N (lp l) (lp m):=by
 induction h with
 | nil=>intro _;exact iu A.sn _
 | cons x h i=>
  intro a;have b:=λy hy=>a y (List.mem_cons_of_mem _ hy);exact A.mul (iu A.sn x) (i b) (ku A.sm b)
 | swap x y l=>
  intro a;have hx:=a x (by simp);have hy:=a y (by simp);have j:=ku A.sm (λz k=>a z (List.mem_cons_of_mem _ (List.mem_cons_of_mem _ k)));have h1:=A.mul (A.comm hy hx) (iu A.sn (lp l)) j;show eqv N (y*(x*lp l)) (x*(y*lp l))
  simpa only[El.ass] using h1
 | trans h1 n e g=>
  intro a;exact iY A.sn (e a) (g (λx hx=>a x (h1.mem_iff.2 hx)))
theorem gG.tG {a:Type}{f g:a->El G} : ∀ {l:List a},(∀x∈l,M (f x))->(∀x∈l,eqv N (f x) (g x))->eqv N (lp (l.map f)) (lp (l.map g))
 | [],_,_=>iu A.sn _
 | x :: l,h,k=>by
  have b:∀y∈l,M (f y):=λy hy=>h y (List.mem_cons_of_mem _ hy);refine A.mul (k x (List.mem_cons_self ..)) (gG.tG b (λy hy=>k y (List.mem_cons_of_mem _ hy))) (ku A.sm ?_);intro z e;obtain⟨y,hy,rfl⟩:=List.mem_map.1 e;exact b y hy
theorem gG.tH {j:Type}{f:j->El G}{y v:El G}(b:∀x,M x->M (y⁻¹ * (x*y))) (a:M v):∀ {l:List j},(∀x∈l,M (f x)) ->
  eqv N (lp (l.map (λx=>y⁻¹ * (f x*y)*v))) (y⁻¹ * (lp (l.map f)*y)*Go.Proofs.YtdcobapnlpeaaaaGreat.ep v l.length)
 | [],_=>by
  show eqv N (1:El G) (y⁻¹ * (1*y)*1)
  rw[El.ol,El.il,El.or];exact iu A.sn _
 | x :: l,h=>by
  have e:∀y∈l,M (f y):=λy hy=>h y (List.mem_cons_of_mem _ hy);have m:=gG.tH b a e
  have n:M (lp (l.map f)):=ku A.sm (λz g=>by
   obtain⟨y,hy,rfl⟩:=List.mem_map.1 g;exact e y hy)
  have p:M (lp (l.map (λx=>y⁻¹ * (f x*y)*v))):=ku A.sm (λz g=>by
   obtain⟨u,q,rfl⟩:=List.mem_map.1 g;exact A.sm.mul _ _ (b _ (e u q)) a)
  have i:=A.sm.ep a l.length;have k:=A.sm.mul _ _ (b _ n) i;have hx:=b _ (h x (List.mem_cons_self ..));have h1:=A.mul (iu A.sn (y⁻¹ * (f x*y)*v)) m p;refine iY A.sn h1 ?_;have r:=A.mul (iu A.sn (y⁻¹ * (f x*y))) (A.comm a k) (A.sm.mul _ _ a k);have w:y⁻¹ * (f x*y)*v*(y⁻¹ * (lp (l.map f)*y)*Go.Proofs.YtdcobapnlpeaaaaGreat.ep v l.length)=y⁻¹ * (f x*y)*(v*(y⁻¹ * (lp (l.map f)*y)*Go.Proofs.YtdcobapnlpeaaaaGreat.ep v l.length)):=El.ass _ _ _
  have B:y⁻¹ * (lp ((x :: l).map f)*y)*Go.Proofs.YtdcobapnlpeaaaaGreat.ep v (x :: l).length=y⁻¹ * (f x*y)*(y⁻¹ * (lp (l.map f)*y)*Go.Proofs.YtdcobapnlpeaaaaGreat.ep v l.length*v):=by
   show y⁻¹ * (f x*lp (l.map f)*y)*(Go.Proofs.YtdcobapnlpeaaaaGreat.ep v l.length*v)=_
   simp only[El.ass,El.fB]
  rw[w,B];exact r
end
theorem SG.zk {H:El G->Prop}(h1:H 1) (a:∀x y,H x->H y->H (x*y)):SG H:=by
 refine⟨h1,a,λx hx => ?_⟩;obtain⟨k,hk⟩:=G.inv_pw x.2;have e:x⁻¹ = Go.Proofs.YtdcobapnlpeaaaaGreat.ep x k:=Subtype.ext (hk.trans (nO x k).symm);rw[e]
 have:∀k,H (Go.Proofs.YtdcobapnlpeaaaaGreat.ep x k):=λk=>by
  induction k with
  | zero=>exact h1
  | succ k b=>exact a _ _ b hx
 exact this k
def gM (A N:El G->Prop) (x:El G):Prop:=∃a n,A a/\N n/\x=a*n
theorem nY {A N:El G->Prop}(e:SG A) (g:SG N) (h:iy A N):SG (gM A N):=by
 refine⟨⟨1,1,e.one,g.one,(El.ol _).symm⟩,?_,?_⟩
 ·rintro x y ⟨a,n,ha,i,rfl⟩ ⟨b,m,j,k,rfl⟩
  refine⟨a*b,b⁻¹ * (n*b)*m,e.mul _ _ ha j,g.mul _ _ (h b n j i) k,?_⟩;simp only[El.ass,El.fB]
 ·rintro x ⟨a,n,ha,i,rfl⟩
  refine⟨a⁻¹,a⁻¹⁻¹ * (n⁻¹ * a⁻¹),e.inv _ ha,h _ _ (e.inv _ ha) (g.inv _ i),?_⟩;rw[El.mi,El.fB]
theorem mj {A N:El G->Prop}(b:SG N) (h:iy A N) {a n:El G}(ha:A a) (g:N n):∀k,∃m,N m/\ep (a*n) k=ep a k*m
 | 0=>⟨1,b.one,(El.or _).symm⟩
 | k+1=>by
  obtain⟨m,i,e⟩:=mj b h ha g k;refine⟨a⁻¹ * (m*a)*n,b.mul _ _ (h a m ha i) g,?_⟩;show ep (a*n) k*(a*n)=ep a k*a*_
  rw[e];simp only[El.ass,El.fB]
noncomputable def aP (P:Pr) (π : Int->Prop):Nat:=dg P (λd=>π (gt P.orders d)) P.orders.length 0
noncomputable def bP (P:Pr) (π : Int->Prop):Nat:=dg P (λd=>¬ π (gt P.orders d)) P.orders.length 0
theorem zl (G:Grp P) (π : Int->Prop):Nat.Coprime (aP P π) (bP P π):=
 qq G _ _ (Nat.zero_add _) (λ_ _ _ _ h1 a e=>a (e▸h1))
theorem mo (G:Grp P) {π : Int->Prop}{d:Nat}(a:d<P.orders.length) (h:¬ π (gt P.orders d)):Nat.Coprime (gt P.orders d).toNat (aP P π):=by
 obtain⟨q,h1,b,h3⟩:=fG G a;refine mh G (by rw[b];exact h3) _ _ (Nat.zero_add _) (λk hk g e=>h ?_);obtain⟨r,g1,g2,_⟩:=fG G hk;have:gt P.orders d=gt P.orders k:=by omega
 rw[this];exact g
theorem zm (G:Grp P) {π : Int->Prop}{d:Nat}(a:d<P.orders.length) (h:π (gt P.orders d)):Nat.Coprime (gt P.orders d).toNat (bP P π):=by
 obtain⟨q,h1,b,h3⟩:=fG G a;refine mh G (by rw[b];exact h3) _ _ (Nat.zero_add _) (λk hk g e=>g ?_);obtain⟨r,g1,g2,_⟩:=fG G hk;have:gt P.orders k=gt P.orders d:=by omega
 rw[this];exact h
theorem kA {G:Grp P}{d k:Nat}(a:d<P.orders.length) (h:Nat.Coprime (gt P.orders d).toNat k):¬(gt P.orders d).toNat∣k:=λhk=>by
 obtain⟨q,h1,h2,h3⟩:=fG G a;have:=Nat.Coprime.eq_one_of_dvd h hk;omega
theorem qu {d:Nat}(a:d<P.orders.length) {x:El G}(h:dT d x):dT (d+1) (ep x (gt P.orders d).toNat):=by
 have:=G.pw_order a (fN.1 h);rw[fN,nO];exact this
theorem tI (x:El G) (π : Int->Prop):ep x (aP P π * bP P π)=1:=by
 have key:∀f d (x:El G),d+f=P.orders.length->dT d x->ep x (dg P (λ_=>True) f d)=1:=by
  intro f;induction f with
  | zero=>
   intro d x b a;have:d=P.orders.length:=by omega
   subst this;rw[l9 a];exact kZ _
  | succ f g=>
   intro d x b a;rw[dg,if_pos trivial,fE];exact g (d+1) _ (by omega) (qu (by omega) a)
 have e:aP P π * bP P π = dg P (λ_=>True) P.orders.length 0:=by
  unfold aP bP;rw[iN _ _ (λk _ _ h1 i=>i h1)];exact fC _ _ (λk _ _=>⟨λ_=>trivial,λ_=>Classical.em _⟩)
 rw[e];exact key _ 0 x (Nat.zero_add _) (kj x)
theorem mq {N B:El G->Prop}{k d:Nat}(h:∀x,B x->N (ep x k)) (b:pv B d) (e:¬pv N d):(gt P.orders d).toNat∣k:=by
 refine Classical.byContradiction λhk=>e ?_;obtain⟨h1,x,hx,a,h0⟩:=b;exact⟨h1,_,h x hx,nR (Nat.le_of_lt h1) a k,tq h1 a h0 hk⟩
theorem n9 {B:El G->Prop}(S:SG B) {π : Int->Prop}(h:∀d,pv B d->π (gt P.orders d)) {x:El G}(hx:B x):ep x (aP P π)=1:=by
 have key:∀f d (x:El G),d+f=P.orders.length->B x->dT d x->ep x (dg P (λd=>π (gt P.orders d)) f d)=1:=by
  intro f;induction f with
  | zero=>
   intro d x g _ a;have:d=P.orders.length:=by omega
   subst this;rw[l9 a];exact kZ _
  | succ f e=>
   intro d x g hx a;rw[dg];by_cases b:π (gt P.orders d)
   ·rw [if_pos b,fE]
    exact e (d+1) _ (by omega) (S.ep hx _) (qu (by omega) a)
   ·rw [if_neg b,Nat.one_mul]
    exact e (d+1) x (by omega) hx (qd a (Classical.byContradiction λi=>b (h d ⟨by omega,x,hx,a,i⟩)))
 exact key _ 0 x (Nat.zero_add _) hx (kj x)
def Dom (L N:El G->Prop) (π : Int->Prop):Prop:=∀A B:El G->Prop,SG A->SG B->(∀x,N x->A x)->(∀x,N x->B x)->(∀x,A x->L x)->(∀x,B x->L x) ->
 (∀x,A x->N (ep x (aP P π)))->(∀x,B x->N (ep x (aP P π)))->(∀d,pv L d->¬pv A d->¬ π (gt P.orders d))->∃g,L g/\∀x,B x->A (g⁻¹ * (x*g))
theorem zq {L:El G->Prop}(S:SG L) (π : Int->Prop):Dom L L π :=λA B _ _ a _ _ hB _ _ _=>
 ⟨1,S.one,λx hx=>by rw[El.or,El.io,El.ol];exact a x (hB x hx)⟩
theorem lq {L K N:El G->Prop}(h:iy L N) (hk:∀x,K x->L x):iy K N:=λg x a hx=>h g x (hk g a) hx
theorem zu {L N M:El G->Prop}{π : Int->Prop}(l:SG M) (v:∀x,M x->L x) (T:SG L) (w:∀x,N x->M x) (K:iy L M) (U:∀x,M x->N (ep x (aP P π))) (h:Dom L M π):Dom L N π :=by
 intro A B y O z V j q Q W hH;have D:=lq K j;have R:=lq K q;have r:=nY y l D;have E:=nY O l R;have u:∀x,A x->gM A M x:=λx hx=>⟨x,1,hx,l.one,(El.or x).symm⟩;have F:∀x,B x->gM B M x:=λx hx=>⟨x,1,hx,l.one,(El.or x).symm⟩
 have k:∀ {C:El G->Prop},iy C M->(∀x,C x->N (ep x (aP P π)))->∀x,gM C M x->M (ep x (aP P π)):=by
  rintro C X Y x ⟨a,n,ha,i,rfl⟩;obtain⟨m,Z,e⟩:=mj l X ha i (aP P π);rw[e];exact l.mul _ _ (w _ (Y a ha)) Z
 have b:∀ {C:El G->Prop},(∀x,C x->L x)->∀x,gM C M x->L x:=by
  rintro C hC x ⟨a,n,ha,i,rfl⟩;exact T.mul _ _ (hC a ha) (v n i)
 obtain ⟨g,hg,H⟩:=h _ _ r E (λx hx=>⟨1,x,y.one,hx,(El.ol x).symm⟩) (λx hx=>⟨1,x,O.one,hx,(El.ol x).symm⟩) (b j) (b q) (k D Q) (k R W)
  (λd p i=>hH d p (λhp=>i (gL u hp)))
 have I:∀x,gM A M x->A x:=by
  refine qh y r u (λd p=>Classical.byContradiction λi => ?_);have J:=hH d (gL (b j) p) i;have S:=mo G p.1 J
  have h2:∀x,gM A M x->A (ep x (aP P π * aP P π)):=λx hx=>by
   rw[fE];exact z _ (U _ (k D Q x hx))
  exact kA (G:=G) p.1 (Nat.Coprime.mul_right S S) (mq h2 p i)
 exact⟨g,hg,λx hx=>I _ (H x (F x hx))⟩
theorem tJ:∀(b a:Nat),Nat.Coprime a b->0<a->0<b->∃l m:Nat,a*l=1+b*m:=by
 intro b;induction b using Nat.strongRecOn with
 | ind b w=>
  intro a y ha k;by_cases h1:b=1
  ·subst h1
   exact⟨1,a-1,by omega⟩
  ·have u:a%b<b:=Nat.mod_lt _ k
   have i:Nat.Coprime b (a%b):=by
    have:Nat.gcd b (a%b)=Nat.gcd a b:=by rw[Nat.gcd_comm a b,Nat.gcd_rec b a,Nat.gcd_comm]
    unfold Nat.Coprime;rw[this];exact y
   have g:0<a%b:=by
    rcases Nat.eq_zero_or_pos (a%b) with h|h
    ·rw [h] at i
     have:b=1:=by simpa [Nat.Coprime] using i
     exact absurd this h1
    ·exact h
   obtain⟨l,m,e⟩:=w (a%b) u b i k g;-- b * l = 1 + r * m, a = b * (a / b) + r
   have j:=Nat.div_add_mod a b;obtain⟨r,n⟩:∃r,r=a%b:=⟨_,rfl⟩;obtain⟨q,z⟩:∃q,q=a/b:=⟨_,rfl⟩;rw[<-n] at e j g u;rw[<-z] at j;-- r * (b * (m + 1) - m) = r * b * (m + 1) - r * m; pick l' = b * (m + 1) - m, a * l' = 1 + b * ..
   have p:m<=b*(m+1):=Nat.le_trans (Nat.le_succ m) (Nat.le_mul_of_pos_left _ k)
   have A:((r:Int)*(b*(m+1)-m))=1+b*(r*(m+1)-l):=by
    have e':(b:Int)*l=1+r*m:=by exact_mod_cast e
    have:(r:Int)*m=b*l-1:=by omega
    calc (r:Int)*(b*(m+1)-m)=b*(r*(m+1))-r*m:=by rw[Int.mul_sub,Int.mul_left_comm]
     _=b*(r*(m+1))-(b*l-1):=by rw[this]
     _=1+b*(r*(m+1)-l):=by rw[Int.mul_sub];omega
   have B:l<=r*(m+1):=by
    have:b*l<=b*(r*(m+1)):=by
     rw[e];have C:b*(r*(m+1))=r*(b*(m+1)):=Nat.mul_left_comm ..;rw[C];have F:r*m+1<=r*(m+1):=by rw[Nat.mul_succ];omega
     have G:r*(m+1)<=r*(b*(m+1)):=Nat.mul_le_mul_left _ (Nat.le_mul_of_pos_left _ k);omega
    exact Nat.le_of_mul_le_mul_left this k
   refine⟨b*(m+1)-m,r*(m+1)-l+q*(b*(m+1)-m),?_⟩
   have v:r*(b*(m+1)-m)=1+b*(r*(m+1)-l):=by
    have D:((b*(m+1)-m:Nat):Int)=(b:Int)*(m+1)-m:=by rw[Int.ofNat_sub p];push_cast;rfl
    have E:((r*(m+1)-l:Nat):Int)=(r:Int)*(m+1)-l:=by rw[Int.ofNat_sub B];push_cast;rfl
    have:((r*(b*(m+1)-m):Nat):Int)=((1+b*(r*(m+1)-l):Nat):Int):=by
     rw[Int.natCast_mul,D,Int.natCast_add,Int.natCast_mul,E];exact A
    exact Int.ofNat.inj this
   generalize b*(m+1)-m=K at v ⊢;rw[<-j,Nat.add_mul,v,Nat.mul_add b,Nat.mul_assoc];omega
theorem zw {L N M:El G->Prop}{π : Int->Prop}(SL:SG L) (F:gG N M) (R:∀x,M x->L x) (nN:iy L N) (nM:iy L M) (he:∀x,M x->N (ep x (bP P π))) (h:Dom L M π):Dom L N π :=by
 intro A B S SB aA aB T ae eA eB hH;have nA:=lq nM T;have nB:=lq nM ae;have aC:=nY S F.sm nA;have aD:=nY SB F.sm nB;have aE:∀x,A x->gM A M x:=λx hx=>⟨x,1,hx,F.sm.one,(El.or x).symm⟩;have aF:∀x,B x->gM B M x:=λx hx=>⟨x,1,hx,F.sm.one,(El.or x).symm⟩
 have af:∀ {C:El G->Prop},iy C M->(∀x,C x->N (ep x (aP P π)))->∀x,gM C M x->M (ep x (aP P π)):=by
  rintro C nC eC x ⟨a,n,ha,r,rfl⟩;obtain⟨m,hm,e⟩:=mj F.sm nC ha r (aP P π);rw[e];exact F.sm.mul _ _ (F.le _ (eC a ha)) hm
 have D:∀ {C:El G->Prop},(∀x,C x->L x)->∀x,gM C M x->L x:=by
  rintro C Y x ⟨a,n,ha,r,rfl⟩;exact SL.mul _ _ (Y a ha) (R n r)
 obtain ⟨g,hg,hgB⟩:=h _ _ aC aD (λx hx=>⟨1,x,S.one,hx,(El.ol x).symm⟩) (λx hx=>⟨1,x,SB.one,hx,(El.ol x).symm⟩) (D T) (D ae) (af nA eA) (af nB eB)
  (λd hd r=>hH d hd (λhp=>r (gL aE hp)))
 -- the conjugate C of B lies in A M
 obtain⟨C,Y⟩:∃C:El G->Prop,C=λx=>B (g*(x*g⁻¹)):=⟨_,rfl⟩
 have I:SG C:=by
  rw[Y];refine⟨?_,?_,?_⟩
  ·show B (g*(1*g⁻¹));rw[El.ol,El.ir];exact SB.one
  ·intro x y hx hy
   have:=SB.mul _ _ hx hy;have e:g*(x*g⁻¹)*(g*(y*g⁻¹))=g*(x*y*g⁻¹):=by simp only[El.ass,El.iM]
   rwa [e] at this
  ·intro x hx
   have:=SB.inv _ hx;have e:(g*(x*g⁻¹))⁻¹ = g*(x⁻¹ * g⁻¹):=by simp only[El.mi,El.ii,El.ass]
   rwa [e] at this
 have ag:∀x,C x->∃y,B y/\x=g⁻¹ * (y*g):=λx hx=>by
  rw[Y] at hx;exact⟨_,hx,by simp only[El.ass,El.il,El.iM,El.or]⟩
 have aI:∀x,B x->C (g⁻¹ * (x*g)):=λx hx=>by
  rw[Y];show B (g*(g⁻¹ * (x*g)*g⁻¹))
  have e:g*(g⁻¹ * (x*g)*g⁻¹)=x:=by simp only[El.ass,El.ir,El.fB,El.or]
  rw[e];exact hx
 have E:∀x,N x->C x:=λx hx=>by
  rw[Y];have:=aB _ (nN g⁻¹ x (SL.inv _ hg) hx);rwa [El.ii] at this
 have ah:∀x,C x->gM A M x:=λx hx=>by
  obtain⟨y,hy,rfl⟩:=ag x hx;exact hgB y (aF y hy)
 have H:∀x,C x->L x:=λx hx=>D T x (ah x hx)
 have eC:∀x,C x->N (ep x (aP P π)):=λx hx=>by
  obtain⟨y,hy,rfl⟩:=ag x hx;rw[l8];exact nN g _ hg (eB y hy)
 -- A and M meet in N
 have U:∀x,A x->M x->N x:=λx h1 J=>by
  have ha:=eA x h1;have hb:=he x J;have V:0<bP P π := iG G _ _ _ (Nat.zero_add _);obtain⟨l,m,e⟩:=tJ (bP P π) (aP P π) (zl G π) (iG G _ _ _ (Nat.zero_add _)) V;have K:=F.sn.ep ha l;rw[<-fE,e,nP,nQ,fE] at K;have h4:=F.sn.mul _ _ K (F.sn.inv _ (F.sn.ep hb m));rwa [El.ass,El.ir,El.or] at h4
 -- the difference
 have aj:∀x,∃v,C x->M v/\A (x*v):=λx=>by
  by_cases hx:C x
  ·obtain ⟨a,n,ha,r,e⟩:=ah x hx
   exact⟨n⁻¹,λ_=>⟨F.sm.inv _ r,by rw[e,El.ass,El.ir,El.or];exact ha⟩⟩
  ·exact⟨1,λh=>absurd h hx⟩
 obtain⟨ν,i⟩:=Classical.axiomOfChoice aj
 have Q:∀x w1 w2,M w1->M w2->A (x*w1)->A (x*w2)->eqv N w1 w2:=λx w1 w2 m1 Z a1 a2=>by
  refine U _ ?_ (F.sm.mul _ _ (F.sm.inv _ m1) Z);have:=S.mul _ _ (S.inv _ a1) a2;rwa [El.mi,El.ass,El.iM] at this
 have al:∀x y,C x->C y->eqv N (ν (x*y)) (y⁻¹ * (ν x*y)*ν y):=λx y hx hy=>by
  obtain⟨m1,a1⟩:=i x hx;obtain⟨Z,a2⟩:=i y hy;obtain⟨m3,a3⟩:=i _ (I.mul _ _ hx hy);refine Q (x*y) _ _ m3 (F.sm.mul _ _ (nM y _ (H y hy) m1) Z) a3 ?_;have:=S.mul _ _ a1 a2;have e:x*ν x*(y*ν y)=x*y*(y⁻¹ * (ν x*y)*ν y):=by simp only[El.ass,El.fB]
  rwa [e] at this
 have am:∀x x',C x->C x'->eqv N x x'->eqv N (ν x) (ν x'):=λx x' hx aJ aK=>by
  obtain⟨m1,a1⟩:=i x hx;obtain⟨Z,a2⟩:=i x' aJ;have r:N (x⁻¹ * x'):=aK
  have h1:eqv N (ν x) (x⁻¹ * x'*ν x'):=Q x _ _ m1 (F.sm.mul _ _ (F.le _ r) Z) a1 (by
   have e:x*(x⁻¹ * x'*ν x')=x'*ν x':=by simp only[El.ass,El.fB]
   rw[e];exact a2)
  refine iY F.sn h1 ?_;have J:=nN _ _ (R _ Z) (F.sn.inv _ r);unfold eqv;have e:(x⁻¹ * x'*ν x')⁻¹ * ν x'=(ν x')⁻¹ * ((x⁻¹ * x')⁻¹ * ν x'):=by rw[El.mi,El.ass]
  rw[e];exact J
 -- the mean
 obtain⟨ts,q⟩:∃ts,ts=jh N C:=⟨_,rfl⟩;have p:∀t∈ts,C t:=λt ht=>by rw[q] at ht;exact(kr.1 ht).1
 have aL:Nat.Coprime ts.length (bP P π):=by
  rw[q,tF F.sn I E];refine qq G _ _ (Nat.zero_add _) (λj k hj hk h1 J e=>J ?_);rw[<-e];refine Classical.byContradiction λr => ?_;exact kA (G:=G) hj (mo G hj r) (mq eC h1.1 h1.2)
 have V:0<bP P π := iG G _ _ _ (Nat.zero_add _)
 have aM:0<ts.length:=by
  rw[q,tF F.sn I E];exact iG G _ _ _ (Nat.zero_add _)
 obtain⟨l,m,zx⟩:=tJ _ _ aL aM V;obtain⟨t,ht⟩:∃t,t=lp (ts.map ν):=⟨_,rfl⟩
 have W:M t:=by
  rw[ht];refine ku F.sm (λz X => ?_);obtain⟨u,hu,rfl⟩:=List.mem_map.1 X;exact(i u (p u hu)).1
 have O:∀y,C y->eqv N t (y⁻¹ * (t*y)*ep (ν y) ts.length):=λy hy=>by
  have nC:∀n,N n->N (y⁻¹ * (n*y)):=λn r=>nN y n (H y hy) r
  have ao:(ts.map (λx=>rp N (x*y))).Perm ts:=by
   have ap:(ts.map (λx=>rp N (x*y))).Nodup:=by
    refine List.nodup_iff_pairwise_ne.2 ?_;rw[List.pairwise_map];have aN:ts.Nodup:=by rw[q];exact jg _
    refine(List.nodup_iff_pairwise_ne.1 aN).imp_of_mem (λ{a b} ha hb aO e=>aO ?_);have h1:=mg F.sn (a*y);rw[e] at h1;have J:=iY F.sn (nV F.sn h1) (mg F.sn (b*y));have K:=nN y⁻¹ _ (SL.inv _ (H y hy)) J;have e2:y⁻¹⁻¹ * ((a*y)⁻¹ * (b*y)*y⁻¹)=a⁻¹ * b:=by simp only[El.mi,El.ii,El.ass,El.ir,El.fB,El.or]
    rw[e2] at K;rw[q] at ha hb;exact ql F.sn ha hb K
   have aq:∀z∈ts.map (λx=>rp N (x*y)),z∈ts:=λz X=>by
    obtain⟨u,hu,rfl⟩:=List.mem_map.1 X;rw[q];exact nX F.sn I E (I.mul _ _ (p u hu) hy)
   refine(List.perm_ext_iff_of_nodup ap (by rw[q];exact jg _)).2 (λz=>⟨aq z,λX=>Classical.byContradiction λaR => ?_⟩);have h4:(z :: ts.map (λx=>rp N (x*y))).Nodup:=List.nodup_cons.2 ⟨aR,ap⟩
   have h5:=nodup_sub_len _ ts h4 (λw hw=>by
    rcases List.mem_cons.1 hw with rfl|hw
    ·exact X
    ·exact aq w hw)
   simp only[List.length_cons,List.length_map] at h5;omega
  have p1:=F.zj ((ao.map ν).symm) (λz X=>by
   obtain⟨u,hu,rfl⟩:=List.mem_map.1 X;exact(i u (p u hu)).1)
  rw[<-ht,List.map_map] at p1;refine iY F.sn p1 ?_
  have p2:eqv N (lp (ts.map (ν ∘ λx=>rp N (x*y)))) (lp (ts.map (λx=>y⁻¹ * (ν x*y)*ν y))):=by
   refine F.tG (λx hx => ?_) (λx hx => ?_)
   ·have:rp N (x*y)∈ts:=by rw[q];exact nX F.sn I E (I.mul _ _ (p x hx) hy)
    exact(i _ (p _ this)).1
   ·have hr:rp N (x*y)∈ts:=by rw[q];exact nX F.sn I E (I.mul _ _ (p x hx) hy)
    exact iY F.sn (am _ _ (p _ hr) (I.mul _ _ (p x hx) hy) (mg F.sn _)) (al x y (p x hx) hy)
  refine iY F.sn p2 ?_;have p3:=F.tH (f:=ν) (y:=y) (v:=ν y) (λx hx=>nM y x (H y hy) hx) (i y hy).1 (l:=ts) (λx hx=>(i x (p x hx)).1);rw[<-ht] at p3;exact p3
 obtain⟨s,hs⟩:∃s,s=ep t l:=⟨_,rfl⟩;have aT:M s:=by rw[hs];exact F.sm.ep W l
 have ar:∀y,C y->A (s⁻¹ * (y*s)):=λy hy=>by
  obtain⟨au,zy⟩:=i y hy;have aU:=H y hy;have h1:=F.ep W (O y hy) l;have J:=F.fE (nM y t aU W) (F.sm.ep au ts.length) l;rw[l8,<-fE,zx,nP,nQ,fE] at J;have K:=iY F.sn h1 J;rw[<-hs] at K;-- h3 : s alike (y⁻¹ s y) (ν y * n)
  obtain⟨n,r⟩:∃n,n=ep (ep (ν y) (bP P π)) m:=⟨_,rfl⟩;have aV:N n:=by rw[r];exact F.sn.ep (he _ au) m
  rw[<-r] at K;have h4:N (s⁻¹ * (y⁻¹ * (s*y)*(ν y*n))):=K;have h5:=F.sn.mul _ _ h4 (F.sn.inv _ aV);have e:s⁻¹ * (y⁻¹ * (s*y)*(ν y*n))*n⁻¹ = s⁻¹ * (y⁻¹ * (s*(y*ν y))):=by simp only[El.ass,El.ir,El.or]
  rw[e] at h5;have h6:=S.mul _ _ zy (S.inv _ (aA _ h5));have e2:y*ν y*(s⁻¹ * (y⁻¹ * (s*(y*ν y))))⁻¹ = s⁻¹ * (y*s):=by simp only[El.mi,El.ii,El.ass,El.fB]
  rwa [e2] at h6
 refine⟨g*s,SL.mul _ _ hg (R s aT),λx hx => ?_⟩;have:=ar _ (aI x hx);have e:s⁻¹ * (g⁻¹ * (x*g)*s)=(g*s)⁻¹ * (x*(g*s)):=by simp only[El.mi,El.ass]
 rwa [e] at this
def qw (Q:El G->Prop) (x:El G):Prop:=∀H,SG H->(∀y,Q y->H y)->H x
theorem tK (Q:El G->Prop):SG (qw Q):=⟨λ_ S _=>S.one,λ_ _ h k H S hH=>S.mul _ _ (h H S hH) (k H S hH),λ_ h H S hH=>S.inv _ (h H S hH)⟩
theorem tL {Q:El G->Prop}{x:El G}(h:Q x):qw Q x:=λ_ _ hH=>hH x h
theorem oh {H:El G->Prop}(S:SG H) (g:El G):SG (λx=>H (g⁻¹ * (x*g))):=by
 refine⟨?_,?_,?_⟩
 ·show H (g⁻¹ * (1*g));rw[El.ol,El.il];exact S.one
 ·intro x y hx hy
  have:=S.mul _ _ hx hy;have e:g⁻¹ * (x*g)*(g⁻¹ * (y*g))=g⁻¹ * (x*y*g):=by simp only[El.ass,El.fB]
  rwa [e] at this
 ·intro x hx
  have:=S.inv _ hx;have e:(g⁻¹ * (x*g))⁻¹ = g⁻¹ * (x⁻¹ * g):=by simp only[El.mi,El.ii,El.ass]
  rwa [e] at this
def fV (L:El G->Prop):Nat->El G->Prop
 | 0=>L
 | k+1=>qw (λz=>∃x y,fV L k x/\fV L k y/\z=x⁻¹ * (y⁻¹ * (x*y)))
theorem mz {L:El G->Prop}(S:SG L):∀k,SG (fV L k)
 | 0=>S
 | _+1=>tK _
theorem qx {L:El G->Prop}(S:SG L) (k:Nat):∀x,fV L (k+1) x->fV L k x:=λx hx=>
 hx _ (mz S k) (λz ⟨a,b,ha,g,e⟩=>by
  have R:=mz S k;rw[e];exact R.mul _ _ (R.inv _ ha) (R.mul _ _ (R.inv _ g) (R.mul _ _ ha g)))
theorem qy {L:El G->Prop}(S:SG L):∀k x,fV L k x->L x
 | 0,_,h=>h
 | k+1,x,h=>qy S k x (qx S k x h)
theorem qz {L:El G->Prop}(S:SG L):∀k,iy L (fV L k)
 | 0=>λg x i hx=>S.mul _ _ (S.inv _ i) (S.mul _ _ hx i)
 | k+1=>λg x i hx=>by
  have j:=qz S k;refine hx _ (oh (tK _) g) (λz ⟨a,b,ha,hb,e⟩=>tL ⟨g⁻¹ * (a*g),g⁻¹ * (b*g),j g a i ha,j g b i hb,?_⟩);rw[e];simp only[El.mi,El.ii,El.ass,El.fB]
theorem tM {L:El G->Prop} : ∀k,k<=P.orders.length->∀x,fV L k x->dT k x
 | 0,_,x,_=>kj x
 | k + 1,hk,x,hx=>by
  have j:=tM (L:=L) k (by omega);refine hx _ (jf hk) (λz ⟨a,b,ha,hb,e⟩ => ?_);have S:=jf (G:=G) (d:=k) (by omega);have g:=j a ha;have i:=j b hb
  have h1:=nS (x:=b*a) (y:=a*b) (show k<P.orders.length by omega) (S.mul _ _ i g) (S.mul _ _ g i) (by
   have l:=(G.right (show k<=P.orders.length by omega) a.2 (fN.1 i)).2 (by omega);have m:=(G.right (show k<=P.orders.length by omega) b.2 (fN.1 g)).2 (by omega);show gt (rMul P b.1 a.1) k=gt (rMul P a.1 b.1) k
   rw[l,m,Int.add_comm])
  rw[e];have n:a⁻¹ * (b⁻¹ * (a*b))=(b*a)⁻¹ * (a*b):=by rw[El.mi,El.ass]
  rw[n];exact h1
theorem tN {L:El G->Prop}(S:SG L) (π : Int->Prop):Dom L (λx=>x=1) π :=by
 have key:∀k,Dom L (fV L k) π :=by
  intro k;induction k with
  | zero=>exact zq S π
  | succ k A=>
   have j:=mz S k;have a:=mz S (k+1);have u:=qz S k;have m:=qz S (k+1);have b:=qy S k;have v:=qy S (k+1);have p:gG (fV L (k+1)) (fV L k):=⟨a,j,qx S k,lq m b,λx y hx hy=>tL ⟨x,y,hx,hy,rfl⟩⟩;-- between them: the elements whose power lies below
   obtain⟨E,l⟩:∃E:El G->Prop,E=λx=>fV L k x/\fV L (k+1) (ep x (aP P π)):=⟨_,rfl⟩
   have w:SG E:=by
    rw[l];refine⟨⟨j.one,by rw[kZ];exact a.one⟩,λx y hx hy=>⟨j.mul _ _ hx.1 hy.1,?_⟩,λx hx=>⟨j.inv _ hx.1,?_⟩⟩
    ·have h1:=nV a (p.fE hx.1 hy.1 (aP P π))
     have q:=a.mul _ _ (a.mul _ _ hx.2 hy.2) h1;rwa [El.fB] at q
    ·have h1:=p.fE hx.1 (j.inv _ hx.1) (aP P π)
     rw[El.ir,kZ] at h1
     have q:fV L (k+1) (ep x (aP P π)*ep x⁻¹ (aP P π)):=by
      unfold eqv at h1;rwa [El.io,El.ol] at h1
     have B:=a.mul _ _ (a.inv _ hx.2) q;rwa [El.iM] at B
   have n:∀x,E x->fV L k x:=λx hx=>by rw[l] at hx;exact hx.1
   have i:∀x,fV L (k+1) x->E x:=λx hx=>by rw[l];exact⟨qx S k x hx,a.ep hx _⟩
   have r:iy L E:=λg x z hx=>by
    rw[l] at hx ⊢;exact⟨u g x z hx.1,by rw[l8];exact m g _ z hx.2⟩
   have C:gG E (fV L k):=⟨w,j,n,lq r b,λx y hx hy=>i _ (p.ab x y hx hy)⟩
   have h1:Dom L E π := zw S C b r u (λx hx=>by
    rw[l];refine⟨j.ep hx _,?_⟩;rw[<-fE,Nat.mul_comm,tI];exact a.one) A
   exact zu w (λx hx=>b x (n x hx)) S i r (λx hx=>by rw[l] at hx;exact hx.2) h1
 have h:=key P.orders.length;have e:fV L P.orders.length=λx=>x=1:=funext λx=>propext ⟨λhx=>l9 (tM _ (Nat.le_refl _) x hx),λhx=>by rw[hx];exact(mz S _).one⟩;rwa [e] at h
theorem zz:SG (λx:El G=>x=1):=⟨rfl,λx y hx hy=>by rw[hx,hy,El.ol],λx hx=>by rw[hx,El.io]⟩
theorem om {d:Nat} : ¬pv (λx:El G=>x=1) d:=λ⟨_,x,hx,_,h0⟩=>h0 (by rw[hx];exact gt_replicate _ _)
theorem tO (G:Grp P) (π : Int->Prop):∀f i,i+f=P.orders.length->∃A:El G->Prop,SG A/\(∀x,A x->dT i x)/\∀d,pv A d↔(d<P.orders.length/\i<=d/\π (gt P.orders d))
 | 0,i,hi=>⟨λx=>x=1,zz,λx hx=>by rw[hx];exact(jf (by omega)).one,λd=>⟨λh=>absurd h om,λh=>by omega⟩⟩
 | f + 1,i,hi=>by
  obtain⟨K,j,p,n⟩:=tO G π f (i+1) (by omega);have a:i<P.orders.length:=by omega
  have ST:=jf (G:=G) (d:=i) (by omega);have D:=jf (G:=G) (d:=i+1) (by omega);have J:∀d,pv K d->π (gt P.orders d):=λd b=>((n d).1 b).2.2;have B:∀x,K x->ep x (aP P π)=1:=λx hx=>n9 j J hx;by_cases hp:π (gt P.orders i)
  ·-- an element beyond the tail that keeps K
   obtain⟨u,hu⟩:∃u:El G,u=⟨unitV P.orders.length i,(T.unit G.v (Nat.le_refl i) a).1⟩:=⟨_,rfl⟩;have L:dT i u:=by rw[hu];exact fN.2 (T.unit G.v (Nat.le_refl i) a)
   have ad:gt u.1 i=1:=by rw[hu];show gt (unitV P.orders.length i) i=1;rw[gt_unit _ _ _ a,if_pos rfl]
   have nT:∀g x:El G,dT i g->dT (i+1) x->dT (i+1) (g⁻¹ * (x*g)):=λg x I hx=>by
    have h1:=nS (x:=g) (y:=x*g) a I (ST.mul _ _ (lg hx) I) (by
     have e1:=(G.right (show i<=P.orders.length by omega) x.2 (fN.1 I)).2 a;show gt g.1 i=gt (rMul P x.1 g.1) i
     have hb:=g.2.2 i a;rw[e1,hx i (by omega),Int.zero_add,Int.emod_eq_of_lt hb.1 hb.2])
    exact h1
   obtain⟨C,hC⟩:∃C:El G->Prop,C=λx=>K (u*(x*u⁻¹)):=⟨_,rfl⟩
   have SC:SG C:=by
    have:=oh j u⁻¹;simp only[El.ii] at this;rw[hC];exact this
   have M:∀x,C x->∃y,K y/\x=u⁻¹ * (y*u):=λx hx=>by
    rw[hC] at hx;exact⟨_,hx,by simp only[El.ass,El.il,El.iM,El.or]⟩
   have af:∀x,K x->C (u⁻¹ * (x*u)):=λx hx=>by
    rw[hC];show K (u*(u⁻¹ * (x*u)*u⁻¹))
    have e:u*(u⁻¹ * (x*u)*u⁻¹)=x:=by simp only[El.ass,El.ir,El.fB,El.or]
    rw[e];exact hx
   obtain ⟨g,I,gN⟩:=tN D π K C j SC (λx hx=>by rw[hx];exact j.one) (λx hx=>by rw[hx];exact SC.one) p
    (λx hx=>by obtain⟨y,hy,rfl⟩:=M x hx;exact nT u y L (p y hy)) B
    (λx hx=>by
     obtain⟨y,hy,rfl⟩:=M x hx;rw[l8,B y hy,El.ol,El.il])
    (λd b hn hq=>by
     obtain⟨h1,x,hx,hT,h0⟩:=b;refine hn ((n d).2 ⟨h1,?_,hq⟩);refine Classical.byContradiction λO=>h0 (hx d (by omega)))
   obtain⟨y,hy⟩:∃y,y=u*g:=⟨_,rfl⟩
   have ai:∀x,K x->K (y⁻¹ * (x*y)):=λx hx=>by
    have:=gN _ (af x hx);have e:g⁻¹ * (u⁻¹ * (x*u)*g)=y⁻¹ * (x*y):=by rw[hy];simp only[El.mi,El.ass]
    rwa [e] at this
   have Q:dT i y:=by rw[hy];exact ST.mul _ _ L (lg I)
   have aj:gt y.1 i=1:=by
    have h1:dT (i+1) (u⁻¹ * y):=by rw[hy,El.iM];exact I
    rw[<-tu a h1];exact ad
   have ak:∀k x,K x->K ((ep y k)⁻¹ * (x*ep y k)):=by
    intro k;induction k with
    | zero=>intro x hx;show K ((1:El G)⁻¹ * (x*1));rw[El.io,El.ol,El.or];exact hx
    | succ k ih=>
     intro x hx;have:=ai _ (ih x hx)
     have e:y⁻¹ * ((ep y k)⁻¹ * (x*ep y k)*y)=(ep y (k+1))⁻¹ * (x*ep y (k+1)):=by
      show _=(ep y k*y)⁻¹ * (x*(ep y k*y))
      simp only[El.mi,El.ass]
     rwa [e] at this
   obtain⟨q,hq1,hq2,hq3⟩:=fG G a;-- the power that lies in K
   obtain⟨z,Z⟩:∃z,z=ep y (bP P π):=⟨_,rfl⟩;have E:dT i z:=by rw[Z];exact nR (by omega) Q _
   have al:gt z.1 i≠0:=by rw[Z];exact tq a Q (by rw[aj];decide) (kA (G:=G) a (zm G a hp))
   have R:∀k x,K x->K ((ep z k)⁻¹ * (x*ep z k)):=λk x hx=>by
    rw[Z,<-fE];exact ak _ x hx
   obtain⟨w,hw⟩:∃w,w=ep z q:=⟨_,rfl⟩;have am:dT (i+1) w:=by rw[hw,<-hq2];exact qu a E
   have an:ep w (aP P π)=1:=by
    have h1:=tI y π;rw[hw,<-fE,Z,<-fE,show bP P π * (q*aP P π)=aP P π * bP P π * q by rw[Nat.mul_comm (aP P π * bP P π) q,Nat.mul_comm (aP P π) (bP P π),Nat.mul_left_comm],fE,h1,kZ]
   have S:∀x,K x->∀k,K ((ep w k)⁻¹ * (x*ep w k)):=λx hx k=>by
    rw[hw,<-fE];exact R _ x hx
   -- powers of an element that keeps K, times K
   have U:∀v:El G,(∀k x,K x->K ((ep v k)⁻¹ * (x*ep v k)))->iy (λx=>∃k,x=ep v k) K/\SG (gM (λx=>∃k,x=ep v k) K):=by
    intro v hv;have hn:iy (λx=>∃k,x=ep v k) K:=λg x ⟨k,hk⟩ hx=>by rw[hk];exact hv k x hx
    refine⟨hn,SG.zk ⟨1,1,⟨0,rfl⟩,j.one,(El.ol _).symm⟩ ?_⟩;rintro x x' ⟨_,c,⟨k,rfl⟩,l,rfl⟩ ⟨_,c',⟨k',rfl⟩,ao,rfl⟩;refine⟨ep v (k+k'),(ep v k')⁻¹ * (c*ep v k')*c',⟨_,rfl⟩,j.mul _ _ (hv k' c l) ao,?_⟩;rw[nP];simp only[El.ass,El.fB]
   -- the power of z lies in K
   have ap:K w:=by
    obtain⟨nW,SW⟩:=U w (λk x hx=>S x hx k);obtain⟨W,V⟩:∃W,W=gM (λx=>∃k,x=ep w k) K:=⟨_,rfl⟩;rw[<-V] at SW;have aq:∀x,K x->W x:=λx hx=>by rw[V];exact⟨1,x,⟨0,rfl⟩,hx,(El.ol x).symm⟩
    have ar:∀x,W x->dT (i+1) x:=λx hx=>by
     rw[V] at hx;obtain⟨_,c,⟨k,rfl⟩,l,rfl⟩:=hx;exact D.mul _ _ (D.ep am k) (p c l)
    have au:∀x,W x->ep x (aP P π * aP P π)=1:=λx hx=>by
     rw[V] at hx;obtain⟨_,c,⟨k,rfl⟩,l,rfl⟩:=hx;obtain⟨m,hm,e⟩:=mj j nW ⟨k,rfl⟩ l (aP P π);rw[fE,e,<-fE,Nat.mul_comm,fE,an,kZ,El.ol];exact B m hm
    refine qh j SW aq (λd b => ?_) w (by rw[V];exact⟨w,1,⟨1,(nQ w).symm⟩,j.one,(El.or w).symm⟩);have F:=b.1;refine(n d).2 ⟨F,?_,Classical.byContradiction λhq => ?_⟩
    ·obtain ⟨_,x,hx,hT,h0⟩:=b
     exact Classical.byContradiction λO=>h0 (ar x hx d (by omega))
    ·have l:=mo G F hq
     exact kA (G:=G) F (Nat.Coprime.mul_right l l) (mq (N:=λx=>x=1) au b om)
   obtain⟨nZ,SZ⟩:=U z R;obtain⟨H,hH⟩:∃H,H=gM (λx=>∃k,x=ep z k) K:=⟨_,rfl⟩;rw[<-hH] at SZ;have aw:∀x,K x->H x:=λx hx=>by rw[hH];exact⟨1,x,⟨0,rfl⟩,hx,(El.ol x).symm⟩
   have X:∀x,H x->dT i x:=λx hx=>by
    rw[hH] at hx;obtain⟨_,c,⟨k,rfl⟩,l,rfl⟩:=hx;exact ST.mul _ _ (ST.ep E k) (lg (p c l))
   have ax:∀x,H x->ep x (q*aP P π)=1:=λx hx=>by
    rw[hH] at hx;obtain⟨_,c,⟨k,rfl⟩,l,rfl⟩:=hx;obtain⟨m,hm,e⟩:=mj j nZ ⟨k,rfl⟩ l q;rw[fE,e,<-fE,Nat.mul_comm,fE,<-hw];exact B _ (j.mul _ _ (j.ep ap k) hm)
   refine⟨H,SZ,X,λd=>⟨λb=>⟨b.1,?_,?_⟩,λb => ?_⟩⟩
   ·obtain ⟨_,x,hx,hT,h0⟩:=b
    exact Classical.byContradiction λO=>h0 (X x hx d (by omega))
   ·refine Classical.byContradiction λY => ?_
    obtain⟨r,g1,g2,g3⟩:=fG G b.1;have l:=mo G b.1 Y
    have ay:Nat.Coprime (gt P.orders d).toNat q:=by
     rw[g2];refine qm g3 hq3 (λe=>Y ?_);have:gt P.orders d=gt P.orders i:=by omega
     rw[this];exact hp
    exact kA (G:=G) b.1 (Nat.Coprime.mul_right ay l) (mq (N:=λx=>x=1) ax b om)
   ·by_cases az:d=i
    ·rw [az]
     exact⟨a,z,by rw[hH];exact⟨z,1,⟨1,(nQ z).symm⟩,j.one,(El.or z).symm⟩,E,al⟩
    ·exact gL aw ((n d).2 ⟨b.1,by omega,b.2.2⟩)
  ·refine ⟨K,j,λx hx=>lg (p x hx),λd=>⟨λh => ?_,λh => ?_⟩⟩
   ·have:=(n d).1 h
    exact⟨this.1,by omega,this.2.2⟩
   ·refine (n d).2 ⟨h.1,?_,h.2.2⟩
    rcases Nat.lt_or_ge i d with h1|h1
    ·exact h1
    ·have:d=i:=by omega
     subst this;exact absurd h.2.2 hp
theorem tP (G:Grp P) (π : Int->Prop):∃A:El G->Prop,SG A/\∀d,pv A d↔(d<P.orders.length/\π (gt P.orders d)):=by
 obtain⟨A,h1,_,a⟩:=tO G π P.orders.length 0 (Nat.zero_add _);exact⟨A,h1,λd=>(a d).trans ⟨λh=>⟨h.1,h.2.2⟩,λh=>⟨h.1,Nat.zero_le _,h.2⟩⟩⟩
theorem tQ {π : Int->Prop}{A B:El G->Prop}(a:SG A) (b:SG B) (i:∀d,pv A d↔(d<P.orders.length/\π (gt P.orders d))) (hB:∀d,pv B d->π (gt P.orders d)):∃g,∀x,B x->A (g⁻¹ * (x*g)):=by
 have ST:=jf (G:=G) (d:=0) (Nat.zero_le _)
 obtain ⟨g,_,hg⟩:=tN ST π A B a b (λx hx=>by rw[hx];exact a.one) (λx hx=>by rw[hx];exact b.one) (λx _=>kj x) (λx _=>kj x)
  (λx hx=>n9 a (λd e=>((i d).1 e).2) hx) (λx hx=>n9 b hB hx) (λd e j k=>j ((i d).2 ⟨e.1,k⟩))
 exact⟨g,hg⟩
end
end Go.Proofs.YtdcobapnlpeaaaaGreat
namespace Go.Proofs.YtdcobapnlpeaaaaGreat
open Go.RowKit
def conjL (P:Pr) (L:List (List Int)) (X:List Int):List (List Int):=L.map (λy=>rConj P y X)
theorem conjugates_ok (P:Pr) (G:Grp P) (w:World) (p I J:Value) (L:List (List Int)) (X:List Int) (K M N:Nat->Prop) (O:PresP K w p P) (Q:Rows2 M w I L) (R:∀y∈L,Vec P.orders y) (S:L.length<=10000) (hx:Ints N w J X) (T:Vec P.orders X) :
  Calls Tryz.prog 230 #[p,I,J] w (Ret w λw' v=>RowsO w.heap.size w' v (conjL P L X)):=by
 have hP:=G.v;have W:=hP.n6;obtain⟨pb,po,rfl⟩:=O.shape;obtain⟨al,capl,rfl,_,_⟩:=Sl.shape Q;obtain⟨ax,capx,rfl,_,_⟩:=hx.shape;have z:=Lib.hid (And.intro R T);clear R T;have l:(conjL P L X).length=L.length:=by unfold conjL;rw[List.length_map]
 have e:=Lib.hid l;clear l;go_enter Tryz.func230,Tryz.ntmps230;go_wp2;go_loopw [7,12] (λY B wr=>∃(k:Nat) (v4:Value),v4=Y/\B=.int .i64 k/\k<=L.length/\Ext w wr/\RowsO w.heap.size wr v4 ((conjL P L X).take k)) (λ_ B _=>L.length-(intOf B).toNat)
 case atStart=>exact⟨0,_,rfl,rfl,by omega,Ext.refl _,SlO.nil _ _ _ _⟩
 case round=>
  obtain⟨k,v4,rfl,rfl,hk,i,hO⟩:=hrel;by_cases g:k<L.length
  ·have U:(k:Int)<L.length:=by omega
   obtain⟨b,off,a2,cap2,rfl,_,_,hc,Z⟩:=Rows2.at (Rows2.ext Q i) k g;have m:=z.out.1 _ (gtMem g)
   have a:(conjL P L X).take (k+1)=(conjL P L X).take k++[rConj P (gt L k) X]:=by
    rw[take_succ_gt _ k (by rw[e.out];exact g)];unfold conjL;rw[gt_map _ _ _ g]
   have C:((conjL P L X).take k).length<=1000000:=by rw[List.length_take];have:=e.out;omega
   have A:=Lib.hid (And.intro a m);clear a m;go_wp2_with fail
   refine Calls.mono (conjugate_ok P hP wr _ _ _ (gt L k) X K M N (O.ext i) Z (hx.ext i) A.out.2 z.out.2) ?_;rintro eC V ⟨vC,rfl,D,n⟩;rw[G.iConj_eq A.out.2 z.out.2] at n;have q:=G.conjV A.out.2 z.out.2;have r:OwnIn (From wr.heap.size) V vC (rConj P (gt L k) X):=OwnIn.of n (by rw[q.1];omega) (λj h1 _=>h1);obtain⟨ay,capy,gK,_,_⟩:=r.ints.shape;subst gK;clear hc q;go_wp2_with (first|(at_builtin;refine wp_app_row rfl _ _ rfl w.heap.size wr V v4 _ ((conjL P L X).take k) (rConj P (gt L k) X) rfl hO D r rfl rfl C i.size ?_;intro v5 w5 E F ac;have u:=hO.extw i (Nat.le_refl _) F)|fail)
   go_roundw
   case rel=>exact⟨k+1,v5,rfl,by go_num,by omega,u,by rw[A.out.1];exact E⟩
   case measure=>simp[intOf];omega
  ·have H:k=L.length:=by omega
   subst H;rw[List.take_of_length_le (by rw[e.out];exact Nat.le_refl _)] at hO;obtain⟨az,capz,fk,_,_⟩:=SlD.shape (hO.toD (by rw[e.out];omega));subst fk;go_wp2;go_ret;exact⟨_,rfl,i,hO⟩
theorem conjugateSubgroup_ok (P:Pr) (G:Grp P) (w:World) (p j k:Value) (L:List (List Int)) (X:List Int) (l q r:Nat->Prop) (m:PresP l w p P) (u:Rows2 q w j L) (A:∀y∈L,Vec P.orders y) (e:L.length<=10000) (hx:Ints r w k X) (B:Vec P.orders X) :
  Calls Tryz.prog 132 #[p,j,k] w (Ret w λw' v=>RowsO w.heap.size w' v (cseq P (genP P (λz=>z∈conjL P L X)))):=by
 have g:(conjL P L X).length=L.length:=by unfold conjL;rw[List.length_map]
 have a:=conjugates_ok P G w p j k L X l q r m u A e hx B;obtain⟨pb,po,rfl⟩:=m.shape;obtain⟨F,capl,rfl,_,_⟩:=Sl.shape u;obtain⟨H,capx,rfl,_,_⟩:=hx.shape
 have i:∀z∈conjL P L X,Vec P.orders z:=λz C=>by
  unfold conjL at C;obtain⟨y,hy,rfl⟩:=List.mem_map.1 C;exact G.conjV (A y hy) B
 have n:=Lib.hid (And.intro i g);clear i g;go_enter Tryz.func132,Tryz.ntmps132;go_wp2_with fail
 refine Calls.mono a ?_;rintro I E ⟨v1,rfl,b,hO⟩;clear a;have D:=RowsD.rows (hO.toD (by rw[n.out.2];omega));obtain⟨a1,cap1,lU,_,_⟩:=Sl.shape D;subst lU;go_wp2_with fail
 refine Calls.mono (generated_ok P G E _ _ (conjL P L X) l _ (m.ext b) D n.out.1 (by rw[n.out.2];omega)) ?_;rintro J K ⟨M,rfl,hg2,nG⟩;go_wp2;go_ret;exact⟨_,rfl,grown_trans b hg2,nG.weak b.size⟩
end Go.Proofs.YtdcobapnlpeaaaaGreat
