/- Merged from templates. -/
import Derived.Test.YtoakmefajbbggaaGreatM1
import Derived.BigRegion
import Derived.Deep.LoopGhost
namespace Go.Proofs.YtoakmefajbbggaaGreat
structure GrpOn {α:Type}(S:α->Prop) (m:α->α->α) (e:α):Prop extends MonOn S m e where
 inv:∀x,S x->∃y,S y/\m x y=e/\m y x=e
section
variable {α:Type}{S:α->Prop}{m:α->α->α}{e:α}
theorem GrpOn.Pw (M:MonOn S m e) (h:∀x,S x->∃y,S y/\m x y=e):GrpOn S m e:=by
 refine⟨M,λx hx => ?_⟩;obtain⟨y,hy,h1⟩:=h x hx;obtain⟨z,hz,h2⟩:=h y hy
 have:x=z:=by
  have a:m (m x y) z=m x (m y z):=M.ass x y z hx hy hz;rw[h1,h2,M.el z hz,M.er x hx] at a;exact a.symm
 exact⟨y,hy,h1,by rw[this];exact h2⟩
theorem GrpOn.cancel (G:GrpOn S m e) {a x y:α}(ha:S a) (hx:S x) (hy:S y) (h:m a x=m a y):x=y:=by
 obtain⟨b,i,_,h2⟩:=G.inv a ha;have j:m b (m a x)=m b (m a y):=by rw[h]
 rw[<-G.ass b a x i ha hx,<-G.ass b a y i ha hy,h2,G.el x hx,G.el y hy] at j;exact j
theorem GrpOn.Hy (G:GrpOn S m e) {a b:α}(ha:S a) (i:S b) (h:m a b=e):m b a=e:=by
 obtain⟨c,hc,h1,h2⟩:=G.inv a ha;have:b=c:=G.cancel ha i hc (by rw[h,h1]);rw[this];exact h2
theorem GrpOn.solve (G:GrpOn S m e) {a b x y:α}(ha:S a) (j:S b) (hx:S x) (hy:S y) (i:m a b=e):m b x=y↔x=m a y:=by
 have k:=G.Hy ha j i;constructor
 ·intro h;rw[<-h,<-G.ass a b x ha j hx,i,G.el x hx]
 ·intro h;rw[h,<-G.ass b a y j ha hy,k,G.el y hy]
def kG (m:α->α->α) (φ : α->α) (w:α) (o:Nat) (p q:Nat × α):Nat × α:=
 if o<=p.1+q.1 then (p.1+q.1-o,m w (m (iter q.1 φ p.2) q.2)) else (p.1+q.1,m (iter q.1 φ p.2) q.2)
structure lQ (S:α->Prop) (m:α->α->α) (e:α) (φ : α->α) (w:α) (o:Nat):Prop where
 o2:2<=o
 fS:GrpOn S m e
 cl:∀x,S x->S (φ x)
 yO:∀x y,S x->S y->φ (m x y)=m (φ x) (φ y)
 wS:S w
 Px : φ w=w
 root:∀x,S x->m w (iter o φ x)=m x w
variable {φ : α->α}{w:α}{o:Nat}
theorem lQ.nQ (E:lQ S m e φ w o) (k:Nat) (x:α) (hx:S x):S (iter k φ x):=jN S φ E.cl k x hx
theorem lQ.AY (E:lQ S m e φ w o) (k:Nat) (x y:α) (hx:S x) (hy:S y):iter k φ (m x y)=m (iter k φ x) (iter k φ y):=by
 induction k with
 | zero=>rfl
 | succ k a=>show φ (iter k φ (m x y))=_;rw[a];exact E.yO _ _ (E.nQ k x hx) (E.nQ k y hy)
theorem lQ.iw (E:lQ S m e φ w o) (k:Nat):iter k φ w=w:=by
 induction k with
 | zero=>rfl
 | succ k a=>show φ (iter k φ w)=w;rw[a];exact E.Px
theorem lQ.one (E:lQ S m e φ w o):φ e=e:=by
 have h:=E.yO e e E.fS.one E.fS.one;rw[E.fS.el e E.fS.one] at h;have c:=E.cl e E.fS.one;exact(E.fS.cancel c E.fS.one c (by rw[E.fS.er _ c];exact h)).symm
theorem lQ.Dg (E:lQ S m e φ w o) (k:Nat):iter k φ e=e:=by
 induction k with
 | zero=>rfl
 | succ k a=>show φ (iter k φ e)=e;rw[a];exact E.one
theorem lQ.draw (E:lQ S m e φ w o) (k:Nat) (hk:o<=k) (x:α) (hx:S x):m (iter (k-o) φ x) w=m w (iter k φ x):=by
 rw[<-E.root _ (E.nQ _ x hx),<-BN,show o+(k-o)=k by omega]
def nR (S:α->Prop) (o:Nat) (p:Nat × α):Prop:=p.1<o/\S p.2
theorem lQ.Py (E:lQ S m e φ w o) (p q:Nat × α) (i:nR S o p) (j:nR S o q):nR S o (kG m φ w o p q):=by
 obtain⟨a,x⟩:=p;obtain⟨b,y⟩:=q;obtain⟨ha,hx⟩:=i;obtain⟨k,hy⟩:=j;have c:=E.fS.cl _ _ (E.nQ b x hx) hy;simp only at ha k hx hy;unfold kG;simp only;split
 ·exact⟨by show a+b-o<o;omega,E.fS.cl _ _ E.wS c⟩
 ·exact⟨by show a+b<o;omega,c⟩
theorem lQ.Pz (E:lQ S m e φ w o) (p q r:Nat × α) (G:nR S o p) (H:nR S o q) (I:nR S o r):kG m φ w o (kG m φ w o p q) r=kG m φ w o p (kG m φ w o q r):=by
 obtain⟨a,x⟩:=p;obtain⟨b,y⟩:=q;obtain⟨c,z⟩:=r;obtain⟨ha,hx⟩:=G;obtain⟨J,hy⟩:=H;obtain⟨K,u⟩:=I;simp only at ha J K hx hy u;have M:=E.fS.toMonOn;have A:=E.wS;have c1:=E.nQ b x hx;have c2:=E.nQ c _ c1;have c3:=E.nQ c y hy;have c4:=M.cl _ _ c1 hy;have c5:=M.cl _ _ c3 u;-- the left side's inner part, and the right side's
 have B:iter c φ (m (iter b φ x) y)=m (iter c φ (iter b φ x)) (iter c φ y):=E.AY c _ _ c1 hy;have k:iter c φ (m w (m (iter b φ x) y))=m w (m (iter c φ (iter b φ x)) (iter c φ y)):=by rw[E.AY c _ _ A c4,E.iw,B]
 have i:iter (b+c) φ x=iter c φ (iter b φ x):=by rw[Nat.add_comm,BN]
 have c6:=M.cl _ _ c2 c3;have C:m (m (iter c φ (iter b φ x)) (iter c φ y)) z=m (iter c φ (iter b φ x)) (m (iter c φ y) z):=M.ass _ _ _ c2 c3 u;have l:m (m w (m (iter c φ (iter b φ x)) (iter c φ y))) z=m w (m (iter c φ (iter b φ x)) (m (iter c φ y) z)):=by rw[M.ass _ _ _ A c6 u,C]
 have F:o<=b+c->m (iter (b+c-o) φ x) (m w (m (iter c φ y) z))=m w (m (iter c φ (iter b φ x)) (m (iter c φ y) z)):=by
  intro h;rw[<-M.ass _ _ _ (E.nQ _ x hx) A c5,E.draw _ h x hx,i,M.ass _ _ _ A c2 c5]
 unfold kG;by_cases D:o<=a+b
 ·by_cases d1:o<=b+c
  ·simp only[if_pos D,if_pos d1]
   by_cases j:o<=a+b-o+c
   ·have d2:o<=a+(b+c-o):=by omega
    simp only[if_pos j,if_pos d2];rw[k,l,F d1,show a+b-o+c-o=a+(b+c-o)-o by omega]
   ·have d2:¬o<=a+(b+c-o):=by omega
    simp only[if_neg j,if_neg d2];rw[k,l,F d1,show a+b-o+c=a+(b+c-o) by omega]
  ·simp only[if_pos D,if_neg d1]
   have j:¬o<=a+b-o+c:=by omega
   have d2:o<=a+(b+c):=by omega
   simp only[if_neg j,if_pos d2];rw[k,l,i,show a+b-o+c=a+(b+c)-o by omega]
 ·by_cases d1:o<=b+c
  ·simp only[if_neg D,if_pos d1]
   have j:o<=a+b+c:=by omega
   have d2:¬o<=a+(b+c-o):=by omega
   simp only[if_pos j,if_neg d2];rw[B,C,F d1,show a+b+c-o=a+(b+c-o) by omega]
  ·simp only[if_neg D,if_neg d1]
   by_cases j:o<=a+b+c
   ·have d2:o<=a+(b+c):=by omega
    simp only[if_pos j,if_pos d2];rw[B,C,i,show a+b+c-o=a+(b+c)-o by omega]
   ·have d2:¬o<=a+(b+c):=by omega
    simp only[if_neg j,if_neg d2];rw[B,C,i,show a+b+c=a+(b+c) by omega]
theorem lQ.group (E:lQ S m e φ w o):GrpOn (nR S o) (kG m φ w o) (0,e):=by
 have M:=E.fS.toMonOn;have j:=E.o2
 have b:MonOn (nR S o) (kG m φ w o) (0,e):=by
  refine⟨E.Py,⟨by show 0<o;omega,M.one⟩,E.Pz,?_,?_⟩
  ·rintro ⟨a,x⟩ ⟨ha,hx⟩
   simp only at ha hx;unfold kG;simp only[Nat.zero_add,if_neg (by omega:¬o<=a),E.Dg,M.el x hx]
  ·rintro ⟨a,x⟩ ⟨ha,hx⟩
   simp only at ha hx;unfold kG;simp only[Nat.add_zero,if_neg (by omega:¬o<=a)];show(a,m x e)=(a,x)
   rw[M.er x hx]
 refine GrpOn.Pw b ?_;rintro⟨a,x⟩ ⟨ha,hx⟩;simp only at ha hx;by_cases i:a=0
 ·subst i
  obtain⟨y,hy,h1,_⟩:=E.fS.inv x hx;refine⟨(0,y),⟨by show 0<o;omega,hy⟩,?_⟩;unfold kG;simp only[Nat.add_zero,if_neg (by omega:¬o<=0)];show(0,m x y)=(0,e)
  rw[h1]
 ·obtain ⟨y,hy,h1,_⟩:=E.fS.inv _ (M.cl _ _ E.wS (E.nQ (o-a) x hx))
  refine⟨(o-a,y),⟨by show o-a<o;omega,hy⟩,?_⟩;unfold kG;simp only[if_pos (by omega:o<=a+(o-a))];rw[<-M.ass _ _ _ E.wS (E.nQ _ x hx) hy,h1,show a+(o-a)-o=0 by omega]
theorem GrpOn.carry {l:Type}{S':l->Prop}{r:l->l->l}{e':l}(G:GrpOn S m e) (f:α->l) (q:∀x,S x->S' (f x)) (i:∀y,S' y->∃x,S x/\f x=y) (u:f e=e')
  (k:∀x y,S x->S y->r (f x) (f y)=f (m x y)):GrpOn S' r e':=by
 subst u;refine⟨⟨?_,q e G.one,?_,?_,?_⟩,?_⟩
 ·intro x y hx hy
  obtain⟨a,ha,rfl⟩:=i x hx;obtain⟨b,j,rfl⟩:=i y hy;rw[k a b ha j];exact q _ (G.cl _ _ ha j)
 ·intro x y z hx hy w
  obtain⟨a,ha,rfl⟩:=i x hx;obtain⟨b,j,rfl⟩:=i y hy;obtain⟨c,p,rfl⟩:=i z w;rw[k a b ha j,k _ c (G.cl _ _ ha j) p,k b c j p,k a _ ha (G.cl _ _ j p),G.ass a b c ha j p]
 ·intro x hx
  obtain⟨a,ha,rfl⟩:=i x hx;rw[k e a G.one ha,G.el a ha]
 ·intro x hx
  obtain⟨a,ha,rfl⟩:=i x hx;rw[k a e ha G.one,G.er a ha]
 ·intro x hx
  obtain⟨a,ha,rfl⟩:=i x hx;obtain⟨b,j,h1,h2⟩:=G.inv a ha;exact⟨f b,q b j,by rw[k a b ha j,h1],by rw[k b a j ha,h2]⟩
end
end Go.Proofs.YtoakmefajbbggaaGreat
namespace Go.Proofs.YtoakmefajbbggaaGreat
open Go.RowKit
set_option maxHeartbeats 2000000 in
theorem PA (P:Pr) (hP:Valid P):xC P 0:=by
 intro w pv a b i A B r u y z m ha C D hB;obtain⟨vo,vp,vc,rfl,h3⟩:=m;have p:=hP.n6;have j:=fB.box h3 28;obtain⟨E,iA,gJ,hoi⟩:=j.iO;have e:(i:Int)=P.orders.length:=by omega
 have q:((P.orders.length:Int)<=(i:Int)):=by omega
 have F:=Lib.hid e;clear e;go_enter Tryz.func192,Tryz.ntmps192;go_wp2_with (at_make;refine lU rfl _ _ rfl (w.heap.size+1) P.orders.length (w.heap.size+1) (by simp) _ rfl rfl rfl (by omega) (by simp) ?_;intro G k l _)
 go_ret;exact⟨_,rfl,dy (World.grownBy_alloc _ _ _) l,k.weak (by omega)⟩
set_option maxHeartbeats 4000000 in
theorem PB (P:Pr) (hP:Valid P) (f:Nat) (ih:xC P f):xC P (f+1):=by
 intro w pv a b i A B Sp Sa Sb hi hp ha hb hA hB;obtain⟨vo,vp,vc,rfl,h3⟩:=hp;have bj:=hP.n6;have D:=fB.box h3 28;have N:=ha.ext (World.grownBy_alloc w (.cells #[vo,vp,vc] 28) none);have O:=hb.ext (World.grownBy_alloc w (.cells #[vo,vp,vc] 28) none);have bk:A.length<=P.orders.length/\P.orders.length<=A.length:=by rw[hA.1];omega
 have bl:B.length<=P.orders.length/\P.orders.length<=B.length:=by rw[hB.1];omega
 have aJ:Ext w (w.alloc (.cells #[vo,vp,vc] 28)):=World.grownBy_alloc _ _ _;have ag:(w.alloc (.cells #[vo,vp,vc] 28)).heap.size=w.heap.size+1:=by simp
 have HS:=Lib.hid ag;clear ag;clear ha hb;go_enter Tryz.func192,Tryz.ntmps192;obtain⟨ao,iA,gJ,k⟩:=D.iO;go_wp2_with fail
 clear gJ k;generalize aL:w.alloc (.cells #[vo,vp,vc] 28)=w0 at *;clear aL;refine Calls.mono (mD w0 a A Sa N (by omega)) ?_;rintro e1 w1 ⟨L,rfl,E,hL⟩;go_wp2_with fail
 refine Calls.mono (mD w1 b B Sb (O.ext E) (by omega)) ?_;rintro e2 w2 ⟨R,rfl,Q,hR⟩;have F:=hL.gw Q;obtain⟨gl,qi,rfl,hbl,OW⟩:=hL.form (by omega);obtain⟨gr,tQ,rfl,hbr,PC⟩:=hR.form (by omega);have ah:gl≠gr:=by omega
 have c1:=F.cell i (by omega);have f1:=F.frozen i;obtain⟨ai,S⟩:=F.store i 0;have G:=hR.ext S (.inr (by intro h;cases h;exact ah rfl));have c2:=G.cell i (by omega);have f2:=G.frozen i;obtain⟨aj,hg4⟩:=G.store i 0;have ak:=ai.ext hg4 (.inr (by intro h;cases h;exact ah rfl))
 have al:Ext w0 ((w2.setCell ⟨gl,i,none⟩ (.int .i64 0)).setCell ⟨gr,i,none⟩ (.int .i64 0)):=
  fu (fu (dy E Q) S (λj hj an=>by cases hj;omega)) hg4 (λj hj an=>by cases hj;have:=E.size;omega)
 have aO:=hA.set i 0 ⟨by omega,λ_=>by have:=hP.gh i (by omega);omega⟩;have aq:=hB.set i 0 ⟨by omega,λ_=>by have:=hP.gh i (by omega);omega⟩;have bn:=E.size;have bq:=Q.size;have T:=hA.2 i (by omega);have U:=hB.2 i (by omega);have k:=hP.gh i (by omega);have a5:0<=gt A i:=T.1;have a6:0<=gt B i:=U.1;have a7:2<=gt P.orders i:=k.1;have a8:gt A i<gt P.orders i:=T.2;have a9:gt B i<gt P.orders i:=U.2;have a':gt P.orders i<=7:=k.2;clear T U k;go_wp2;clear c1 f1 c2 f2 F ai G hL hR;generalize aP:(w2.setCell ⟨gl,i,none⟩ (.int .i64 0)).setCell ⟨gr,i,none⟩ (.int .i64 0)=w4 at *;clear aP S hg4;obtain⟨ab,ql,rfl,_,_⟩:=O.shape;obtain⟨aa,vr,rfl,_,_⟩:=N.shape
 go_loopw [10,12] (λv mm wr=>∃m:Nat,mm=.int .i64 m/\m<=(gt B i).toNat/\Ext w4 wr /\
   Own (w.heap.size+1) wr v (iter m (λl=>gF P f i l) (A.set i 0))) (λ_ mm _=>(gt B i).toNat-(intOf mm).toNat)
 case atStart=>exact⟨0,rfl,by omega,Ext.refl _,ak.weak (by have:=HS.out;omega)⟩
 case round=>
  obtain⟨m,rfl,hm,hg,hO⟩:=hrel;have H:Ext w0 wr:=dy al hg;obtain⟨bb,ob,rfl,_,_,hcb⟩:=Ints.at (O.ext H) i (by omega);have V:dL P.orders (iter m (λl=>gF P f i l) (A.set i 0)):=jN (dL P.orders) _ (λy hy=>tq hP f i hi (jy hP f) _ _ (lV hP) f (Nat.le_refl _)) _ _ aO;have HV:=Lib.hid V;have W:=hO.ints (by rw[V.1];omega);clear V;obtain⟨ar,qZ,rT,_,_,hc0,hc1,I,kR⟩:=(D.ext H).at;by_cases au:(m:Int)<gt B i
  ·go_wp2_with fail
   refine Calls.mono (uB P hP f ih wr _ _ i _ Any Any hi ⟨_,_,_,rfl,kR⟩ W HV.out) ?_;rintro e5 w5 ⟨v5,rfl,mV,tX⟩;go_wp2;go_roundw
   case rel=>exact⟨m+1,by go_num,by omega,dy hg mV,tX.weak (by have:=H.size;have:=HS.out;omega)⟩
   case measure=>simp[intOf];omega
  ·have aS:m=(gt B i).toNat:=by omega
   subst aS;have av:=aj.gw hg;generalize r:iter (gt B i).toNat (λl=>gF P f i l) (A.set i 0)=left at *;have HL:=Lib.hid r;clear r;go_wp2_with fail
   refine Calls.mono (ih wr _ _ _ (i+1) left (B.set i 0) Any Any Any (by omega) ⟨_,_,_,rfl,kR⟩ W (av.ints (by simp;omega)) HV.out aq) ?_;rintro e6 w6 ⟨rest,rfl,qL,Hz⟩;have u:Ext w0 w6:=dy H qL;obtain⟨ba,oa,rfl,_,_,hca⟩:=Ints.at (N.ext u) i (by omega);have aw:w6.cell? ⟨bb,ob+i,none⟩=some (.int .i64 (gt B i)):=qL.cell hcb (by simp);have ax:=jy hP f (i+1) _ _ (by omega) HV.out aq;have z:=Lib.hid ax;clear ax;clear hc0 hc1 I hcb W hO kR av aj ak au hm;generalize C:fE P f (i+1) left (B.set i 0)=e at *;have J:=Lib.hid C;clear C;have bu:i<A.length:=by omega
   have bc:i<B.length:=by omega
   have s1:IntKind.i64.wrap (gt A i+gt B i)=gt A i+gt B i:=IntWalk.i64_in _ (by omega);go_wp2;go_quiet (fail)
   clear s1 hca aw
   have K:fE P (f+1) i A B=if gt P.orders i<=gt A i+gt B i then (fE P f (i+1) (gt P.eH i) e).set i (gt A i+gt B i-gt P.orders i) else e.set i (gt A i+gt B i):=by
    rw[<-J.out,<-HL.out];rfl
   have HF:=Lib.hid K;clear K;rename_i nq _;have p:Ext w0 (w6.drewN nq):=dy u (iI _ _ _);have ay:Own wr.heap.size (w6.drewN nq) rest e:=Hz;have X:=ay.ints (by rw[z.out.1];omega);have Y:=D.ext p;obtain⟨bw,PD,gJ,k⟩:=Y.iO;obtain⟨bo,oo,rfl,_,_,ni⟩:=Ints.at k i (by omega);obtain⟨ap,kS,Z,yP⟩:=Y.rP;obtain⟨bp,op,aU,ac,rfl,_,_,qM,aV⟩:=dK.at yP i (by rw[hP.pl];omega);have bx:i<P.eH.length:=by rw[hP.pl];omega
   have bd:wr.heap.size<=(w6.drewN nq).heap.size:=qL.size;clear Hz u Y k yP;generalize w6.drewN nq=M at *;by_cases hc:gt P.orders i<=gt A i+gt B i
   case' pos=>
    have az:=Lib.hid (HF.out.trans (if_pos hc));clear HF;obtain⟨ar,qZ,rT,_,_,hc0,hc1,I,kR⟩:=(D.ext p).at;have s3:IntKind.i64.wrap ((i:Int)+1)=(i:Int)+1:=IntWalk.i64_in _ (by omega);have s4:IntKind.i64.wrap (gt A i+gt B i-gt P.orders i)=gt A i+gt B i-gt P.orders i:=IntWalk.i64_in _ (by omega);have e1:∀w',Ext M w'->w'.cell? ⟨w.heap.size,0,none⟩=some ar:=λw' h=>h.cell hc0 (by simp);have e2:∀w',Ext M w'->w'.cell? ⟨w.heap.size,1,none⟩=some (.slice (some ⟨bp,op,none⟩) P.eH.length kS):=λw' h=>h.cell (by simpa using Z) (by simp);have e3:∀w',Ext M w'->w'.cell? ⟨w.heap.size,2,none⟩=some rT:=λw' h=>h.cell (by simpa using I) (by simp);have e4:∀w',Ext M w'->w'.cell? ⟨bp,op+i,none⟩=some (.slice aU (gt P.eH i).length ac):=λw' h=>h.cell qM (by simp)
    have aW:qZ=.slice (some ⟨bp,op,none⟩) P.eH.length kS:=by
     have:=hc1.symm.trans Z;simpa using this
    subst aW;have b3:(i:Int)<P.eH.length:=by omega
    have aA:=(hP.pv i (by omega)).1;have aB:=Lib.hid aA;clear aA;clear I hc1 Z;go_wp2;clear gJ ni qM
    go_region_held3 (λw'=>Ext M w') (first|exact fk _ _|exact ad)
      (first|(go_at_call 192;refine Calls.mono (Calls.rel (w0:=M) (by assumption) (ih _ _ _ _ (i+1) (gt P.eH i) e Any Any Any (by omega) ⟨_,_,_,rfl,fA.ext kR (by assumption)⟩ (Ints.ext aV (by assumption)) (Ints.ext X (by assumption)) aB.out z.out)) ?_;rintro e8 w8 ⟨v8,rfl,ad,Vp,aY⟩))
    have aC:=jy hP f (i+1) _ _ (by omega) aB.out z.out;have aD:(fE P f (i+1) (gt P.eH i) e).length=P.orders.length:=aC.1;clear e1 e2 e3 e4 s3 s4 aC;go_wp2_with fail
    refine Calls.mono (mD w8 v8 (fE P f (i+1) (gt P.eH i) e) Any (aY.ints (by omega)) (by omega)) ?_;have bE:w0.heap.size<=w8.heap.size:=by have:=p.size;have:=ad.size;omega
    have q:Ext w0 w8:=dy p ad;generalize fE P f (i+1) (gt P.eH i) e=fin at *;generalize ae:gt A i+gt B i-gt P.orders i=cc at *
   case' neg=>
    have az:=Lib.hid (HF.out.trans (if_neg hc));clear HF;have aD:e.length=P.orders.length:=z.out.1;go_wp2_with fail
    refine Calls.mono (mD M rest e Any X (by omega)) ?_;have q:Ext w0 M:=p;generalize ae:gt A i+gt B i=cc at *;clear X ay z J;generalize e=fin at *
   all_goals
    have bF:=Lib.hid ae;clear ae;have bf:fin.length<=P.orders.length/\P.orders.length<=fin.length:=by omega
    clear aD;rintro e9 w9 ⟨v9,rfl,aZ,AZ⟩;obtain⟨g9,PE,rfl,Vq,vu⟩:=AZ.form (by omega);have c9:=AZ.cell i (by omega);have f9:=AZ.frozen i;obtain⟨aE,aF⟩:=AZ.store i cc;have bG:i<fin.length:=by omega
    go_wp2;go_ret;refine⟨_,rfl,?_,?_⟩
    ·exact dy aJ (fu (dy q aZ) aF (λj hj an=>by cases hj;have:=q.size;omega))
    ·rw[az.out];exact aE.weak (by have:=q.size;have:=HS.out;omega)
theorem lR (P:Pr) (hP:Valid P) (f:Nat):xC P f:=by
 induction f with
 | zero=>exact PA P hP
 | succ f a=>exact PB P hP f a
def fC (P:Pr) (A B:List Int):List Int:=fE P P.orders.length 0 A B
set_option maxHeartbeats 1000000 in
theorem qN (P:Pr) (hP:Valid P) (w:World) (pv a b:Value) (A B:List Int) (k i j:Nat->Prop) (l:gy k w pv P) (ha:Ints i w a A) (m:Ints j w b B) (p:dL P.orders A) (hB:dL P.orders B) :
  Calls Tryz.prog 169 #[pv,a,b] w (fq w λw' v=>Own w.heap.size w' v (fC P A B)):=by
 obtain⟨vo,vp,vc,rfl,q⟩:=l;go_enter Tryz.func169,Tryz.ntmps169;obtain⟨r,qZ,rT,_,_,hc0,hc1,hc2,kR⟩:=(fB.box q 28).at;go_wp2_with fail
 refine Calls.mono (lR P hP P.orders.length _ _ _ _ 0 A B Any i j (by omega) ⟨_,_,_,rfl,kR⟩ (ha.ext (World.grownBy_alloc _ _ _)) (m.ext (World.grownBy_alloc _ _ _)) p hB) ?_;rintro u y ⟨v1,rfl,e,nS⟩;go_wp2;go_ret;exact⟨_,rfl,dy (World.grownBy_alloc _ _ _) e,nS.weak (by simp)⟩
set_option maxHeartbeats 4000000 in
theorem x5 (w:World) (pv:Value) (P:Pr) (S:Nat->Prop) (hp:gy S w pv P) :
  Calls Tryz.prog 57 #[pv] w (fq w λ_ v=>v=.bool (jX P)):=by
 obtain⟨vo,vp,vc,rfl,h3⟩:=hp;have e:=fB.box h3 28;have p:Ext w (w.alloc (.cells #[vo,vp,vc] 28)):=World.grownBy_alloc _ _ _;go_enter Tryz.func57,Tryz.ntmps57;obtain⟨ao,iA,gJ,N⟩:=e.iO;obtain⟨ap,kS,oU,hpi⟩:=e.rP;obtain⟨ac,ji,hcc,mF⟩:=e.qW;by_cases h6:P.orders.length<=6;rotate_left
 ·have I:decide ((6:Int)<(P.orders.length:Int))=true:=by simp;omega
  go_wp2;go_ret;exact jt p (mE (λh=>h6 h.n6)).symm
 have af:decide ((6:Int)<(P.orders.length:Int))=false:=by simp;omega
 by_cases q:P.eH.length=P.orders.length;rotate_left
 ·have I:((P.eH.length:Int) != (P.orders.length:Int))=true:=by simp;omega
  have HP:=Lib.hid q;clear q;go_wp2;go_ret;exact jt p (mE (λh=>HP.out h.pl)).symm
 have ag:((P.eH.length:Int) != (P.orders.length:Int))=false:=by simp[q]
 by_cases z:P.conj.length=P.orders.length;rotate_left
 ·have I:((P.conj.length:Int) != (P.orders.length:Int))=true:=by simp;omega
  have HP:=Lib.hid q;clear q;have HC:=Lib.hid z;clear z;go_wp2;go_ret;exact jt p (mE (λh=>HC.out h.cl)).symm
 have ai:((P.conj.length:Int) != (P.orders.length:Int))=false:=by simp[z]
 have ax:P.eH.length<=P.orders.length/\P.orders.length<=P.eH.length:=by omega
 have ay:P.conj.length<=P.orders.length/\P.orders.length<=P.conj.length:=by omega
 have HP:=Lib.hid q;clear q;have HC:=Lib.hid z;clear z;go_wp2;clear af ag ai;generalize aj:w.alloc (.cells #[vo,vp,vc] 28)=w0 at *;clear aj;go_loop [4] (λi=>∃k:Nat,i=.int .i64 k/\k<=P.orders.length/\∀i,i<k->kQ (gt P.orders i)=true) (λi=>P.orders.length-(intOf i).toNat)
 case atStart=>exact⟨0,rfl,by omega,λi a=>by omega⟩
 case round =>
  obtain⟨k,rfl,hk,hz⟩:=hrel;have HZ:=Lib.hid hz;clear hz;by_cases y:k<P.orders.length
  ·obtain ⟨b,off,rfl,_,_,hc⟩:=Ints.at N k y
   cases hx:kQ (gt P.orders k) with
   | false=>
    have O:=Lib.hid hx;go_wp2_with (go_at_call 117;refine(xA _ _).mono ?_;rintro e1 w1 ⟨rfl,rfl⟩)
    go_ret;exact jt p (mE (λh=>by have:=rV.2 (h.ord k y);rw[O.out] at this;cases this)).symm
   | true=>
    have O:=Lib.hid hx;go_wp2_with (go_at_call 117;refine(xA _ _).mono ?_;rintro e1 w1 ⟨rfl,rfl⟩)
    go_round
    case rel=>exact⟨k+1,by go_num,by omega,λi a=>by
      rcases Nat.lt_or_ge i k with h1|h1
      ·exact HZ.out i h1
      ·have:i=k:=by omega
       rw[this];exact O.out⟩
    case measure=>simp[intOf];omega
  ·have Q : k=P.orders.length:=by omega
   subst Q;have J:∀i,i<P.orders.length->1<=gt P.orders i/\gt P.orders i<=7:=λi a=>by have:=rV.1 (HZ.out i a);omega
   have V:=Lib.hid J;clear J;have K:=zD (l:=P.orders) P.orders.length (λi a=>(V.out i a).1);have R:=Lib.hid K;clear K;by_cases L:jl P.orders P.orders.length<=729;rotate_left
   ·have I:decide ((729:Int)<jl P.orders P.orders.length)=true:=by simp;omega
    go_wp2_with (go_at_call 118;refine(uF _ _ P.orders Any N V.out).mono ?_;rintro e1 w1 ⟨rfl,rfl⟩)
    go_ret;exact jt p (mE (λh=>by have:=R.out.1.2 h.mO;omega)).symm
   have I:decide ((729:Int)<jl P.orders P.orders.length)=false:=by simp;omega
   go_wp2_with (go_at_call 118;refine(uF _ _ P.orders Any N V.out).mono ?_;rintro e1 w1 ⟨rfl,rfl⟩)
   have an:=Lib.hid (R.out.1.1 L);have A:∀i,i<P.orders.length->0<=gt P.orders i/\gt P.orders i<=7:=λi a=>by have:=V.out i a;omega
   have B:=Lib.hid A;clear A;clear hcc oU gJ I L V R;go_loopw [5] (λi wr=>∃k:Nat,i=.int .i64 k/\k<=P.orders.length/\Dr w0 wr/\∀i,i<k->mQ P.orders i (gt P.eH i)=true/\(gt P.conj i).length=P.orders.length-1-i/\∀j,j<P.orders.length-1-i->mQ P.orders i (gt (gt P.conj i) j)=true) (λi _=>P.orders.length-(intOf i).toNat)
   case atStart=>exact⟨0,rfl,by omega,Dr.refl _,λi a=>by omega⟩
   case round =>
    obtain⟨k,rfl,hk,C,hz⟩:=hrel;have G:=Lib.hid hz;clear hz;have T:Ext w wr:=dy p C.ext;by_cases y:k<P.orders.length
    ·obtain ⟨aB,Dh,gJ,r⟩:=(e.ext C.ext).iO
     obtain⟨ap,kS,oU,hpi⟩:=(e.ext C.ext).rP;obtain⟨ac,ji,hcc,mF⟩:=(e.ext C.ext).qW;obtain⟨b1,o1,a2,jx,rfl,_,_,hc2,H⟩:=dK.at hpi k (by omega);obtain⟨b3,o3,a4,Kq,rfl,_,_,rW,hi4⟩:=fU.at mF k (by omega);have D:nE P.orders (gt P.eH k) k=false->jX P=false:=λhx=>mE (λh=>by have:=zC.2 (h.pv k y);rw[hx] at this;cases this);have E:¬(gt P.conj k).length=P.orders.length-1-k->jX P=false:=λhx=>mE (λh=>hx (h.cv k y).1);have F:∀j,j<P.orders.length-1-k->nE P.orders (gt (gt P.conj k) j) k=false->jX P=false:=λj hj hx=>mE (λh=>by have:=zC.2 ((h.cv k y).2 j hj);rw[hx] at this;cases this);have aq:=Lib.hid D;have ar:=Lib.hid E;have au:=Lib.hid F;clear D E F;have b5:(0:Int)<=k:=by omega
     have b6:(k:Int)<P.eH.length:=by omega
     have b7:(k:Int)<P.conj.length:=by omega
     have s1:IntKind.i64.wrap ((P.orders.length:Int)-1)=(P.orders.length:Int)-1:=IntWalk.i64_in _ (by omega);have s2:IntKind.i64.wrap ((P.orders.length:Int)-1-k)=(P.orders.length:Int)-1-k:=IntWalk.i64_in _ (by omega);cases hx:nE P.orders (gt P.eH k) k with
     | false=>
      have O:=Lib.hid hx;go_wp2;go_quiet ((go_at_call 119;exact xB (uA _ _ _ P.orders (gt P.eH k) k Any Any (r.ext (iI _ _ _)) (H.ext (iI _ _ _)) B.out)))
      go_wp2;go_ret;exact jt (dy T (iI _ _ _)) (aq.out O.out).symm
     | true =>
      have O:=Lib.hid hx;by_cases u:(gt P.conj k).length=P.orders.length-1-k
      ·have I:(((gt P.conj k).length:Int) != (P.orders.length:Int)-1-k)=false:=by simp;omega
       have aG:(gt P.conj k).length<=P.orders.length-1-k/\P.orders.length-1-k<=(gt P.conj k).length:=by omega
       have U:=Lib.hid u;clear u;go_wp2;go_quiet ((go_at_call 119;exact xB (uA _ _ _ P.orders (gt P.eH k) k Any Any (r.ext (iI _ _ _)) (H.ext (iI _ _ _)) B.out)))
       rename_i nq _;have W:=C.step nq;clear I hx oU hc2 s1 s2 b6;have X:fU Any (wr.drewN nq) (.slice (some ⟨b3,o3,none⟩) P.conj.length ji) P.conj:=mF;go_wp2;go_loopw [6] (λi wr=>∃j:Nat,i=.int .i64 j/\j<=(gt P.conj k).length/\Dr w0 wr/\∀i,i<j->nE P.orders (gt (gt P.conj k) i) k=true) (λi _=>(gt P.conj k).length-(intOf i).toNat)
       case atStart=>exact⟨0,rfl,by omega,W,λi a=>by omega⟩
       case round=>
        clear hcc rW hi4 H mF hpi X r;obtain⟨j,rfl,hj,m,hz⟩:=hrel;have Y:=Lib.hid hz;clear hz;have Z:Ext w wr:=dy p m.ext;obtain⟨aH,PD,gJ,M⟩:=(e.ext m.ext).iO;obtain⟨aI,Vr,hcc,mF⟩:=(e.ext m.ext).qW;obtain⟨b8,o8,a8,Vs,rfl,_,_,Vt,PF⟩:=fU.at mF k (by omega);by_cases aa:j<(gt P.conj k).length
        ·obtain ⟨b9,o9,a9,PE,rfl,_,_,Vu,ab⟩:=dK.at PF j aa
         have aJ:(j:Int)<(gt P.conj k).length:=by omega
         have aK:(0:Int)<=j:=by omega
         cases hy:nE P.orders (gt (gt P.conj k) j) k with
         | false=>
          have HY:=Lib.hid hy;go_wp2;go_quiet ((go_at_call 119;exact xB (uA _ _ _ P.orders (gt (gt P.conj k) j) k Any Any (M.ext (iI _ _ _)) (ab.ext (iI _ _ _)) B.out)))
          go_wp2;go_ret;exact jt (dy Z (iI _ _ _)) (au.out j (by omega) HY.out).symm
         | true=>
          have HY:=Lib.hid hy;go_wp2;go_quiet ((go_at_call 119;exact xB (uA _ _ _ P.orders (gt (gt P.conj k) j) k Any Any (M.ext (iI _ _ _)) (ab.ext (iI _ _ _)) B.out)))
          go_wp2;go_roundw
          case rel=>exact⟨j+1,by go_num,by omega,m.step _,λi a=>by
           rcases Nat.lt_or_ge i j with h1|h1
           ·exact Y.out i h1
           ·have:i=j:=by omega
            rw[this];exact HY.out⟩
          case measure=>simp[intOf];omega
        ·have aL:j=(gt P.conj k).length:=by omega
         go_wp2;go_roundw
         case rel=>exact⟨k+1,by go_num,by omega,m,λi a=>by
          rcases Nat.lt_or_ge i k with h1|h1
          ·exact G.out i h1
          ·have:i=k:=by omega
           rw[this];exact⟨q7.2 (zC.1 O.out),U.out,λi a=>q7.2 (zC.1 (Y.out i (by omega)))⟩⟩
         case measure=>simp[intOf];omega
      ·have I:(((gt P.conj k).length:Int) != (P.orders.length:Int)-1-k)=true:=by simp;omega
       have U:=Lib.hid u;clear u;go_wp2;go_quiet ((go_at_call 119;exact xB (uA _ _ _ P.orders (gt P.eH k) k Any Any (r.ext (iI _ _ _)) (H.ext (iI _ _ _)) B.out)))
       go_wp2;go_ret;exact jt (dy T (iI _ _ _)) (ar.out U.out).symm
    ·have Q:k=P.orders.length:=by omega
     subst Q;go_wp2;go_ret;refine jt T (BJ ?_).symm
     exact ⟨an.out,h6,HP.out,HC.out,λi a=>rV.1 (HZ.out i a),λi a=>q7.1 (G.out i a).1,
      λi a=>⟨(G.out i a).2.1,λj hj=>q7.1 ((G.out i a).2.2 j hj)⟩⟩
def lB (P:Pr):Nat->Nat->List Int->List Int
 | 0,_,_=>zeros P.orders.length
 | f + 1,i,X=>
  let out:=lB P f (i+1) (X.set i 0)
  if gt X i=0 then out else
   fE P (f+1) i (fE P (f+1) i out ((zeros P.orders.length).set i (gt P.orders i-gt X i))) (lB P f (i+1) (gt P.eH i))
theorem Di {P:Pr}(hP:Valid P) (f:Nat):∀i X,i+f=P.orders.length->dL P.orders X->dL P.orders (lB P f i X):=by
 induction f with
 | zero=>intro i X _ _;exact lV hP
 | succ f a=>
  intro i X b e;have j:=hP.gh i (by omega);have hx:=e.2 i (by omega);have h1:=a (i+1) (X.set i 0) (by omega) (e.set i 0 ⟨by omega,λ_=>by omega⟩);simp only[lB];split
  ·exact h1
  ·exact jy hP _ _ _ _ b (jy hP _ _ _ _ b h1 ((lV hP).set i _ ⟨by omega,λ_=>by omega⟩)) (a (i+1) _ (by omega) (hP.pv i (by omega)).1)
def A0 (P:Pr) (f:Nat):Prop:=
 ∀ (w:World) (pv x:Value) (i:Nat) (X:List Int) (a b:Nat->Prop),i+f=P.orders.length->gy a w pv P->Ints b w x X->dL P.orders X ->
  Calls Tryz.prog 131 #[pv,.int .i64 i,x] w (fq w λw' v=>Own w.heap.size w' v (lB P f i X))
set_option maxHeartbeats 2000000 in
theorem PG (P:Pr) (hP:Valid P):A0 P 0:=by
 intro w pv x i X m p q j hx r;obtain⟨vo,vp,vc,rfl,h3⟩:=j;have k:=hP.n6;have a:=fB.box h3 28;obtain⟨u,iA,gJ,hoi⟩:=a.iO;have l:((P.orders.length:Int)<=(i:Int)):=by omega
 go_enter Tryz.func131,Tryz.ntmps131;go_wp2_with (at_make;refine lU rfl _ _ rfl (w.heap.size+1) P.orders.length (w.heap.size+1) (by simp) _ rfl rfl rfl (by omega) (by simp) ?_;intro y b e _)
 go_ret;exact⟨_,rfl,dy (World.grownBy_alloc _ _ _) e,b.weak (by omega)⟩
set_option maxHeartbeats 4000000 in
theorem PI (P:Pr) (hP:Valid P) (f:Nat) (ih:A0 P f):A0 P (f+1):=by
 intro w pv x i X Sp Sx hi hp hx hX;obtain⟨vo,vp,vc,rfl,h3⟩:=hp;have aU:=hP.n6;have q:=fB.box h3 28;have C:Ext w (w.alloc (.cells #[vo,vp,vc] 28)):=World.grownBy_alloc _ _ _;have r:=hx.ext C;have aV:X.length<=P.orders.length/\P.orders.length<=X.length:=by rw[hX.1];omega
 have N:(w.alloc (.cells #[vo,vp,vc] 28)).heap.size=w.heap.size+1:=by simp
 have HS:=Lib.hid N;clear N hx;obtain⟨ax,l6,rfl,_,_⟩:=r.shape;go_enter Tryz.func131,Tryz.ntmps131;obtain⟨ao,iA,gJ,k⟩:=q.iO;go_wp2_with fail
 clear gJ k;generalize ak:w.alloc (.cells #[vo,vp,vc] 28)=w0 at *;clear ak;refine Calls.mono (mD w0 _ X Sx r (by omega)) ?_;rintro e1 w1 ⟨R,rfl,hg1,hR⟩;obtain⟨gr,tQ,rfl,hbr,PC⟩:=hR.form (by omega);have c1:=hR.cell i (by omega);have f1:=hR.frozen i;obtain⟨O,hg2⟩:=hR.store i 0;have u:Ext w0 (w1.setCell ⟨gr,i,none⟩ (.int .i64 0)):=fu hg1 hg2 (λj Q S=>by cases Q;omega);obtain⟨aW,qZ,rT,_,_,hc0,y,z,kR⟩:=(q.ext u).at;have D:=hP.gh i (by omega);have E:=hX.2 i (by omega);have aX:0<=gt X i:=E.1;have aY:gt X i<gt P.orders i:=E.2;have aZ:2<=gt P.orders i:=D.1;have a0:gt P.orders i<=7:=D.2;have T:=hX.set i 0 ⟨by omega,λ_=>by omega⟩;clear E D;go_wp2_with fail
 clear c1 f1 hc0 y z;generalize am:w1.setCell ⟨gr,i,none⟩ (.int .i64 0)=w2 at *;clear am;refine Calls.mono (ih w2 _ _ (i+1) (X.set i 0) Any Any (by omega) ⟨_,_,_,rfl,kR⟩ (O.ints (by simp;omega)) T) ?_;rintro e3 e ⟨out,rfl,hg3,F⟩;have b:Ext w0 e:=dy u hg3;obtain⟨bx,ox,rfl,_,_,hcx⟩:=Ints.at (r.ext b) i (by omega);by_cases M:gt X i=0
 ·have hb:(gt X i == 0)=true:=by simp[M]
  have HZ:=Lib.hid M;clear M;go_wp2;go_ret;exact⟨_,rfl,dy C b,by simp only[lB,if_pos HZ.out];exact F.weak (by have:=u.size;have:=HS.out;omega)⟩
 ·have hb:(gt X i == 0)=false:=by simp[M]
  have HZ:=Lib.hid M;clear M;have aM:w0.heap.size<=e.heap.size:=b.size;go_wp2_with (at_make;refine lU rfl _ _ rfl e.heap.size P.orders.length e.heap.size rfl _ rfl rfl rfl (by omega) (by simp) ?_;intro U A V aN)
  clear hcx hb;have l:Ext w0 U:=dy b V;obtain⟨a2,PJ,gJ,k⟩:=q.iO;obtain⟨bo,oo,rfl,_,_,ni⟩:=Ints.at k i (by omega);obtain⟨W,H6,Ia,_,_,hcx⟩:=Ints.at r i (by omega);obtain⟨rfl,rfl⟩:W=bx/\H6=ox:=by cases Ia;exact⟨rfl,rfl⟩
  clear Ia;have c4:=A.cell i (by simp;omega);have f4:=A.frozen i;obtain⟨Y,G⟩:=A.store i (gt P.orders i-gt X i);have a3:(i:Int)<P.orders.length:=by omega
  have a4:(i:Int)<X.length:=by omega
  have a5:(0:Int)<=i:=by omega
  have s1:IntKind.i64.wrap (gt P.orders i-gt X i)=gt P.orders i-gt X i:=IntWalk.i64_in _ (by omega)
  have a:Ext w0 (U.setCell ⟨e.heap.size,i,none⟩ (.int .i64 (gt P.orders i-gt X i))).drew:=
   dy (fu l G (λj Q S=>by cases Q;omega)) (fk _ _)
  have Z:Ext e (U.setCell ⟨e.heap.size,i,none⟩ (.int .i64 (gt P.orders i-gt X i))).drew:=
   dy (fu V G (λj Q S=>by cases Q;omega)) (fk _ _)
  have aa:Own e.heap.size (U.setCell ⟨e.heap.size,i,none⟩ (.int .i64 (gt P.orders i-gt X i))).drew (.slice (some ⟨e.heap.size,0,none⟩) P.orders.length P.orders.length) ((List.replicate P.orders.length 0).set i (gt P.orders i-gt X i)):=Y;have e1:∀w',Ext w0 w'->w'.cell? ⟨w.heap.size,0,none⟩=some (.slice (some ⟨bo,oo,none⟩) P.orders.length PJ):=λw' h=>h.cell gJ (by simp);have e2:∀w',Ext w0 w'->w'.cell? ⟨bo,oo+i,none⟩=some (.int .i64 (gt P.orders i)):=λw' h=>h.cell ni (by simp);have e3:∀w',Ext w0 w'->w'.cell? ⟨W,H6+i,none⟩=some (.int .i64 (gt X i)):=λw' h=>h.cell hcx (by simp);clear gJ ni hcx;go_region_held3 (λw'=>Ext w0 w') (first|exact dy l (fk _ _)|exact a) (fail)
  clear e1 e2 e3 s1 c4 f4;clear G Y;generalize aq:(U.setCell ⟨e.heap.size,i,none⟩ (.int .i64 (gt P.orders i-gt X i))).drew=m at *;clear aq;obtain⟨ar,fN,fM,_,_,hc0,y,z,fP⟩:=(q.ext a).at;obtain⟨ap,kS,rfl,_,_⟩:=Sl.shape fP.p;obtain⟨bp,op,au,H,rfl,_,_,qM,av⟩:=dK.at fP.p i (by rw[hP.pl];omega);have a7:(i:Int)<P.eH.length:=by rw[hP.pl];omega
  have B:=Di hP f (i+1) _ (by omega) T;have I:dL P.orders ((zeros P.orders.length).set i (gt P.orders i-gt X i)):=(lV hP).set i _ ⟨by omega,λ_=>by have:=HZ.out;omega⟩;have J:=jy hP (f+1) i _ _ hi B I;have K:=(hP.pv i (by omega)).1;have L:=Di hP f (i+1) _ (by omega) K;have ab:=B.1;have ac:=J.1;have ad:=L.1;have k:=(F.gw Z).ints (by omega);have aw:Ints Any m (.slice (some ⟨e.heap.size,0,none⟩) P.orders.length P.orders.length) ((zeros P.orders.length).set i (gt P.orders i-gt X i)):=Own.ints aa (by rw[List.length_set];simp[zeros];omega);have ay:=Lib.hid B;have az:=Lib.hid I;have aA:=Lib.hid J;have aB:=Lib.hid K;have aC:=Lib.hid L;have a8:=Lib.hid ab;have aD:=Lib.hid ac;have aE:=Lib.hid ad;clear B I J K L ab ac ad u b l F aa A O;have aR:w.heap.size<=m.heap.size:=by have:=a.size;have:=HS.out;omega
  have e1:∀w',Ext m w'->w'.cell? ⟨w.heap.size,0,none⟩=some ar:=λw' h=>h.cell hc0 (by simp);have e2:∀w',Ext m w'->w'.cell? ⟨w.heap.size,1,none⟩=some (.slice (some ⟨bp,op,none⟩) P.eH.length kS):=λw' h=>h.cell (by simpa using y) (by simp);have e3:∀w',Ext m w'->w'.cell? ⟨w.heap.size,2,none⟩=some fM:=λw' h=>h.cell (by simpa using z) (by simp);have e4:∀w',Ext m w'->w'.cell? ⟨bp,op+i,none⟩=some (.slice au (gt P.eH i).length H):=λw' h=>h.cell qM (by simp);have s3:IntKind.i64.wrap ((i:Int)+1)=(i:Int)+1:=IntWalk.i64_in _ (by omega);clear hc0 y z qM;go_wp2
  go_region_held3 (λw'=>Ext m w') (first|exact fk _ _|assumption)
   (first
    | (go_at_call_of 192 (out);refine Calls.mono (Calls.rel (w0:=m) (by assumption) (lR P hP (f+1) _ _ _ _ i _ _ Any Any Any hi ⟨_,_,_,rfl,fA.ext fP (by assumption)⟩ (Ints.ext k (by assumption)) (Ints.ext aw (by assumption)) ay.out az.out)) ?_;rintro eA wA ⟨vA,rfl,gK,iZ,aF⟩)
    | (go_at_call 131;refine Calls.mono (Calls.jF (w0:=m) (by assumption) (ih _ _ _ (i+1) _ Any Any (by omega) ⟨_,_,_,rfl,fA.ext fP (by assumption)⟩ (Ints.ext av (by assumption)) aB.out)) ?_;rintro eF wF ⟨vF,rfl,qm,ae,pK,lC⟩;have af:=(aF.gw ae).ints (by rw[aD.out];omega);have ag:=lC.ints (by rw[aE.out];omega))
    | (go_at_call 192;refine Calls.mono (Calls.rel (w0:=m) (by assumption) (lR P hP (f+1) _ _ _ _ i _ _ Any Any Any hi ⟨_,_,_,rfl,fA.ext fP (by assumption)⟩ af ag aA.out aC.out)) ?_;rintro eB wB ⟨vB,rfl,aG,jV,nj⟩))
  go_wp2;go_ret;refine⟨_,rfl,dy C (dy a aG),?_⟩;simp only[lB,if_neg HZ.out];exact nj.weak (by omega)
theorem PK (P:Pr) (hP:Valid P) (f:Nat):A0 P f:=by
 induction f with
 | zero=>exact PG P hP
 | succ f a=>exact PI P hP f a
def gj (P:Pr) (X:List Int):List Int:=lB P P.orders.length 0 X
theorem A2 {P:Pr}(hP:Valid P) (X:List Int) (a:dL P.orders X):dL P.orders (gj P X):=Di hP _ 0 X (by omega) a
theorem Ib {P:Pr}(hP:Valid P) (A B:List Int) (a:dL P.orders A) (hB:dL P.orders B):dL P.orders (fC P A B):=jy hP _ 0 A B (by omega) a hB
set_option maxHeartbeats 1000000 in
theorem Dj (P:Pr) (hP:Valid P) (w:World) (pv x:Value) (X:List Int) (e b:Nat->Prop) (i:gy e w pv P) (hx:Ints b w x X) (j:dL P.orders X) :
  Calls Tryz.prog 67 #[pv,x] w (fq w λw' v=>Own w.heap.size w' v (gj P X)):=by
 obtain⟨vo,vp,vc,rfl,k⟩:=i;go_enter Tryz.func67,Tryz.ntmps67;obtain⟨l,qZ,rT,_,_,hc0,hc1,hc2,kR⟩:=(fB.box k 28).at;go_wp2_with fail
 refine Calls.mono (PK P hP P.orders.length _ _ _ 0 X Any b (by omega) ⟨_,_,_,rfl,kR⟩ (hx.ext (World.grownBy_alloc _ _ _)) j) ?_;rintro m p ⟨v1,rfl,a,nS⟩;go_wp2;go_ret;exact⟨_,rfl,dy (World.grownBy_alloc _ _ _) a,nS.weak (by simp)⟩
def fW (P:Pr) (A B:List Int):List Int:=fC P (gj P B) (fC P A B)
set_option maxHeartbeats 2000000 in
theorem L9 (P:Pr) (hP:Valid P) (w:World) (pv a b:Value) (A B:List Int) (L I J:Nat->Prop) (M:gy L w pv P) (ha:Ints I w a A) (K:Ints J w b B) (y:dL P.orders A) (hB:dL P.orders B) :
  Calls Tryz.prog 213 #[pv,a,b] w (fq w λw' v=>Own w.heap.size w' v (fW P A B)):=by
 obtain⟨vo,vp,vc,rfl,h3⟩:=M;have N:=hP.n6;have i:=(A2 hP B hB).1;have j:=(Ib hP A B y hB).1;have z:=Lib.hid i;have C:=Lib.hid j;clear i j;have e:Ext w (w.alloc (.cells #[vo,vp,vc] 28)):=World.grownBy_alloc _ _ _;have D:=fB.box h3 28;have E:=ha.ext e;have k:=K.ext e;have l:(w.alloc (.cells #[vo,vp,vc] 28)).heap.size=w.heap.size+1:=by simp
 have O:=Lib.hid l;clear l ha K;go_enter Tryz.func213,Tryz.ntmps213;go_wp2;generalize F:w.alloc (.cells #[vo,vp,vc] 28)=w0 at *;clear F;obtain⟨G,fN,fM,_,_,hc0,m,p,fP⟩:=D.at;have Q:∀w',Ext w0 w'->w'.cell? ⟨w.heap.size,0,none⟩=some G:=λw' h=>h.cell hc0 (by simp);have R:∀w',Ext w0 w'->w'.cell? ⟨w.heap.size,1,none⟩=some fN:=λw' h=>h.cell (by simpa using m) (by simp);have S:∀w',Ext w0 w'->w'.cell? ⟨w.heap.size,2,none⟩=some fM:=λw' h=>h.cell (by simpa using p) (by simp);clear hc0 m p
 go_region_held3 (λw'=>Ext w0 w') (first|exact fk _ _|assumption)
  (first
   | (go_at_call 67;refine Calls.mono (Calls.rel (w0:=w0) (by assumption) (Dj P hP _ _ _ _ Any Any ⟨_,_,_,rfl,fA.ext fP (by assumption)⟩ (Ints.sub (Ints.ext k (by assumption)) (λ_ _ _=>trivial)) hB)) ?_;rintro T U ⟨V,rfl,gK,iZ,H⟩)
   | (go_at_call_of 169 (a);refine Calls.mono (Calls.jF (w0:=w0) (by assumption) (qN P hP _ _ _ _ _ _ Any I J ⟨_,_,_,rfl,fA.ext fP (by assumption)⟩ (Ints.ext E (by assumption)) (Ints.ext k (by assumption)) y hB)) ?_;rintro W X ⟨Y,rfl,qm,q,pK,lC⟩;have r:=(H.gw q).ints (by rw[z.out];omega);have u:=lC.ints (by rw[C.out];omega))
   | (go_at_call 169;refine Calls.mono (Calls.rel (w0:=w0) (by assumption) (qN P hP _ _ _ _ _ _ Any Any Any ⟨_,_,_,rfl,fA.ext fP (by assumption)⟩ r u (A2 hP B hB) (Ib hP A B y hB))) ?_;rintro Z wB ⟨vB,rfl,hgB,jV,nj⟩))
 clear Q R S;go_wp2;go_ret;exact⟨_,rfl,dy e hgB,nj.weak (by have:=O.out;omega)⟩
def A3 (P:Pr) (a:Nat):Prop:=
 ∀ (base:Nat) (w:World) (p e:Value) (E:List Int) (j:Nat),fB (mB e.ownBlock) w p P->Own base w e E->dL P.orders E->j<P.orders.length->P.orders.length<=a+j ->
  Calls Tryz.prog 89 #[p,e,.int .i64 j] w (mA w e.ownBlock λw' v=>v=.tuple #[]/\Own base w' e (gR P a E j))
set_option maxHeartbeats 1000000 in
theorem Dk (P:Pr) (hP:Valid P) (l:Nat) (M:A3 P l) (base:Nat) (w:World) (p e f:Value) (E F:List Int) (N:fB (mB e.ownBlock) w p P) (O:Own base w e E)
  (Q:dL P.orders E) (R:Ints (mB e.ownBlock) w f F) (hF:dL P.orders F) (J:∀j,j<P.orders.length->gt F j≠0->P.orders.length<=l+j) :
  Calls Tryz.prog 128 #[p,e,f] w (mA w e.ownBlock λw' v=>v=.tuple #[]/\Own base w' e (j6 (gR P l) E F)):=by
 have S:F.length<=P.orders.length:=by rw[hF.1];omega
 obtain⟨a,cap,rfl,hl,Ic⟩:=R;go_enter Tryz.func128,Tryz.ntmps128;go_wp2;go_loopw [10] (λi wr=>∃k:Nat,i=.int .i64 k/\k<=F.length/\w.grownBy wr e.ownBlock/\Own base wr e (nA (gR P l) F E k)) (λi _=>F.length-(intOf i).toNat)
 case atStart=>exact⟨0,rfl,by omega,gZ _ _,O⟩
 case round=>
  obtain⟨k,rfl,hk,q,hO⟩:=hrel;by_cases A:k<F.length
  ·obtain ⟨b,off,u,rfl,hS,hb,hc,B⟩:=Ic k A
   have C:wr.cell? ⟨b,off+k,none⟩=some u:=q.cell hc (λh=>hS h.symm);have B:u=.int .i64 (gt F k):=B;subst B;have hx:=hF.2 k (by omega);have T:0<=gt F k:=hx.1;have D:=hP.gh k (by omega);have U:gt F k<=7:=by omega
   have G:dL P.orders (nA (gR P l) F E k):=Ec (λe j V K W=>qY hP l e j V K (J j K W)) Q k (by omega);clear hx D Ic hc;go_wp2;go_loopw [16] (λi wr=>∃m:Nat,i=.int .i64 m/\m<=(gt F k).toNat/\w.grownBy wr e.ownBlock/\Own base wr e (iter m (λe=>gR P l e k) (nA (gR P l) F E k))) (λi _=>(gt F k).toNat-(intOf i).toNat)
   case atStart=>exact⟨0,rfl,by omega,q,hO⟩
   case round=>
    clear q hO C;obtain⟨m,rfl,hm,q,hO⟩:=hrel;by_cases L:(m:Int)<gt F k
    ·have r:P.orders.length<=l+k:=J k (by omega) (by omega)
     have H:dL P.orders (iter m (λe=>gR P l e k) (nA (gR P l) F E k)):=jN (dL P.orders) _ (λx hx=>qY hP l x k hx (by omega) r) _ _ G;go_wp2_with (go_at_call 89;go_must (refine(M base _ p e _ k (N.mono (iQ q λk h _=>⟨h,h⟩)) hO H (by omega) r).mono ?_);rintro X Y ⟨v1,rfl,hg1,rfl,nS⟩)
     go_roundw
     case rel=>exact⟨m+1,by go_num,by omega,dy q hg1,nS⟩
     case measure=>simp[intOf];omega
    ·have y:m=(gt F k).toNat:=by omega
     have I:Hid (Own base wr e (nA (gR P l) F E (k+1))):=by rw[y] at hO;exact hO
     clear hO y;go_wp2;go_roundw
     case rel=>exact⟨k+1,by go_num,by omega,q,I.out⟩
     case measure=>simp[intOf];omega
  ·have z:k=F.length:=by omega
   have I:Hid (Own base wr e (j6 (gR P l) E F)):=by rw[z] at hO;exact hO
   clear hO z;go_wp2;go_end0
   exact⟨_,rfl,q,rfl,I.out⟩
set_option maxHeartbeats 1000000 in
theorem PL (P:Pr) (hP:Valid P) (a:Nat) (ih:A3 P a):A3 P (a+1):=by
 intro base w p e E j hp hE hv N hf;have a9:E.length<=P.orders.length/\P.orders.length<=E.length:=by rw[hv.1];omega
 have a':=hP.n6;obtain⟨g,cap,rfl,hgb,l5⟩:=hE.form (by omega);obtain⟨pb,po,rfl⟩:=hp.shape;have hs:=λw=>Km w (some ⟨g,0,none⟩) E.length cap ((j:Int)+1) (by omega) (by omega);go_enter Tryz.func89,Tryz.ntmps89
 have an:Ints Any w (nB (.slice (some ⟨g,0,none⟩) E.length cap) (j+1) E.length) (E.drop (j+1)):=by
  have:=Kl (iD hE (by omega) (S:=Any) (λ_ _=>trivial)) (j+1) E.length (by omega) (by omega);rwa [List.take_length] at this
 have bb:=hv.2 j N;have be:=hP.gh j N;go_wp2_with fail
 refine(xz w _ (E.drop (j+1)) Any an (by simp;omega)).mono ?_;rintro e1 w1 ⟨r,rfl,V,hR⟩;clear an hs;have aS:(E.drop (j+1)).length+j+1=E.length:=by simp;omega
 have aq:∀k,k<(E.drop (j+1)).length->0<=gt (E.drop (j+1)) k/\gt (E.drop (j+1)) k<=7:=by
  intro k hk;have h1:=hv.2 (j+1+k) (by omega);have h2:=hP.gh (j+1+k) (by omega);have h3:gt (E.drop (j+1)) k=gt E (j+1+k):=by simp only[gt,List.getD_eq_getElem?_getD,List.getElem?_drop]
  rw[h3];omega
 have W:Ints (From w.heap.size) w1 r (E.drop (j+1)):=iD hR (by omega) (λk hk=>(hR.lt k hk).1);generalize au:E.drop (j+1)=R at *;obtain⟨ar,y,rfl,_,_⟩:=W.shape;have a6:R.length+j+1<=E.length/\E.length<=R.length+j+1:=by omega
 have HR:=Lib.hid au;clear au aS;have aT:=Lib.hid aq;clear aq;go_wp2;go_loopw [17] (λi wr=>∃k:Nat,i=.int .i64 k/\k<=R.length/\w1.grownBy wr (some g)/\Own base wr (.slice (some ⟨g,0,none⟩) E.length cap) (iJ E j k)) (λi _=>R.length-(intOf i).toNat)
 case atStart=>exact⟨0,rfl,by omega,gZ _ _,by rw[Kj];exact hE.ext V (.inr (by simp[Value.ownBlock]))⟩
 case round=>
  obtain⟨k,rfl,hk,z,hO⟩:=hrel;by_cases C:k<R.length
  ·have D:=qX E j k (by omega)
   have hc:=hO.cell (j+1+k) (by omega);have av:=hO.frozen (j+1+k);have HL:=Lib.hid D;clear D;go_wp2;go_roundw
   case rel=>
    obtain⟨h1,h2⟩:=hO.store (j+1+k) 0;exact⟨k+1,by go_num,by omega,dy z h2,by rw[Kk _ _ _ (by omega)];exact h1⟩
   case measure=>simp[intOf];omega
  ·have X:k=R.length:=by omega
   subst X;have D:=qX E j R.length (by omega);have aw:gt (iJ E j R.length) j=gt E j:=by rw[td _ _ _ _ (by omega),if_neg (by omega)]
   have hc:=hO.cell j (by omega);rw[aw] at hc;have av:=hO.frozen j;have HL:=Lib.hid D;clear D;have ax:=hO.store j (gt E j+1);clear aw;go_wp2;generalize hW:wr.setCell ⟨g,j,none⟩ (.int .i64 (gt E j+1))=B at ax ⊢;obtain⟨u,Y⟩:=ax;clear hW hc av;have F:w.grownBy B (some g):=dy (dy (fH _ V) z) Y;obtain⟨ao,iA,hc0,sM⟩:=(hp.mono (iQ F λk h _=>⟨h,h⟩)).iO;obtain⟨bo,oo,rfl,_,_,gJ⟩:=Ints.at sM j N;have O:((iJ E j R.length).set j (gt E j+1)).length=E.length:=by rw[List.length_set];exact HL.out
   have I:=u.cell j (by omega);rw[iN _ _ _ (by have:=HL.out;omega)] at I;have Z:=u.frozen j;have J:Ints (mB (some g)) B (.slice ar R.length y) R:=(W.sub (S':=mB (some g)) (λk hk _=>by unfold mB;intro he;cases he;have:w.heap.size<=g:=hk;omega)).mono (iQ (dy z Y) λk h _=>⟨h,h⟩);have az:dL P.orders (iJ E j R.length):=hv.iJ j R.length (by omega);have aA:=Lib.hid az;clear az;have bi:=Lib.hid O;clear O;clear z Y hO hR W V hk C sM;have aa:=hP.cv j N;have aW:R.length<=(gt P.conj j).length:=by rw[aa.1];omega
   have aX:j<P.conj.length:=by rw[hP.cl];exact N
   have aB:∀k,k<R.length->dL P.orders (gt (gt P.conj j) k)/\(∀i,i<P.orders.length->gt (gt (gt P.conj j) k) i≠0->P.orders.length<=a+i):=by
    intro k hk;obtain⟨h1,h2⟩:=aa.2 k (by omega);refine⟨h1,λi hi h0 => ?_⟩;have:¬i<=j:=λh=>h0 (h2 i h);omega
   have aC:=Lib.hid aB;clear aB aa
   have Q:∀q,q=(if gt E j+1=gt P.orders j then j6 (gR P a) (((iJ E j R.length).set j (gt E j+1)).set j 0) (gt P.eH j) else (iJ E j R.length).set j (gt E j+1)) ->
     gR P (a+1) E j=mC (gR P a) (gt P.conj j) R q R.length:=by
    intro q h2;have hr:R=E.drop (j+1):=HR.out.symm;rw[h2,hr];rfl
   have HF:=Lib.hid Q;clear Q;by_cases b:gt E j+1=gt P.orders j
   case' pos=>
    have hb:(gt E j+1 == gt P.orders j)=true:=by simp[b]
    obtain⟨q,l⟩:∃q,q=j6 (gR P a) (((iJ E j R.length).set j (gt E j+1)).set j 0) (gt P.eH j):=⟨_,rfl⟩;have aD:=Lib.hid (HF.out q (by rw[if_pos b];exact l));clear HF;have aE:dL P.orders (((iJ E j R.length).set j (gt E j+1)).set j 0):=by rw[List.set_set];exact aA.out.set j 0 ⟨by omega,λ_=>by omega⟩
    have K:=hP.pv j N
    have ae:∀i,i<P.orders.length->gt (gt P.eH j) i≠0->P.orders.length<=a+i:=by
     intro i hi h0;have:¬i<=j:=λh=>h0 (K.2 i h);omega
    have aF:dL P.orders q:=by
     rw[l];exact ux K.1 (λe i he hi h0=>qY hP a e i he hi (ae i hi h0)) aE
    have aY:=Lib.hid l;clear l;have HC:=Lib.hid b;clear b;have aZ:=Lib.hid ae;clear ae;have a0:=Lib.hid K.1;clear K;go_quiet (fail)
    rename_i nq _;have aG:Own base (B.drewN nq) (.slice (some ⟨g,0,none⟩) E.length cap) ((iJ E j R.length).set j (gt E j+1)):=u;have T:w.grownBy (B.drewN nq) (some g):=dy F (iI _ _ _);have aH:Ints (mB (some g)) (B.drewN nq) (.slice ar R.length y) R:=J.mono (iQ (iI _ _ (some g)) λk h _=>⟨h,h⟩);have aI:(B.drewN nq).cell? ⟨g,j,none⟩=some (.int .i64 (gt E j+1)):=I;have aJ:(B.drewN nq).frozen? ⟨g,j,none⟩=false:=Z;clear gJ I Z hc0 u J F;generalize B.drewN nq=W3 at *;obtain⟨aK,af⟩:=aG.store j 0;have G:w.grownBy (W3.setCell ⟨g,j,none⟩ (.int .i64 0)) (some g):=dy T af;have ag:fB (mB (some g)) (W3.setCell ⟨g,j,none⟩ (.int .i64 0)) (.pointer (some ⟨pb,po,none⟩)) P:=hp.mono (iQ G λk h _=>⟨h,h⟩);obtain⟨ap,kS,hpc,yP⟩:=ag.rP;obtain⟨bp,op,Vv,Vw,rfl,_,_,PM,Ie⟩:=dK.at yP j (by rw[hP.pl];exact N);have bm:j<P.eH.length:=by rw[hP.pl];exact N
    go_wp2_with fail
    refine Calls.mono (Dk P hP a ih base _ _ _ _ _ (gt P.eH j) ?_ ?_ aE ?_ a0.out aZ.out) ?_
    ·exact ag
    ·exact aK
    ·exact Ie
    rintro e5 W5 ⟨v5,rfl,ah,rfl,ai⟩;rw[<-aY.out] at ai;have H:w.grownBy W5 (some g):=dy G ah;have aL:Ints (mB (some g)) W5 (.slice ar R.length y) R:=aH.mono (iQ (dy af ah) λk h _=>⟨h,h⟩);clear aI aJ aG aH T ag hpc yP PM Ie aK af G ah;go_wp2
   case' neg=>
    have hb:(gt E j+1 == gt P.orders j)=false:=by simp[b]
    obtain⟨q,l⟩:∃q,q=(iJ E j R.length).set j (gt E j+1):=⟨_,rfl⟩;have aD:=Lib.hid (HF.out q (by rw[if_neg b];exact l));clear HF;have aF:dL P.orders q:=by rw[l];exact aA.out.set j _ ⟨by omega,λ_=>by omega⟩
    rw[<-l] at u;have HC:=Lib.hid b;clear b l;go_quiet (fail)
    rename_i nq _;have H:w.grownBy (B.drewN nq) (some g):=dy F (iI _ _ _);have ai:Own base (B.drewN nq) (.slice (some ⟨g,0,none⟩) E.length cap) q:=u;have aL:Ints (mB (some g)) (B.drewN nq) (.slice ar R.length y) R:=J.mono (iQ (iI _ _ (some g)) λk h _=>⟨h,h⟩);go_wp2;clear gJ I Z hc0 u J F;generalize B.drewN nq=W5 at *
   all_goals
    go_loopw [60] (λi wr=>∃k:Nat,i=.int .i64 k/\k<=R.length/\W5.grownBy wr (some g)/\Own base wr (.slice (some ⟨g,0,none⟩) E.length cap) (mC (gR P a) (gt P.conj j) R q k)/\dL P.orders (mC (gR P a) (gt P.conj j) R q k)) (λi _=>R.length-(intOf i).toNat)
    case atStart=>exact⟨0,rfl,by omega,gZ _ _,ai,aF⟩
    case round=>
     obtain⟨k,rfl,hk,z,hO,A⟩:=hrel;by_cases C:k<R.length
     ·have L:=Lib.hid (aC.out k C);clear aC
      have aj:=aT.out k C;have bn:0<=gt R k:=aj.1;have bq:gt R k<=7:=aj.2;obtain⟨br,or,rfl,hbr,_,ym⟩:=Ints.at aL k C;have M:wr.cell? ⟨br,or+k,none⟩=some (.int .i64 (gt R k)):=z.cell ym (λh=>hbr h.symm);clear ym aj;go_wp2;go_loopw [66] (λi wr=>∃m:Nat,i=.int .i64 m/\m<=(gt R k).toNat/\W5.grownBy wr (some g)/\Own base wr (.slice (some ⟨g,0,none⟩) E.length cap) (iter m (λe=>j6 (gR P a) e (gt (gt P.conj j) k)) (mC (gR P a) (gt P.conj j) R q k))/\dL P.orders (iter m (λe=>j6 (gR P a) e (gt (gt P.conj j) k)) (mC (gR P a) (gt P.conj j) R q k))) (λi _=>(gt R k).toNat-(intOf i).toNat)
      case atStart=>exact⟨0,rfl,by omega,z,hO,A⟩
      case round=>
       clear z hO M A;obtain⟨m,rfl,hm,z,hO,A⟩:=hrel;by_cases a8:(m:Int)<gt R k
       ·have ak:fB (mB (some g)) wr (.pointer (some ⟨pb,po,none⟩)) P:=hp.mono (iQ (dy H z) λk h _=>⟨h,h⟩)
        obtain⟨ac,ji,hcc,M⟩:=ak.qW;obtain⟨bc,oc,uC,PN,rfl,_,_,Ei,Ig⟩:=fU.at M j aX;obtain⟨bd,od,PO,PR,rfl,_,_,PS,U⟩:=dK.at Ig k (by omega);clear M Ig;go_wp2_with fail
        refine Calls.mono (Dk P hP a ih base wr _ _ _ _ (gt (gt P.conj j) k) ak hO A U L.out.1 L.out.2) ?_;rintro e6 W6 ⟨v6,rfl,qL,rfl,rU⟩;have a1:W5.grownBy W6 (some g):=dy z qL;have a2:=ux L.out.1 (λe i he hi h0=>qY hP a e i he hi (L.out.2 i hi h0)) A;clear Ei PS hcc U ak hO qL z;go_wp2;go_roundw
        case rel=>exact⟨m+1,by go_num,by omega,a1,rU,a2⟩
        case measure=>simp[intOf];omega
       ·have a3:m=(gt R k).toNat:=by omega
        subst a3;go_wp2;go_roundw
        case rel=>exact⟨k+1,by go_num,by omega,z,hO,A⟩
        case measure=>simp[intOf];omega
     ·have X:k=R.length:=by omega
      subst X;go_wp2;go_end0
      exact⟨_,rfl,dy H z,rfl,by rw[aD.out];exact hO⟩
structure j8 {α:Type}(El:(Nat->Prop)->World->Value->α->Prop):Prop where
 mono:∀ {F F':Nat->Prop}{w w':World}{u:Value}{x:α},El F w u x->(∀k,F k->k<w.heap.size->F' k/\k<w'.heap.size/\w'.heap[k]? = w.heap[k]?)->El F' w' u x
 one:∀ {F:Nat->Prop}{w:World}{u:Value}{x:α},El F w u x->u.oneCell'=true
def jm {α:Type} [Inhabited α] (El:(Nat->Prop)->World->Value->α->Prop) (F:Nat->Prop) (w:World) (v:Value) (xs:List α):Prop:=
 ∃ (G:Nat->Nat->Prop) (H:Nat->Prop),(∀k,H k->F k)/\(∀i k,i<xs.length->G i k->F k/\¬H k)/\(∀i j k,i<xs.length->j<xs.length->G i k->G j k->i=j) /\
  ∃ a cap,v=.slice a xs.length cap/\(xs.length<=cap/\xs.length<=9223372036854775807/\(a=none->cap=0)) /\
   ∀i,i<xs.length->∃b off u,a=some ⟨b,off,none⟩/\H b/\b<w.heap.size/\w.cell? ⟨b,off+i,none⟩=some u/\El (G i) w u (gt xs i)
def gN {α:Type} [Inhabited α] (El:(Nat->Prop)->World->Value->α->Prop) (E B:Nat) (w:World) (v:Value) (xs:List α):Prop:=
 ∃ (a:List Value) (G:Nat->Nat->Prop),a.length=xs.length/\fK B E w v a/\(∀i k,i<xs.length->G i k->B<=k/\v.ownBlock≠some k/\k<w.heap.size) /\
  (∀i j k,i<xs.length->j<xs.length->G i k->G j k->i=j)/\∀i,i<xs.length->El (G i) w (gt a i) (gt xs i)
theorem gN.nil {α:Type} [Inhabited α] (El:(Nat->Prop)->World->Value->α->Prop) (E B:Nat) (w:World):gN El E B w (.slice none 0 0) ([]:List α):=
 ⟨[],λ_ _=>False,rfl,World.ownsRow_nil _ _ _ _,by simp,by simp,by simp⟩
theorem fK.form {B E:Nat}{w:World}{v:Value}{xs:List Value}(h:fK B E w v xs) :
  (v=.slice none 0 0/\xs=[])\/∃g cap,v=.slice (some ⟨g,0,none⟩) xs.length cap/\xs.length<=cap/\B<=g/\g<w.heap.size:=by
 have a:=h.lt;obtain⟨_,h|⟨g,cap,cur,b,hg,hb,hnc,_⟩⟩:=h
 ·exact .inl ⟨h.1,List.eq_nil_of_length_eq_zero h.2⟩
 ·exact .inr ⟨g,cap,b,hnc,hg,(a g (by rw[b];rfl)).2⟩
theorem fK.cell {B E g cap n:Nat}{w:World}{xs:List Value}(h:fK B E w (.slice (some ⟨g,0,none⟩) n cap) xs) (j:Nat) (a:j<xs.length):w.cell? ⟨g,j,none⟩=some (gt xs j):=by
 have b:n=xs.length:=by
  obtain⟨_,⟨h,_⟩|⟨_,_,_,h,_⟩⟩:=h<;>cases h;rfl
 subst b;have:=World.ownsRow.cellAt h j (by omega);rw[this];simp[gt,a]
theorem gN.iB {α:Type} [Inhabited α] {El:(Nat->Prop)->World->Value->α->Prop}{E B:Nat}{w:World}{v:Value}{xs:List α}(h:gN El E B w v xs) (j:xs.length<=9223372036854775807):jm El (From B) w v xs:=by
 obtain⟨l,G,a,hO,e,hd,hE⟩:=h;refine⟨G,λk=>B<=k/\v.ownBlock=some k,λk hk=>hk.1,λi k b hk=>⟨(e i k b hk).1,λh=>(e i k b hk).2.1 h.2⟩,hd,?_⟩;rcases hO.form with⟨rfl,rfl⟩|⟨g,cap,rfl,hnc,hBg,l5⟩
 ·have:xs.length=0:=by simpa using a.symm
  exact⟨none,0,by rw[this],⟨by omega,by omega,λ_=>rfl⟩,λi b=>by omega⟩
 ·refine ⟨_,cap,by rw[a],⟨by omega,j,λh=>by cases h⟩,λi b=>⟨g,0,gt l i,rfl,⟨hBg,rfl⟩,l5,?_,hE i b⟩⟩
  rw[Nat.zero_add];exact hO.cell i (by omega)
theorem jm.mono {α:Type} [Inhabited α] {El:(Nat->Prop)->World->Value->α->Prop}(p:j8 El) {F F':Nat->Prop}{w w':World}{v:Value}{xs:List α}(h:jm El F w v xs)
  (m:∀k,F k->k<w.heap.size->F' k/\k<w'.heap.size/\w'.heap[k]? = w.heap[k]?):jm El F' w' v xs:=by
 obtain⟨G,H,h1,q,h3,a,cap,hv,hl,hc⟩:=h
 refine ⟨λi k=>G i k/\k<w.heap.size,λk=>H k/\k<w.heap.size,λk hk=>(m k (h1 k hk.1) hk.2).1,λi k e hk=>⟨(m k (q i k e hk.1).1 hk.2).1,λh=>(q i k e hk.1).2 h.1⟩,
  λi j k e A hk r=>h3 i j k e A hk.1 r.1,a,cap,hv,hl,λi e => ?_⟩
 obtain⟨b,off,u,e1,y,z,e4,e5⟩:=hc i e;obtain⟨f1,f2,f3⟩:=m b (h1 b y) z;exact⟨b,off,u,e1,⟨y,z⟩,f2,(World.cell?_of_block (w:=w) f3).trans e4,p.mono e5 (λk hk l=>⟨⟨hk,l⟩,(m k (q i k e hk).1 l).2⟩)⟩
theorem jm.shape {α:Type} [Inhabited α] {El:(Nat->Prop)->World->Value->α->Prop}{F:Nat->Prop}{w:World}{v:Value}{xs:List α}(h:jm El F w v xs) :
  ∃a cap,v=.slice a xs.length cap/\xs.length<=cap/\xs.length<=9223372036854775807:=by
 obtain⟨_,_,_,_,_,a,cap,hv,hl,_⟩:=h;exact⟨a,cap,hv,hl.1,hl.2.1⟩
theorem vW:j8 (λF w u (x:List Int)=>Ints F w u x):=
 ⟨λh b=>Ints.mono h b,λh=>by obtain⟨a,cap,rfl,_⟩:=h;rfl⟩
def gf (F:Nat->Prop) (w:World) (v:Value) (l:List Int):Prop:=Own 0 w v l/\(∀k,v.ownBlock=some k->F k)/\l.length<=9223372036854775807
theorem ve {base base' E:Nat}{w w':World}{v:Value}{n:Nat}{xs:List Value}(h:w.ownsRow base E 1 v n xs) (a:∀k,v.ownBlock=some k->w'.heap[k]? = w.heap[k]? /\ base'<=k):w'.ownsRow base' E 1 v n xs:=by
 obtain⟨h1,b⟩:=h;refine⟨h1,?_⟩;rcases b with h|⟨g,cap,cur,rfl,hg,hc,r⟩
 ·exact .inl h
 ·exact .inr ⟨g,cap,cur,rfl,(a g rfl).2,by rw[(a g rfl).1];exact hc,r⟩
theorem gX:j8 gf:=by
 refine⟨λ{F F' w w' u x} h b => ?_,λ{F w u x} h => ?_⟩
 ·obtain ⟨h1,e,h3⟩:=h
  have a:=h1.lt;exact⟨ve h1 (λk hk=>⟨(b k (e k hk) (a k hk).2).2.2,Nat.zero_le _⟩),λk hk=>(b k (e k hk) (a k hk).2).1,h3⟩
 ·obtain ⟨⟨_,h|⟨g,cap,cur,i,_⟩⟩,_⟩:=h
  ·rw[h.1];rfl
  ·rw[i];rfl
theorem gf.ints {F:Nat->Prop}{w:World}{v:Value}{l:List Int}(h:gf F w v l):Ints F w v l:=iD h.1 h.2.2 h.2.1
theorem gf.of {base:Nat}{F:Nat->Prop}{w:World}{v:Value}{l:List Int}(h:Own base w v l) (a:l.length<=9223372036854775807) (hF:∀k,base<=k->k<w.heap.size->F k):gf F w v l:=
 ⟨h.weak (Nat.zero_le _),λk hk=>hF k (h.lt k hk).1 (h.lt k hk).2,a⟩
abbrev gY (F:Nat->Prop) (w:World) (v:Value) (xs:List (List Int)):Prop:=jm gf F w v xs
abbrev iL (B:Nat) (w:World) (v:Value) (xs:List (List Int)):Prop:=gN gf 24 B w v xs
theorem lX:j8 (λF w u (x:List (List Int))=>gY F w u x):=
 ⟨λh b=>jm.mono gX h b,λh=>by obtain⟨_,_,_,_,_,a,cap,rfl,_⟩:=h;rfl⟩
abbrev uO (F:Nat->Prop) (w:World) (v:Value) (xs:List (List (List Int))):Prop:=jm (λF w u (x:List (List Int))=>gY F w u x) F w v xs
theorem gY.rows {F:Nat->Prop}{w:World}{v:Value}{xs:List (List Int)}(h:gY F w v xs):dK F w v xs:=by
 obtain⟨G,H,h1,j,h3,a,cap,hv,hl,hc⟩:=h;refine⟨a,cap,hv,hl,λi e => ?_⟩;obtain⟨b,off,u,e1,e2,e3,e4,e5⟩:=hc i e;exact⟨b,off,u,e1,h1 b e2,e3,e4,Ints.sub e5.ints (λk hk _=>(j i k e hk).1)⟩
theorem uO.rows {F:Nat->Prop}{w:World}{v:Value}{xs:List (List (List Int))}(h:uO F w v xs):fU F w v xs:=by
 obtain⟨G,H,h1,j,h3,a,cap,hv,hl,hc⟩:=h;refine⟨a,cap,hv,hl,λi e => ?_⟩;obtain⟨b,off,u,e1,e2,e3,e4,l⟩:=hc i e;exact⟨b,off,u,e1,h1 b e2,e3,e4,dK.sub (gY.rows l) (λk hk _=>(j i k e hk).1)⟩
theorem gN.ext {α:Type} [Inhabited α] {El:(Nat->Prop)->World->Value->α->Prop}(l:j8 El) {E B:Nat}{w w':World}{v:Value}{xs:List α}(h:gN El E B w v xs) (j:Ext w w'):gN El E B w' v xs:=by
 obtain⟨p,G,hvl,hO,hG,hd,q⟩:=h;refine⟨p,G,hvl,hO.kept j (by cases r:v.ownBlock<;>simp),λi k m hk => ?_,hd,λi m=>l.mono (q i m) (λk hk e=>⟨hk,Nat.lt_of_lt_of_le e j.size,j.block k e (by simp)⟩)⟩;obtain⟨a,b,c⟩:=hG i k m hk;exact⟨a,b,Nat.lt_of_lt_of_le c j.size⟩
theorem gN.weak {α:Type} [Inhabited α] {El:(Nat->Prop)->World->Value->α->Prop}{E B B':Nat}{w:World}{v:Value}{xs:List α}(h:gN El E B w v xs) (hB:B'<=B):gN El E B' w v xs:=by
 obtain⟨e,G,hvl,hO,hG,hd,hE⟩:=h;refine⟨e,G,hvl,?_,λi k j hk => ?_,hd,hE⟩
 ·obtain ⟨h1,l⟩:=hO
  refine⟨h1,?_⟩;rcases l with h|⟨g,cap,cur,hv,hg,r⟩
  ·exact .inl h
  ·exact .inr ⟨g,cap,cur,hv,Nat.le_trans hB hg,r⟩
 ·obtain ⟨a,b,c⟩:=hG i k j hk
  exact⟨Nat.le_trans hB a,b,c⟩
theorem Dl {α:Type} [Inhabited α] {El:(Nat->Prop)->World->Value->α->Prop}(C:j8 El) (T E:Nat) (z:Value) (bytes:Nat) (hT:Tryz.prog.underlying T=some (.slice E))
  (hE:(Tryz.prog.info? E).map (λi=>(i.zero,i.size,i.bytes))=some (some z,1,bytes)) (S:z.cells.size=1) (U:bytes<=64)
  {H:Array Oper}{rest:List Oper}{o:Oper}{a:Act}{Q:Exit->Act->World->Prop}{w:World}(V:o.guard=none) (s x:Operand)
  (ho:o.op=Op.call { callee:=Callee.builtin Builtin.append,args := #[s,x],argTypes := #[T,T] }) (B:Nat) (q l:World) (v u:Value) (xs:List α) (y:α) (hs:a.eval s=v) (I:gN El E B q v xs)
  (O:Ext q l) (hu:El (From q.heap.size) l u y) (hw:w=l.alloc (.cells #[u] E)) (hx:a.eval x=.slice (some ⟨l.heap.size,0,none⟩) 1 1) (ad:xs.length<=1000000) (W:B<=q.heap.size)
  (h:∀J w',gN El E B w' J (xs++[y])->q.grownBy w' v.ownBlock->l.grownBy w' v.ownBlock->wpList Tryz.prog H Q rest (a.put o.dst J) w') :
  wpList Tryz.prog H Q (o :: rest) a w:=by
 subst hw;obtain⟨X,G,D,hO,hG,hd,Y⟩:=I;have K:Ext l (l.alloc (.cells #[u] E)):=World.grownBy_alloc _ _ _;have Z:fK B E (l.alloc (.cells #[u] E)) v X:=hO.kept (dy O K) (by cases hv:v.ownBlock<;>simp);refine nX T E z bytes hT hE S U V s x ho B v X hs Z (some ⟨l.heap.size,0,none⟩) 1 1 [u] hx rfl (by simp) ?_ ?_ (by omega) (by have:=O.size;simp;omega) ?_
 ·intro j hj
  have:j=0:=by omega
  subst this;exact⟨l.heap.size,0,rfl,by rw[World.cell?_alloc_at _ _ _ _ rfl];rfl⟩
 ·intro u' L
  simp at L;subst L;exact C.one hu
 ·intro J w' h1 h2 _ aa
  have M:∀k,v.ownBlock=some k->B<=k/\k<q.heap.size:=hO.lt;have p:l.grownBy w' v.ownBlock:=dy (fH _ K) h2;have r:q.grownBy w' v.ownBlock:=dy (fH _ O) p
  have A:∀k,J.ownBlock=some k->v.ownBlock=some k\/l.heap.size<k:=by
   intro k hk;rcases aa with h|h
   ·exact .inl (by rw[<-h];exact hk)
   ·rw [h] at hk
    have:(l.alloc (.cells #[u] E)).heap.size=k:=by simpa using hk
    simp at this
    exact .inr (by omega)
  refine h J w' ⟨X++[u],λi k=>if i<xs.length then G i k/\k<q.heap.size else q.heap.size<=k/\k<l.heap.size,by simp[D],h1,?_,?_,?_⟩ r p
  ·intro i k R hk
   split at hk
   ·rename_i m
    obtain⟨a1,a2,a3⟩:=hG i k m hk.1;refine⟨a1,λF => ?_,Nat.lt_of_lt_of_le a3 r.size⟩;rcases A k F with h|h
    ·exact a2 h
    ·have:=O.size;omega
   ·refine ⟨by omega,λF => ?_,Nat.lt_of_lt_of_le hk.2 p.size⟩
    rcases A k F with h|h
    ·have:=M k h;omega
    ·omega
  ·intro i j k R hj hk N
   simp only[List.length_append,List.length_singleton] at R hj;split at hk<;>split at N
   ·exact hd i j k (by assumption) (by assumption) hk.1 N.1
   ·omega
   ·omega
   ·omega
  ·intro i R
   simp only[List.length_append,List.length_singleton] at R;by_cases m:i<xs.length
   ·rw [iX _ _ _ (by omega),iX _ _ _ m]
    simp only[if_pos m];exact C.mono (Y i m) (λk hk b=>⟨⟨hk,b⟩,Nat.lt_of_lt_of_le b r.size,r.block k b (λe=>(hG i k m hk).2.1 e.symm)⟩)
   ·have ab:i=xs.length:=by omega
    subst ab;rw[kr,<-D,kr];simp only[D,Nat.lt_irrefl,if_false]
    exact C.mono hu (λk hk b=>⟨⟨hk,b⟩,Nat.lt_of_lt_of_le b p.size,p.block k b (λe=>by
     have hk:q.heap.size<=k:=hk;have:=M k e.symm;omega)⟩)
theorem Ih (P:Pr) (hP:Valid P) (f:Nat):A3 P f:=by
 induction f with
 | zero=>intro base w p e E j _ _ _ b i;omega
 | succ f a=>exact PL P hP f a
theorem Ii (P:Pr) (hP:Valid P) (base:Nat) (w:World) (p e:Value) (E:List Int) (j:Nat) (a:fB (mB e.ownBlock) w p P) (b:Own base w e E) (i:dL P.orders E) (k:j<P.orders.length) :
  Calls Tryz.prog 89 #[p,e,.int .i64 j] w (mA w e.ownBlock λw' v=>v=.tuple #[]/\Own base w' e (tg P E j)):=
 Ih P hP _ base w p e E j a b i k (by omega)
theorem A4 (P:Pr) (hP:Valid P) (base:Nat) (w:World) (p e f:Value) (E F:List Int) (a:fB (mB e.ownBlock) w p P) (b:Own base w e E)
  (i:dL P.orders E) (k:Ints (mB e.ownBlock) w f F) (hF:dL P.orders F) :
  Calls Tryz.prog 128 #[p,e,f] w (mA w e.ownBlock λw' v=>v=.tuple #[]/\Own base w' e (tv P E F)):=
 Dk P hP _ (Ih P hP _) base w p e f E F a b i k hF (λj l _=>by omega)
theorem sP {base:Nat}{w a:World}{v:Value}{l:List Int}{S:Nat->Prop}(hO:Own base a v l) (e:w.heap.size<=base) (b:Ext w a) :
  ∀k,S k->k<w.heap.size->mB v.ownBlock k/\k<a.heap.size/\a.heap[k]? = w.heap[k]? :=by
 intro k _ hk;refine⟨λh => ?_,Nat.lt_of_lt_of_le hk b.size,b.block k hk (by simp)⟩;have:=(hO.lt k h).1;omega
theorem yQ {base:Nat}{w a b:World}{v:Value}{l:List Int}(e:Ext w a) (hO:Own base a v l) (m:w.heap.size<=base) (h:a.grownBy b v.ownBlock):Ext w b:=
 fu e h (λj i k=>by have:=(hO.lt j i).1;omega)
set_option maxHeartbeats 400000 in
theorem vQ (P:Pr) (hP:Valid P) (w:World) (p a b:Value) (A B:List Int) (m k q:Nat->Prop) (u:fB m w p P) (ha:Ints k w a A) (y:Ints q w b B) (l:dL P.orders A) (hB:dL P.orders B) :
  Calls Tryz.prog 149 #[p,a,b] w (fq w λw' v=>Own w.heap.size w' v (tv P A B)):=by
 have z:=hP.n6;have C:A.length<=6:=by rw[l.1];omega
 go_enter Tryz.func149,Tryz.ntmps149;go_wp2_with fail
 refine Calls.mono (xz w a A k ha (by omega)) ?_;rintro E D ⟨r,rfl,e,i⟩;go_wp2_with fail
 refine Calls.mono (A4 P hP w.heap.size D p r b A B (u.mono (sP i (Nat.le_refl _) e)) i l (y.mono (sP i (Nat.le_refl _) e)) hB) ?_;rintro F G ⟨H,rfl,j,rfl,Dm⟩;go_wp2;go_ret;exact⟨_,rfl,yQ e i (Nat.le_refl _) j,Dm⟩
def oK (P:Pr) (a:List Int) (k:Int):List Int:=iter k.toNat (λout=>tv P out a) (List.replicate a.length 0)
theorem yR {P:Pr}(hP:Valid P) {a:List Int}(ha:dL P.orders a):dL P.orders (List.replicate a.length 0):=by
 refine⟨by rw[List.length_replicate];exact ha.1,λi b => ?_⟩;have:=hP.gh i b;rw[jw];omega
theorem PT {P:Pr}(hP:Valid P) (a:List Int) (k:Int) (ha:dL P.orders a):dL P.orders (oK P a k):=
 jN (dL P.orders) _ (λy hy=>rZ hP y a hy ha) _ _ (yR hP ha)
set_option maxHeartbeats 400000 in
theorem yS (P:Pr) (hP:Valid P) (w:World) (p a:Value) (A:List Int) (k:Int) (C D:Nat->Prop) (E:fB C w p P) (ha:Ints D w a A) (j:dL P.orders A) (hk:k<=1000000000) :
  Calls Tryz.prog 196 #[p,a,.int .i64 k] w (fq w λw' v=>Own w.heap.size w' v (oK P A k)):=by
 have F:=hP.n6;have G:A.length<=6:=by rw[j.1];omega
 obtain⟨K,vr,rfl,_,_⟩:=ha.shape;go_enter Tryz.func196,Tryz.ntmps196;go_wp2_with (at_make;refine lU rfl _ _ rfl w.heap.size A.length w.heap.size rfl _ rfl rfl rfl (by omega) (Nat.le_refl _) ?_;intro L q u _)
 generalize Value.slice (some ⟨w.heap.size,0,none⟩) A.length A.length=r at *;go_loopw [12] (λi wr=>∃m:Nat,i=.int .i64 m/\m<=k.toNat/\Ext w wr/\Own w.heap.size wr r (iter m (λout=>tv P out A) (List.replicate A.length 0))) (λi _=>k.toNat-(intOf i).toNat)
 case atStart=>exact⟨0,rfl,by omega,u,q⟩
 case round=>
  obtain⟨m,rfl,hm,l,hO⟩:=hrel;by_cases H:(m:Int)<k
  ·have b:dL P.orders (iter m (λout=>tv P out A) (List.replicate A.length 0)):=jN (dL P.orders) _ (λy hy=>rZ hP y A hy j) _ _ (yR hP j)
   have I:=Lib.hid b;clear b;go_wp2_with fail
   refine Calls.mono (A4 P hP w.heap.size wr p r _ _ A (E.mono (sP hO (Nat.le_refl _) l)) hO I.out (ha.mono (sP hO (Nat.le_refl _) l)) j) ?_;rintro M N ⟨O,rfl,z,rfl,Dm⟩;have B:=yQ l hO (Nat.le_refl _) z;go_wp2;go_roundw
   case rel=>exact⟨m+1,by go_num,by omega,B,Dm⟩
   case measure=>simp[intOf];omega
  ·have e:m=k.toNat:=by omega
   have J:Hid (Own w.heap.size wr r (oK P A k)):=by rw[e] at hO;exact hO
   clear hO e;go_wp2;go_ret;exact⟨_,rfl,l,J.out⟩
def mN (o x:Int):Nat:=if x=0 then 0 else (o-x).toNat
def jC (P:Pr) (a:List Int):Nat->List Int × List Int
 | 0=>(a,List.replicate a.length 0)
 | k+1=>
  let s:=jC P a k
  let m:=mN (gt P.orders k) (gt s.1 k)
  (iter m (λe=>tg P e k) s.1,iter m (λe=>tg P e k) s.2)
def pL (P:Pr) (a:List Int):List Int:=(jC P a a.length).2
theorem Dn {P:Pr}(hP:Valid P) (e:List Int) (k:Nat) (hk:k<P.orders.length) (a:dL P.orders e) (j:gt e k≠0) (s:Nat) (l:s<=mN (gt P.orders k) (gt e k)) :
  dL P.orders (iter s (λe=>tg P e k) e)/\gt (iter s (λe=>tg P e k) e) k=if s=mN (gt P.orders k) (gt e k) then 0 else gt e k+s:=by
 have hx:=a.2 k hk;have m:mN (gt P.orders k) (gt e k)=(gt P.orders k-gt e k).toNat:=by unfold mN;rw[if_neg j]
 rw[m] at l ⊢;induction s with
 | zero=>exact⟨a,by rw[if_neg (by omega)];simp[iter]⟩
 | succ s p=>
  obtain⟨h1,b⟩:=p (by omega);refine⟨rY hP _ k h1 hk,?_⟩;show gt (tg P (iter s (λe=>tg P e k) e) k) k=_
  have q:=(BM hP P.orders.length (iter s (λe=>tg P e k) e) k h1 hk (by omega)).2;rw[if_neg (by omega)] at b;have r:gt (tg P (iter s (λe=>tg P e k) e) k) k=if gt (iter s (λe=>tg P e k) e) k+1=gt P.orders k then 0 else gt (iter s (λe=>tg P e k) e) k+1:=q
  rw[r,b];by_cases i:gt e k+s+1=gt P.orders k
  ·rw[if_pos i,if_pos (by omega)]
  ·rw[if_neg i,if_neg (by omega)];omega
theorem Ij {P:Pr}(hP:Valid P) (a:List Int) (ha:dL P.orders a) (k:Nat) (hk:k<=P.orders.length):dL P.orders (jC P a k).1/\dL P.orders (jC P a k).2:=by
 induction k with
 | zero=>exact⟨ha,yR hP ha⟩
 | succ k b=>
  obtain⟨h1,e⟩:=b (by omega);exact⟨jN (dL P.orders) _ (λy hy=>rY hP y k hy (by omega)) _ _ h1,jN (dL P.orders) _ (λy hy=>rY hP y k hy (by omega)) _ _ e⟩
set_option maxHeartbeats 1000000 in
theorem Ik (P:Pr) (hP:Valid P) (w:World) (p a:Value) (A:List Int) (Sp Sa:Nat->Prop) (hp:fB Sp w p P) (ha:Ints Sa w a A) (hA:dL P.orders A) :
  Calls Tryz.prog 127 #[p,a] w (fq w λw' v=>Own w.heap.size w' v (pL P A)):=by
 have aB:=hP.n6;have aC:A.length<=P.orders.length/\P.orders.length<=A.length:=by rw[hA.1];omega
 obtain⟨aa,vr,rfl,_,_⟩:=ha.shape;go_enter Tryz.func127,Tryz.ntmps127;go_wp2_with fail
 refine Calls.mono (xz w _ A Sa ha (by omega)) ?_;rintro e1 C ⟨r,rfl,hg1,hR⟩;have L:=hR.ints (by omega);obtain⟨ar,b,rfl,_,_⟩:=L.shape;go_wp2_with (at_make;refine lU rfl _ _ rfl C.heap.size A.length C.heap.size rfl _ rfl rfl rfl (by omega) (Nat.le_refl _) ?_;intro w2 M N _)
 generalize Value.slice (some ⟨C.heap.size,0,none⟩) A.length A.length=t at *;have O:=hR.gw N;have E:=hR.lt;have af:=Lib.hid E;clear L hR E;have ag:Ext w w2:=dy hg1 N;have F:=hg1.size;go_loopw [15] (λi wr=>∃k:Nat,i=.int .i64 k/\k<=A.length/\Ext w wr/\Own w.heap.size wr (.slice ar A.length b) (jC P A k).1/\Own C.heap.size wr t (jC P A k).2) (λi _=>A.length-(intOf i).toNat)
 case atStart=>exact⟨0,rfl,by omega,ag,O,M⟩
 case round=>
  clear O M;obtain⟨k,rfl,hk,G,hO,B⟩:=hrel;obtain⟨j,hv2⟩:=Ij hP A hA k (by omega);have H:=Lib.hid j;have ah:=Lib.hid hv2;by_cases aE:k<A.length
  ·have hx:=j.2 k (by omega)
   have Q:=hP.gh k (by omega);obtain⟨g,jL,I,_,_⟩:=hO.form (by rw[j.1];omega);have l:(jC P A k).1.length=A.length:=by rw[j.1,hA.1]
   rw[l] at I;have m:jC P A (k+1)=(iter (mN (gt P.orders k) (gt (jC P A k).1 k)) (λe=>tg P e k) (jC P A k).1,iter (mN (gt P.orders k) (gt (jC P A k).1 k)) (λe=>tg P e k) (jC P A k).2):=rfl;have S:=Lib.hid m;clear m;obtain⟨rfl,PU⟩:ar=some ⟨g,0,none⟩/\b=jL:=by cases I;exact⟨rfl,rfl⟩
   clear I PU j hv2;have U:=B.lt;have aF:g<C.heap.size:=(af.out g rfl).2;have aG:=Lib.hid U;clear U;generalize V:(jC P A k).1=R at *;generalize W:(jC P A k).2=T at *;have aH:=Lib.hid V;have aI:=Lib.hid W;clear V W;have aJ:0<=gt R k:=hx.1;have aK:gt R k<gt P.orders k:=hx.2;have av:gt P.orders k<=7:=Q.2;have aw:=Lib.hid l;clear l hx Q;go_wp2;go_loopg [21] (mN (gt P.orders k) (gt R k)) (λgk u wr=>∃s:Nat,gk+s=mN (gt P.orders k) (gt R k)/\Ext w wr/\Own w.heap.size wr (.slice (some ⟨g,0,none⟩) A.length b) (iter s (λe=>tg P e k) R)/\Own C.heap.size wr t (iter s (λe=>tg P e k) T))
   case atStart=>exact⟨0,by omega,G,hO,B⟩
   case round=>
    clear G hO B;obtain⟨s,hs,G,hO,B⟩:=hrel
    have J:dL P.orders (iter s (λe=>tg P e k) R)/\dL P.orders (iter s (λe=>tg P e k) T):=
     ⟨jN (dL P.orders) _ (λy hy=>rY hP y k hy (by omega)) _ _ H.out,jN (dL P.orders) _ (λy hy=>rY hP y k hy (by omega)) _ _ ah.out⟩
    have X:=Lib.hid J;have hc:=hO.cell k (by rw[J.1.1];omega);clear J;by_cases D:s=mN (gt P.orders k) (gt R k)
    ·have Y:gt (iter s (λe=>tg P e k) R) k=0:=by
      by_cases K:gt R k=0
      ·have:s=0:=by rw[D];unfold mN;rw[if_pos K]
       rw[this];exact K
      ·rw[(Dn hP R k (by omega) H.out K s (by omega)).2,if_pos D]
     rw[Y] at hc;have Z:Own w.heap.size wr (.slice (some ⟨g,0,none⟩) A.length b) (jC P A (k+1)).1:=by rw[S.out,<-D];exact hO
     have ab:Own C.heap.size wr t (jC P A (k+1)).2:=by rw[S.out,<-D];exact B
     have ai:=Lib.hid Z;have aj:=Lib.hid ab;clear Z ab hO B D Y;go_wp2;go_roundw
     case rel=>exact⟨k+1,by go_num,by omega,G,ai.out,aj.out⟩
     case measure=>simp[intOf];omega
    ·have Y:gt (iter s (λe=>tg P e k) R) k≠0:=by
      by_cases K:gt R k=0
      ·exfalso;apply D
       have:mN (gt P.orders k) (gt R k)=0:=by unfold mN;rw[if_pos K]
       omega
      ·rw[(Dn hP R k (by omega) H.out K s (by omega)).2,if_neg D];omega
     have ak:(gt (iter s (λe=>tg P e k) R) k != 0)=true:=by simpa using Y
     have HM:=Lib.hid D;clear D Y;go_wp2_with fail
     refine Calls.mono (Ii P hP w.heap.size wr p _ _ k (hp.mono (sP hO (Nat.le_refl _) G)) hO X.out.1 (by omega)) ?_;rintro e3 w3 ⟨v3,rfl,ac,rfl,sQ⟩;have ad:=yQ G hO (Nat.le_refl _) ac
     have z:Own C.heap.size w3 t (iter s (λe=>tg P e k) T):=B.ext ac (by
      cases hb:t.ownBlock with
      | none=>exact .inl rfl
      | some q=>exact .inr (λh=>by have h:some q=some g:=h;cases h;have:=(B.lt _ hb).1;omega))
     go_wp2_with fail
     refine Calls.mono (Ii P hP C.heap.size w3 p t _ k (hp.mono (sP z F ad)) z X.out.2 (by omega)) ?_;rintro e4 w4 ⟨v4,rfl,hg4,rfl,PV⟩;have am:=yQ ad z F hg4
     have an:=sQ.ext hg4 (by
      cases hb:t.ownBlock with
      | none=>exact .inr (by simp[Value.ownBlock])
      | some q=>exact .inr (λh=>by have h:some g=some q:=h;cases h;have:=(z.lt _ hb).1;omega))
     clear hc ak hO B sQ z;go_wp2;go_roundg (gk-1)
     case measure=>have:=HM.out;omega
     case rel=>exact⟨s+1,by have:=HM.out;omega,am,an,PV⟩
  ·have ao:k=A.length:=by omega
   subst ao;go_wp2;go_ret;exact⟨_,rfl,G,B.weak F⟩
theorem vX {P:Pr}(hP:Valid P) (a:List Int) (ha:dL P.orders a):dL P.orders (pL P a):=(Ij hP a ha a.length (by rw[ha.1];omega)).2
def oM (P:Pr) (a b:List Int):List Int:=tv P (pL P b) (tv P a b)
set_option maxHeartbeats 400000 in
theorem u5 (P:Pr) (hP:Valid P) (w:World) (p a b:Value) (A B:List Int) (j z k:Nat->Prop) (l:fB j w p P) (ha:Ints z w a A) (C:Ints k w b B) (u:dL P.orders A) (hB:dL P.orders B) :
  Calls Tryz.prog 161 #[p,a,b] w (fq w λw' v=>Own w.heap.size w' v (oM P A B)):=by
 have D:=hP.n6;have E:(pL P B).length<=6:=by rw[(vX hP B hB).1];omega
 have F:(tv P A B).length<=6:=by rw[(rZ hP A B u hB).1];omega
 go_enter Tryz.func161,Tryz.ntmps161;go_wp2_with fail
 refine Calls.mono (Ik P hP w p b B j k l C hB) ?_;rintro K G ⟨r,rfl,e,H⟩;go_wp2_with fail
 refine Calls.mono (vQ P hP G p a b A B j z k (l.ext e) (ha.ext e) (C.ext e) u hB) ?_;rintro L I ⟨m,rfl,i,J⟩;go_wp2_with fail
 refine Calls.mono (vQ P hP I p r m _ _ j Any Any (l.ext (dy e i)) ((H.gw i).ints (by omega)) (J.ints (by omega)) (vX hP B hB) (rZ hP A B u hB)) ?_;rintro M N ⟨q,rfl,y,hQ⟩;go_wp2;go_ret;exact⟨_,rfl,dy (dy e i) y,hQ.weak (by have:=e.size;have:=i.size;omega)⟩
def mz (P:Pr) (i:Nat) (x:List Int):List Int:=jR (tv P) (gt P.conj i) i x (List.replicate x.length 0) (gt P.conj i).length
theorem Il {P:Pr}(hP:Valid P) (i:Nat) (a:i<P.orders.length) (x out:List Int) (b:dL P.orders out) (k:Nat) (hk:k<=(gt P.conj i).length) :
  dL P.orders (jR (tv P) (gt P.conj i) i x out k):=by
 have e:=hP.cv i a;induction k with
 | zero=>exact b
 | succ k j=>
  unfold jR;exact jN (dL P.orders) _ (λy hy=>rZ hP _ _ hy (e.2 k (by omega)).1) _ _ (j (by omega))
set_option maxHeartbeats 1000000 in
theorem vY (P:Pr) (hP:Valid P) (w:World) (p x:Value) (i:Nat) (X:List Int) (S T:Nat->Prop) (B:i<P.orders.length) (C:fB S w p P) (hx:Ints T w x X) (D:dL P.orders X) :
  Calls Tryz.prog 266 #[p,.int .i64 i,x] w (fq w λw' v=>Own w.heap.size w' v (mz P i X)):=by
 have U:=hP.n6;have V:X.length<=P.orders.length/\P.orders.length<=X.length:=by rw[D.1];omega
 obtain⟨pb,po,rfl⟩:=C.shape;obtain⟨ax,l6,rfl,_,_⟩:=hx.shape;have E:i<P.conj.length:=by rw[hP.cl];omega
 have e:=(hP.cv i B).1;have W:(gt P.conj i).length+i+1<=P.orders.length:=by omega
 have Y:=Lib.hid e;clear e;obtain⟨ac,ji,Im,Io⟩:=C.qW;obtain⟨bc,oc,uC,PN,rfl,_,_,nT,PW⟩:=fU.at Io i E;go_enter Tryz.func266,Tryz.ntmps266;go_wp2_with (at_make;refine lU rfl _ _ rfl w.heap.size X.length w.heap.size rfl _ rfl rfl rfl (by omega) (Nat.le_refl _) ?_;intro w1 j b _;have F:=b.cell Im (by simp);have G:=b.cell nT (by simp))
 clear F G Io Im nT;generalize Value.slice (some ⟨w.heap.size,0,none⟩) X.length X.length=t at *;go_loopw [21] (λii wr=>∃k:Nat,ii=.int .i64 k/\k<=(gt P.conj i).length/\Ext w wr/\Own w.heap.size wr t (jR (tv P) (gt P.conj i) i X (List.replicate X.length 0) k)) (λii _=>(gt P.conj i).length-(intOf ii).toNat)
 case atStart=>exact⟨0,rfl,by omega,b,j⟩
 case round=>
  clear j;obtain⟨k,rfl,hk,a,hO⟩:=hrel;by_cases H:k<(gt P.conj i).length
  ·have l:=Il hP i B X _ (yR hP D) k hk
   have Z:=Lib.hid l;clear l;have q:=((hP.cv i B).2 k (by omega)).1;have r:=Lib.hid q;clear q;have aa:((i:Int)+1+k).toNat=i+1+k:=by omega
   have ab:(i:Int)+1+k<X.length:=by omega
   obtain⟨bx,ox,rfl,_,_,hcx⟩:=Ints.at (hx.ext a) (i+1+k) (by omega);have u:=D.2 (i+1+k) (by omega);have I:=hP.gh (i+1+k) (by omega);have ad:0<=gt X (i+1+k):=u.1;have ae:gt X (i+1+k)<=7:=by omega
   clear u I;obtain⟨bd,od,PO,PR,rfl,_,_,Ip,hid⟩:=dK.at PW k H;have J:=a.cell Ip (by simp);go_wp2;go_loopw [33] (λK z=>∃m:Nat,K=.int .i64 m/\m<=(gt X (i+1+k)).toNat/\Ext w z/\Own w.heap.size z t (iter m (λout=>tv P out (gt (gt P.conj i) k)) (jR (tv P) (gt P.conj i) i X (List.replicate X.length 0) k))) (λK _=>(gt X (i+1+k)).toNat-(intOf K).toNat)
   case atStart=>exact⟨0,rfl,by omega,a,hO⟩
   case round=>
    clear a hO hcx J Ip;obtain⟨m,rfl,hm,a,hO⟩:=hrel;by_cases R:(m:Int)<gt X (i+1+k)
    ·have A:dL P.orders (iter m (λout=>tv P out (gt (gt P.conj i) k)) (jR (tv P) (gt P.conj i) i X (List.replicate X.length 0) k)):=jN (dL P.orders) _ (λy hy=>rZ hP y _ hy r.out) _ _ Z.out
     have L:=Lib.hid A;clear A;go_wp2_with fail
     refine Calls.mono (A4 P hP w.heap.size wr _ t _ _ _ (C.mono (sP hO (Nat.le_refl _) a)) hO L.out (hid.mono (sP hO (Nat.le_refl _) a)) r.out) ?_;rintro e3 w3 ⟨v3,rfl,M,rfl,sQ⟩;have N:=yQ a hO (Nat.le_refl _) M;go_wp2;go_roundw
     case rel=>exact⟨m+1,by go_num,by omega,N,sQ⟩
     case measure=>simp[intOf];omega
    ·have O:m=(gt X (i+1+k)).toNat:=by omega
     subst O;go_wp2;go_roundw
     case rel=>exact⟨k+1,by go_num,by omega,a,hO⟩
     case measure=>simp[intOf];omega
  ·have Q:k=(gt P.conj i).length:=by omega
   subst Q;go_wp2;go_ret;exact⟨_,rfl,a,hO⟩
def pM (m:List Int->List Int->List Int):Nat->List Int->List Int->Nat->List Int
 | 0,out,_,_=>out
 | f+1,out,base,k=>if k=0 then out else pM m f (if k%2=1 then m out base else out) (m base base) (k/2)
def pN (m:List Int->List Int->List Int) (out base:List Int) (k:Nat):List Int:=pM m k out base k
theorem PY (m:List Int->List Int->List Int):∀(f g:Nat) (out base:List Int) (k:Nat),k<=f->k<=g->pM m f out base k=pM m g out base k:=by
 intro f;induction f with
 | zero=>
  intro g out base k a b;have:k=0:=by omega
  subst this;cases g<;>simp[pM]
 | succ f e=>
  intro g out base k a b;cases g with
  | zero=>
   have:k=0:=by omega
   subst this;simp[pM]
  | succ g=>
   simp only[pM];split
   ·rfl
   ·exact e g _ _ _ (by omega) (by omega)
theorem Iq (m:List Int->List Int->List Int) (out base:List Int) (k:Nat) (hk:0<k):pN m out base k=pN m (if k%2=1 then m out base else out) (m base base) (k/2):=by
 unfold pN;obtain⟨j,rfl⟩:∃j,k=j+1:=⟨k-1,by omega⟩;show(if j+1=0 then out else pM m j _ _ ((j+1)/2))=_
 rw[if_neg (by omega)];exact PY m _ _ _ _ _ (by omega) (Nat.le_refl _)
set_option maxHeartbeats 2000000 in
theorem Dp (P:Pr) (hP:Valid P) (w:World) (pv x:Value) (i f:Nat) (I:i+f=P.orders.length) (X:List Int) (k:Int) (Sp Sx:Nat->Prop) (hp:gy Sp w pv P) (hx:Ints Sx w x X) (hX:dL P.orders X) (aj:0<=k) (hk:k<=1000000000) :
  Calls Tryz.prog 278 #[pv,.int .i64 i,x,.int .i64 k] w (fq w λw' v=>Own w.heap.size w' v (pN (fE P f i) (zeros P.orders.length) X k.toNat)):=by
 obtain⟨vo,vp,vc,rfl,h3⟩:=hp;have ak:=hP.n6;have z:=fB.box h3 28;have A:Ext w (w.alloc (.cells #[vo,vp,vc] 28)):=World.grownBy_alloc _ _ _;have J:=hx.ext A;have al:X.length<=P.orders.length/\P.orders.length<=X.length:=by rw[hX.1];omega
 have K:(w.alloc (.cells #[vo,vp,vc] 28)).heap.size=w.heap.size+1:=by simp
 have HS:=Lib.hid K;clear K hx;go_enter Tryz.func278,Tryz.ntmps278;obtain⟨ao,iA,gJ,hoi⟩:=z.iO;go_wp2_with (at_make;refine lU rfl _ _ rfl (w.heap.size+1) P.orders.length (w.heap.size+1) (by simp) _ rfl rfl rfl (by omega) (by simp) ?_;intro S T q ac)
 clear gJ hoi;have L:=z.ext q;have M:=J.ext q;have r:Ext w S:=dy A q;obtain⟨ax,l6,rfl,_,_⟩:=M.shape;clear z J q A;generalize u:pN (fE P f i) (zeros P.orders.length) X k.toNat=res at *;have y:=Lib.hid u;clear u;have am:w.heap.size<=S.heap.size:=r.size;go_loopw [3,9,10] (λkv ov bv wr=>∃(m:Nat) (O B:List Int),kv=.int .i64 m/\m<=k.toNat/\Ext S wr/\Own w.heap.size wr ov O/\Ints Any wr bv B/\dL P.orders O/\dL P.orders B/\pN (fE P f i) O B m=res) (λkv _ _ _=>(intOf kv).toNat)
 case atStart=>exact⟨k.toNat,_,X,by congr 1;omega,Nat.le_refl _,Ext.refl _,T.weak (by omega),Ints.sub M (λ_ _ _=>trivial),lV hP,hX,y.out⟩
 case round=>
  obtain⟨m,O,B,rfl,hm,N,hO,hB,C,tP,hr⟩:=hrel;have D:=Lib.hid C;have b:=Lib.hid tP;have U:=Lib.hid hr;clear hr;obtain⟨aq,qZ,rT,_,_,hc0,hc1,hc2,kR⟩:=(L.ext N).at;obtain⟨ab,ql,rfl,_,_⟩:=hB.shape;have V:=hO.ints (by rw[C.1];omega);have Q:=tP.1;clear C tP;have ar:=Lib.hid Q;clear Q;by_cases R:0<m
  ·by_cases j:m%2=1
   ·have W:(((m:Int).tmod 2) == 1)=true:=by
     rw[Int.tmod_eq_emod_of_nonneg (by omega)];simp;omega
    have E:(((m:Int)%2) == 1)=true:=by simp;omega
    have F:=Lib.hid j;clear j;go_wp2_with fail
    refine Calls.mono (lR P hP f wr _ _ _ i O B Any Any Any I ⟨_,_,_,rfl,kR⟩ V hB D.out b.out) ?_;rintro e2 w2 ⟨v2,rfl,e,Y⟩;have ad:=e.cell hc0 (by simp);have ae:=e.cell hc1 (by simp);have af:=e.cell hc2 (by simp);go_wp2_with fail
    refine Calls.mono (lR P hP f w2 _ _ _ i B B Any Any Any I ⟨_,_,_,rfl,kR.ext e⟩ (hB.ext e) (hB.ext e) b.out b.out) ?_;rintro e3 w3 ⟨v3,rfl,l,sQ⟩;have a:=jy hP f i B B I b.out b.out;have G:=sQ.ints (by rw[a.1];omega);have H:=Lib.hid a;clear a W E;have p:=(Y.gw l).weak (base':=w.heap.size) (by have:=N.size;omega);go_wp2;go_roundw
    case rel=>exact⟨m/2,_,_,by first|rfl|(congr 1;omega)|congr 1,by omega,dy (dy N e) l,p,G,jy hP f i O B I D.out b.out,H.out,by rw[<-U.out,Iq _ O B m R,if_pos F.out]⟩
    case measure=>simp[intOf];omega
   ·have W:(((m:Int).tmod 2) == 1)=false:=by
     rw[Int.tmod_eq_emod_of_nonneg (by omega)];simp;omega
    have E:(((m:Int)%2) == 1)=false:=by simp;omega
    have F:=Lib.hid j;clear j;go_wp2_with fail
    refine Calls.mono (lR P hP f wr _ _ _ i B B Any Any Any I ⟨_,_,_,rfl,kR⟩ hB hB b.out b.out) ?_;rintro e3 w3 ⟨v3,rfl,l,sQ⟩;have a:=jy hP f i B B I b.out b.out;have G:=sQ.ints (by rw[a.1];omega);have H:=Lib.hid a;clear a W E;have p:=hO.gw l;go_wp2;go_roundw
    case rel=>exact⟨m/2,_,_,by first|rfl|(congr 1;omega)|congr 1,by omega,dy N l,p,G,D.out,H.out,by rw[<-U.out,Iq _ O B m R,if_neg F.out]⟩
    case measure=>simp[intOf];omega
  ·have Z:m=0:=by omega
   subst Z;have HO:Hid (Own w.heap.size wr u9 res):=by rw[<-U.out];exact hO
   go_wp2;go_ret;exact⟨_,rfl,dy r N,by show Own _ _ _ _;rw[y.out];exact HO.out⟩
end Go.Proofs.YtoakmefajbbggaaGreat
