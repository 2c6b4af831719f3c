/- Merged from templates. -/
import Derived.Test.YtldheeicjnncoaaGreatF1
import Derived.BigRegion
import Derived.Deep.LoopGhost
namespace Go.Proofs.YtldheeicjnncoaaGreat
structure GrpOn {α:Type}(S:α->Prop) (m:α->α->α) (e:α):Prop extends MonOn S m e where
 inv:∀x,S x->∃y,S y/\m x y=e/\m y x=e
section
variable {α:Type}{S:α->Prop}{m:α->α->α}{e:α}
theorem GrpOn.of_right (M:MonOn S m e) (h:∀x,S x->∃y,S y/\m x y=e):GrpOn S m e:=by
 refine⟨M,λx hx => ?_⟩;obtain⟨y,hy,h1⟩:=h x hx;obtain⟨z,hz,h2⟩:=h y hy
 have:x=z:=by
  have a:m (m x y) z=m x (m y z):=M.ass x y z hx hy hz;rw[h1,h2,M.el z hz,M.er x hx] at a;exact a.symm
 exact⟨y,hy,h1,by rw[this];exact h2⟩
theorem GrpOn.cancel (G:GrpOn S m e) {a x y:α}(ha:S a) (hx:S x) (hy:S y) (h:m a x=m a y):x=y:=by
 obtain⟨b,i,_,h2⟩:=G.inv a ha;have j:m b (m a x)=m b (m a y):=by rw[h]
 rw[<-G.ass b a x i ha hx,<-G.ass b a y i ha hy,h2,G.el x hx,G.el y hy] at j;exact j
theorem GrpOn.right_left (G:GrpOn S m e) {a b:α}(ha:S a) (i:S b) (h:m a b=e):m b a=e:=by
 obtain⟨c,hc,h1,h2⟩:=G.inv a ha;have:b=c:=G.cancel ha i hc (by rw[h,h1]);rw[this];exact h2
theorem GrpOn.solve (G:GrpOn S m e) {a b x y:α}(ha:S a) (j:S b) (hx:S x) (hy:S y) (i:m a b=e):m b x=y↔x=m a y:=by
 have k:=G.right_left ha j i;constructor
 ·intro h;rw[<-h,<-G.ass a b x ha j hx,i,G.el x hx]
 ·intro h;rw[h,<-G.ass b a y j ha hy,k,G.el y hy]
def exm (m:α->α->α) (φ : α->α) (w:α) (o:Nat) (p q:Nat × α):Nat × α:=
 if o<=p.1+q.1 then (p.1+q.1-o,m w (m (iter q.1 φ p.2) q.2)) else (p.1+q.1,m (iter q.1 φ p.2) q.2)
structure ExtOk (S:α->Prop) (m:α->α->α) (e:α) (φ : α->α) (w:α) (o:Nat):Prop where
 o2:2<=o
 grp:GrpOn S m e
 cl:∀x,S x->S (φ x)
 hom:∀x y,S x->S y->φ (m x y)=m (φ x) (φ y)
 wS:S w
 wφ : φ w=w
 root:∀x,S x->m w (iter o φ x)=m x w
variable {φ : α->α}{w:α}{o:Nat}
theorem ExtOk.icl (E:ExtOk S m e φ w o) (k:Nat) (x:α) (hx:S x):S (iter k φ x):=iter_inv S φ E.cl k x hx
theorem ExtOk.ihom (E:ExtOk S m e φ w o) (k:Nat) (x y:α) (hx:S x) (hy:S y):iter k φ (m x y)=m (iter k φ x) (iter k φ y):=by
 induction k with
 | zero=>rfl
 | succ k a=>show φ (iter k φ (m x y))=_;rw[a];exact E.hom _ _ (E.icl k x hx) (E.icl k y hy)
theorem ExtOk.iw (E:ExtOk S m e φ w o) (k:Nat):iter k φ w=w:=by
 induction k with
 | zero=>rfl
 | succ k a=>show φ (iter k φ w)=w;rw[a];exact E.wφ
theorem ExtOk.one (E:ExtOk S m e φ w o):φ e=e:=by
 have h:=E.hom e e E.grp.one E.grp.one;rw[E.grp.el e E.grp.one] at h;have c:=E.cl e E.grp.one;exact(E.grp.cancel c E.grp.one c (by rw[E.grp.er _ c];exact h)).symm
theorem ExtOk.ione (E:ExtOk S m e φ w o) (k:Nat):iter k φ e=e:=by
 induction k with
 | zero=>rfl
 | succ k a=>show φ (iter k φ e)=e;rw[a];exact E.one
theorem ExtOk.draw (E:ExtOk S m e φ w o) (k:Nat) (hk:o<=k) (x:α) (hx:S x):m (iter (k-o) φ x) w=m w (iter k φ x):=by
 rw[<-E.root _ (E.icl _ x hx),<-iter_add,show o+(k-o)=k by omega]
def ExS (S:α->Prop) (o:Nat) (p:Nat × α):Prop:=p.1<o/\S p.2
theorem ExtOk.exm_cl (E:ExtOk S m e φ w o) (p q:Nat × α) (i:ExS S o p) (j:ExS S o q):ExS S o (exm m φ w o p q):=by
 obtain⟨a,x⟩:=p;obtain⟨b,y⟩:=q;obtain⟨ha,hx⟩:=i;obtain⟨k,hy⟩:=j;have c:=E.grp.cl _ _ (E.icl b x hx) hy;simp only at ha k hx hy;unfold exm;simp only;split
 ·exact⟨by show a+b-o<o;omega,E.grp.cl _ _ E.wS c⟩
 ·exact⟨by show a+b<o;omega,c⟩
theorem ExtOk.exm_ass (E:ExtOk S m e φ w o) (p q r:Nat × α) (G:ExS S o p) (H:ExS S o q) (hr:ExS S o r):exm m φ w o (exm m φ w o p q) r=exm m φ w o p (exm m φ w o q r):=by
 obtain⟨a,x⟩:=p;obtain⟨b,y⟩:=q;obtain⟨c,z⟩:=r;obtain⟨ha,hx⟩:=G;obtain⟨I,hy⟩:=H;obtain⟨J,u⟩:=hr;simp only at ha I J hx hy u;have M:=E.grp.toMonOn;have A:=E.wS;have c1:=E.icl b x hx;have c2:=E.icl c _ c1;have c3:=E.icl c y hy;have c4:=M.cl _ _ c1 hy;have c5:=M.cl _ _ c3 u;-- the left side's inner part, and the right side's
 have B:iter c φ (m (iter b φ x) y)=m (iter c φ (iter b φ x)) (iter c φ y):=E.ihom c _ _ c1 hy;have k:iter c φ (m w (m (iter b φ x) y))=m w (m (iter c φ (iter b φ x)) (iter c φ y)):=by rw[E.ihom c _ _ A c4,E.iw,B]
 have i:iter (b+c) φ x=iter c φ (iter b φ x):=by rw[Nat.add_comm,iter_add]
 have c6:=M.cl _ _ c2 c3;have C:m (m (iter c φ (iter b φ x)) (iter c φ y)) z=m (iter c φ (iter b φ x)) (m (iter c φ y) z):=M.ass _ _ _ c2 c3 u;have l:m (m w (m (iter c φ (iter b φ x)) (iter c φ y))) z=m w (m (iter c φ (iter b φ x)) (m (iter c φ y) z)):=by rw[M.ass _ _ _ A c6 u,C]
 have F:o<=b+c->m (iter (b+c-o) φ x) (m w (m (iter c φ y) z))=m w (m (iter c φ (iter b φ x)) (m (iter c φ y) z)):=by
  intro h;rw[<-M.ass _ _ _ (E.icl _ x hx) A c5,E.draw _ h x hx,i,M.ass _ _ _ A c2 c5]
 unfold exm;by_cases D:o<=a+b
 ·by_cases d1:o<=b+c
  ·simp only[if_pos D,if_pos d1]
   by_cases j:o<=a+b-o+c
   ·have d2:o<=a+(b+c-o):=by omega
    simp only[if_pos j,if_pos d2];rw[k,l,F d1,show a+b-o+c-o=a+(b+c-o)-o by omega]
   ·have d2:¬o<=a+(b+c-o):=by omega
    simp only[if_neg j,if_neg d2];rw[k,l,F d1,show a+b-o+c=a+(b+c-o) by omega]
  ·simp only[if_pos D,if_neg d1]
   have j:¬o<=a+b-o+c:=by omega
   have d2:o<=a+(b+c):=by omega
   simp only[if_neg j,if_pos d2];rw[k,l,i,show a+b-o+c=a+(b+c)-o by omega]
 ·by_cases d1:o<=b+c
  ·simp only[if_neg D,if_pos d1]
   have j:o<=a+b+c:=by omega
   have d2:¬o<=a+(b+c-o):=by omega
   simp only[if_pos j,if_neg d2];rw[B,C,F d1,show a+b+c-o=a+(b+c-o) by omega]
  ·simp only[if_neg D,if_neg d1]
   by_cases j:o<=a+b+c
   ·have d2:o<=a+(b+c):=by omega
    simp only[if_pos j,if_pos d2];rw[B,C,i,show a+b+c-o=a+(b+c)-o by omega]
   ·have d2:¬o<=a+(b+c):=by omega
    simp only[if_neg j,if_neg d2];rw[B,C,i,show a+b+c=a+(b+c) by omega]
theorem ExtOk.group (E:ExtOk S m e φ w o):GrpOn (ExS S o) (exm m φ w o) (0,e):=by
 have M:=E.grp.toMonOn;have j:=E.o2
 have b:MonOn (ExS S o) (exm m φ w o) (0,e):=by
  refine⟨E.exm_cl,⟨by show 0<o;omega,M.one⟩,E.exm_ass,?_,?_⟩
  ·rintro ⟨a,x⟩ ⟨ha,hx⟩
   simp only at ha hx;unfold exm;simp only[Nat.zero_add,if_neg (by omega:¬o<=a),E.ione,M.el x hx]
  ·rintro ⟨a,x⟩ ⟨ha,hx⟩
   simp only at ha hx;unfold exm;simp only[Nat.add_zero,if_neg (by omega:¬o<=a)];show(a,m x e)=(a,x)
   rw[M.er x hx]
 refine GrpOn.of_right b ?_;rintro⟨a,x⟩ ⟨ha,hx⟩;simp only at ha hx;by_cases i:a=0
 ·subst i
  obtain⟨y,hy,h1,_⟩:=E.grp.inv x hx;refine⟨(0,y),⟨by show 0<o;omega,hy⟩,?_⟩;unfold exm;simp only[Nat.add_zero,if_neg (by omega:¬o<=0)];show(0,m x y)=(0,e)
  rw[h1]
 ·obtain ⟨y,hy,h1,_⟩:=E.grp.inv _ (M.cl _ _ E.wS (E.icl (o-a) x hx))
  refine⟨(o-a,y),⟨by show o-a<o;omega,hy⟩,?_⟩;unfold exm;simp only[if_pos (by omega:o<=a+(o-a))];rw[<-M.ass _ _ _ E.wS (E.icl _ x hx) hy,h1,show a+(o-a)-o=0 by omega]
theorem GrpOn.carry {l:Type}{S':l->Prop}{r:l->l->l}{e':l}(G:GrpOn S m e) (f:α->l) (q:∀x,S x->S' (f x)) (i:∀y,S' y->∃x,S x/\f x=y) (u:f e=e')
  (k:∀x y,S x->S y->r (f x) (f y)=f (m x y)):GrpOn S' r e':=by
 subst u;refine⟨⟨?_,q e G.one,?_,?_,?_⟩,?_⟩
 ·intro x y hx hy
  obtain⟨a,ha,rfl⟩:=i x hx;obtain⟨b,j,rfl⟩:=i y hy;rw[k a b ha j];exact q _ (G.cl _ _ ha j)
 ·intro x y z hx hy w
  obtain⟨a,ha,rfl⟩:=i x hx;obtain⟨b,j,rfl⟩:=i y hy;obtain⟨c,p,rfl⟩:=i z w;rw[k a b ha j,k _ c (G.cl _ _ ha j) p,k b c j p,k a _ ha (G.cl _ _ j p),G.ass a b c ha j p]
 ·intro x hx
  obtain⟨a,ha,rfl⟩:=i x hx;rw[k e a G.one ha,G.el a ha]
 ·intro x hx
  obtain⟨a,ha,rfl⟩:=i x hx;rw[k a e ha G.one,G.er a ha]
 ·intro x hx
  obtain⟨a,ha,rfl⟩:=i x hx;obtain⟨b,j,h1,h2⟩:=G.inv a ha;exact⟨f b,q b j,by rw[k a b ha j,h1],by rw[k b a j ha,h2]⟩
end
end Go.Proofs.YtldheeicjnncoaaGreat
namespace Go.Proofs.YtldheeicjnncoaaGreat
open Go.RowKit
set_option maxHeartbeats 2000000 in
theorem l08At_zero (P:Pr) (hP:Valid P):AtOk P 0:=by
 intro w pv a b i A B r u y hi m ha z C hB;obtain⟨vo,vp,vc,rfl,h3⟩:=m;have p:=hP.n6;have j:=PresP.box h3 28;obtain⟨D,capo,dM,hoi⟩:=j.ordAt;have e:(i:Int)=P.orders.length:=by omega
 have q:((P.orders.length:Int)<=(i:Int)):=by omega
 have E:=Lib.hid e;clear e;go_enter Tryz.func346,Tryz.ntmps346;go_wp2_with (at_make;refine wp_make_ints rfl _ _ rfl (w.heap.size+1) P.orders.length (w.heap.size+1) (by simp) _ rfl rfl rfl (by omega) (by simp) ?_;intro F k l _)
 go_ret;exact⟨_,rfl,grown_trans (World.grownBy_alloc _ _ _) l,k.weak (by omega)⟩
set_option maxHeartbeats 4000000 in
theorem l08At_succ (P:Pr) (hP:Valid P) (f:Nat) (ih:AtOk P f):AtOk P (f+1):=by
 intro w pv a b i A B Sp Sa Sb hi hp ha hb hA hB;obtain⟨vo,vp,vc,rfl,h3⟩:=hp;have bi:=hP.n6;have D:=PresP.box h3 28;have N:=ha.ext (World.grownBy_alloc w (.cells #[vo,vp,vc] 28) none);have O:=hb.ext (World.grownBy_alloc w (.cells #[vo,vp,vc] 28) none);have bj:A.length<=P.orders.length/\P.orders.length<=A.length:=by rw[hA.1];omega
 have bk:B.length<=P.orders.length/\P.orders.length<=B.length:=by rw[hB.1];omega
 have aJ:Ext w (w.alloc (.cells #[vo,vp,vc] 28)):=World.grownBy_alloc _ _ _;have ah:(w.alloc (.cells #[vo,vp,vc] 28)).heap.size=w.heap.size+1:=by simp
 have HS:=Lib.hid ah;clear ah;clear ha hb;go_enter Tryz.func346,Tryz.ntmps346;obtain⟨ao,capo,dM,k⟩:=D.ordAt;go_wp2_with fail
 clear dM k;generalize aL:w.alloc (.cells #[vo,vp,vc] 28)=w0 at *;clear aL;refine Calls.mono (l01Own_ok w0 a A Sa N (by omega)) ?_;rintro e1 w1 ⟨L,rfl,E,hL⟩;go_wp2_with fail
 refine Calls.mono (l01Own_ok w1 b B Sb (O.ext E) (by omega)) ?_;rintro e2 w2 ⟨R,rfl,Q,hR⟩;have F:=hL.ext0 Q;obtain⟨gl,capl,rfl,hbl,hsl⟩:=hL.form (by omega);obtain⟨gr,capr,rfl,hbr,oh⟩:=hR.form (by omega);have ai:gl≠gr:=by omega
 have c1:=F.cell i (by omega);have f1:=F.frozen i;obtain⟨aj,S⟩:=F.store i 0;have G:=hR.ext S (.inr (by intro h;cases h;exact ai rfl));have c2:=G.cell i (by omega);have f2:=G.frozen i;obtain⟨ak,hg4⟩:=G.store i 0;have al:=aj.ext hg4 (.inr (by intro h;cases h;exact ai rfl))
 have am:Ext w0 ((w2.setCell ⟨gl,i,none⟩ (.int .i64 0)).setCell ⟨gr,i,none⟩ (.int .i64 0)):=
  grown_own (grown_own (grown_trans E Q) S (λj hj aq=>by cases hj;omega)) hg4 (λj hj aq=>by cases hj;have:=E.size;omega)
 have aN:=hA.set i 0 ⟨by omega,λ_=>by have:=hP.ord7 i (by omega);omega⟩;have ar:=hB.set i 0 ⟨by omega,λ_=>by have:=hP.ord7 i (by omega);omega⟩;have bm:=E.size;have bn:=Q.size;have U:=hA.2 i (by omega);have V:=hB.2 i (by omega);have k:=hP.ord7 i (by omega);have a4:0<=gt A i:=U.1;have a5:0<=gt B i:=V.1;have a6:2<=gt P.orders i:=k.1;have a7:gt A i<gt P.orders i:=U.2;have a8:gt B i<gt P.orders i:=V.2;have a9:gt P.orders i<=7:=k.2;clear U V k;go_wp2;clear c1 f1 c2 f2 F aj G hL hR;generalize aO:(w2.setCell ⟨gl,i,none⟩ (.int .i64 0)).setCell ⟨gr,i,none⟩ (.int .i64 0)=w4 at *;clear aO S hg4;obtain⟨ab,capb,rfl,_,_⟩:=O.shape;obtain⟨aa,capa,rfl,_,_⟩:=N.shape
 go_loopw [10,12] (λv mm wr=>∃m:Nat,mm=.int .i64 m/\m<=(gt B i).toNat/\Ext w4 wr /\
   Own (w.heap.size+1) wr v (iter m (λl=>rImage P f i l) (A.set i 0))) (λ_ mm _=>(gt B i).toNat-(intOf mm).toNat)
 case atStart=>exact⟨0,rfl,by omega,Ext.refl _,al.weak (by have:=HS.out;omega)⟩
 case round=>
  obtain⟨m,rfl,hm,hg,hO⟩:=hrel;have H:Ext w0 wr:=grown_trans am hg;obtain⟨bb,ob,rfl,_,_,hcb⟩:=Ints.at (O.ext H) i (by omega);have W:Vec P.orders (iter m (λl=>rImage P f i l) (A.set i 0)):=iter_inv (Vec P.orders) _ (λy hy=>rImgTo_vec hP f i hi (rAt_vec hP f) _ _ (zeros_vec hP) f (Nat.le_refl _)) _ _ aN;have HV:=Lib.hid W;have X:=hO.ints (by rw[W.1];omega);clear W;obtain⟨au,iA,iH,_,_,hc0,hc1,I,fQ⟩:=(D.ext H).at;by_cases av:(m:Int)<gt B i
  ·go_wp2_with fail
   refine Calls.mono (l08Image_of P hP f ih wr _ _ i _ Any Any hi ⟨_,_,_,rfl,fQ⟩ X HV.out) ?_;rintro e5 w5 ⟨v5,rfl,hg5,jW⟩;go_wp2;go_roundw
   case rel=>exact⟨m+1,by go_num,by omega,grown_trans hg hg5,jW.weak (by have:=H.size;have:=HS.out;omega)⟩
   case measure=>simp[intOf];omega
  ·have aS:m=(gt B i).toNat:=by omega
   subst aS;have aw:=ak.ext0 hg;generalize r:iter (gt B i).toNat (λl=>rImage P f i l) (A.set i 0)=left at *;have HL:=Lib.hid r;clear r;go_wp2_with fail
   refine Calls.mono (ih wr _ _ _ (i+1) left (B.set i 0) Any Any Any (by omega) ⟨_,_,_,rfl,fQ⟩ X (aw.ints (by simp;omega)) HV.out ar) ?_;rintro e6 w6 ⟨rest,rfl,iW,mj⟩;have u:Ext w0 w6:=grown_trans H iW;obtain⟨ba,oa,rfl,_,_,hca⟩:=Ints.at (N.ext u) i (by omega);have ax:w6.cell? ⟨bb,ob+i,none⟩=some (.int .i64 (gt B i)):=iW.cell hcb (by simp);have ay:=rAt_vec hP f (i+1) _ _ (by omega) HV.out ar;have z:=Lib.hid ay;clear ay;clear hc0 hc1 I hcb X hO fQ aw ak al av hm;generalize C:rAt P f (i+1) left (B.set i 0)=e at *;have J:=Lib.hid C;clear C;have bu:i<A.length:=by omega
   have a':i<B.length:=by omega
   have s1:IntKind.i64.wrap (gt A i+gt B i)=gt A i+gt B i:=IntWalk.i64_in _ (by omega);go_wp2;go_quiet (fail)
   clear s1 hca ax
   have K:rAt P (f+1) i A B=if gt P.orders i<=gt A i+gt B i then (rAt P f (i+1) (gt P.powers i) e).set i (gt A i+gt B i-gt P.orders i) else e.set i (gt A i+gt B i):=by
    rw[<-J.out,<-HL.out];rfl
   have HF:=Lib.hid K;clear K;rename_i nq _;have p:Ext w0 (w6.drewN nq):=grown_trans u (grown_drewN _ _ _);have az:Own wr.heap.size (w6.drewN nq) rest e:=mj;have Y:=az.ints (by rw[z.out.1];omega);have Z:=D.ext p;obtain⟨bw,om,dM,k⟩:=Z.ordAt;obtain⟨bo,oo,rfl,_,_,gh⟩:=Ints.at k i (by omega);obtain⟨ap,capp,ac,hpr⟩:=Z.powAt;obtain⟨bp,op,aU,ad,rfl,_,_,ig,aV⟩:=Rows2.at hpr i (by rw[hP.pl];omega);have bx:i<P.powers.length:=by rw[hP.pl];omega
   have bc:wr.heap.size<=(w6.drewN nq).heap.size:=iW.size;clear mj u Z k hpr;generalize w6.drewN nq=M at *;by_cases hc:gt P.orders i<=gt A i+gt B i
   case' pos=>
    have aA:=Lib.hid (HF.out.trans (if_pos hc));clear HF;obtain⟨au,iA,iH,_,_,hc0,hc1,I,fQ⟩:=(D.ext p).at;have s3:IntKind.i64.wrap ((i:Int)+1)=(i:Int)+1:=IntWalk.i64_in _ (by omega);have s4:IntKind.i64.wrap (gt A i+gt B i-gt P.orders i)=gt A i+gt B i-gt P.orders i:=IntWalk.i64_in _ (by omega);have e1:∀w',Ext M w'->w'.cell? ⟨w.heap.size,0,none⟩=some au:=λw' h=>h.cell hc0 (by simp);have e2:∀w',Ext M w'->w'.cell? ⟨w.heap.size,1,none⟩=some (.slice (some ⟨bp,op,none⟩) P.powers.length capp):=λw' h=>h.cell (by simpa using ac) (by simp);have e3:∀w',Ext M w'->w'.cell? ⟨w.heap.size,2,none⟩=some iH:=λw' h=>h.cell (by simpa using I) (by simp);have e4:∀w',Ext M w'->w'.cell? ⟨bp,op+i,none⟩=some (.slice aU (gt P.powers i).length ad):=λw' h=>h.cell ig (by simp)
    have aW:iA=.slice (some ⟨bp,op,none⟩) P.powers.length capp:=by
     have:=hc1.symm.trans ac;simpa using this
    subst aW;have b3:(i:Int)<P.powers.length:=by omega
    have aB:=(hP.pv i (by omega)).1;have aC:=Lib.hid aB;clear aB;clear I hc1 ac;go_wp2;clear dM gh ig
    go_region_held3 (λw'=>Ext M w') (first|exact grown_drew _ _|exact ae)
      (first|(go_at_call 346;refine Calls.mono (Calls.rel (w0:=M) (by assumption) (ih _ _ _ _ (i+1) (gt P.powers i) e Any Any Any (by omega) ⟨_,_,_,rfl,Pres3.ext fQ (by assumption)⟩ (Ints.ext aV (by assumption)) (Ints.ext Y (by assumption)) aC.out z.out)) ?_;rintro e8 w8 ⟨v8,rfl,ae,qK,aY⟩))
    have aD:=rAt_vec hP f (i+1) _ _ (by omega) aC.out z.out;have aE:(rAt P f (i+1) (gt P.powers i) e).length=P.orders.length:=aD.1;clear e1 e2 e3 e4 s3 s4 aD;go_wp2_with fail
    refine Calls.mono (l01Own_ok w8 v8 (rAt P f (i+1) (gt P.powers i) e) Any (aY.ints (by omega)) (by omega)) ?_;have bE:w0.heap.size<=w8.heap.size:=by have:=p.size;have:=ae.size;omega
    have q:Ext w0 w8:=grown_trans p ae;generalize rAt P f (i+1) (gt P.powers i) e=fin at *;generalize af:gt A i+gt B i-gt P.orders i=cc at *
   case' neg=>
    have aA:=Lib.hid (HF.out.trans (if_neg hc));clear HF;have aE:e.length=P.orders.length:=z.out.1;go_wp2_with fail
    refine Calls.mono (l01Own_ok M rest e Any Y (by omega)) ?_;have q:Ext w0 M:=p;generalize af:gt A i+gt B i=cc at *;clear Y az z J;generalize e=fin at *
   all_goals
    have bF:=Lib.hid af;clear af;have be:fin.length<=P.orders.length/\P.orders.length<=fin.length:=by omega
    clear aE;rintro e9 w9 ⟨v9,rfl,aZ,jY⟩;obtain⟨g9,oA,rfl,hb9,iR⟩:=jY.form (by omega);have c9:=jY.cell i (by omega);have f9:=jY.frozen i;obtain⟨aF,aG⟩:=jY.store i cc;have bG:i<fin.length:=by omega
    go_wp2;go_ret;refine⟨_,rfl,?_,?_⟩
    ·exact grown_trans aJ (grown_own (grown_trans q aZ) aG (λj hj aq=>by cases hj;have:=q.size;omega))
    ·rw[aA.out];exact aF.weak (by have:=q.size;have:=HS.out;omega)
theorem l08At_ok (P:Pr) (hP:Valid P) (f:Nat):AtOk P f:=by
 induction f with
 | zero=>exact l08At_zero P hP
 | succ f a=>exact l08At_succ P hP f a
def rMul (P:Pr) (A B:List Int):List Int:=rAt P P.orders.length 0 A B
set_option maxHeartbeats 1000000 in
theorem l08Mul_ok (P:Pr) (hP:Valid P) (w:World) (pv a b:Value) (A B:List Int) (k i j:Nat->Prop) (l:PresV k w pv P) (ha:Ints i w a A) (m:Ints j w b B) (p:Vec P.orders A) (hB:Vec P.orders B) :
  Calls Tryz.prog 295 #[pv,a,b] w (Ret w λw' v=>Own w.heap.size w' v (rMul P A B)):=by
 obtain⟨vo,vp,vc,rfl,q⟩:=l;go_enter Tryz.func295,Tryz.ntmps295;obtain⟨r,iA,iH,_,_,hc0,hc1,hc2,fQ⟩:=(PresP.box q 28).at;go_wp2_with fail
 refine Calls.mono (l08At_ok P hP P.orders.length _ _ _ _ 0 A B Any i j (by omega) ⟨_,_,_,rfl,fQ⟩ (ha.ext (World.grownBy_alloc _ _ _)) (m.ext (World.grownBy_alloc _ _ _)) p hB) ?_;rintro u y ⟨v1,rfl,e,gN⟩;go_wp2;go_ret;exact⟨_,rfl,grown_trans (World.grownBy_alloc _ _ _) e,gN.weak (by simp)⟩
set_option maxHeartbeats 4000000 in
theorem sIsPresentation_ok (w:World) (pv:Value) (P:Pr) (S:Nat->Prop) (hp:PresV S w pv P) :
  Calls Tryz.prog 196 #[pv] w (Ret w λ_ v=>v=.bool (validB P)):=by
 obtain⟨vo,vp,vc,rfl,h3⟩:=hp;have a:=PresP.box h3 28;have m:Ext w (w.alloc (.cells #[vo,vp,vc] 28)):=World.grownBy_alloc _ _ _;go_enter Tryz.func196,Tryz.ntmps196;obtain⟨ao,capo,dM,M⟩:=a.ordAt;obtain⟨ap,capp,hcp,hpi⟩:=a.powAt;obtain⟨ac,capc,hcc,fk⟩:=a.conjAt;by_cases h6:P.orders.length<=6;rotate_left
 ·have H:decide ((6:Int)<(P.orders.length:Int))=true:=by simp;omega
  go_wp2;go_ret;exact ret_bool m (validB_false (λh=>h6 h.n6)).symm
 have af:decide ((6:Int)<(P.orders.length:Int))=false:=by simp;omega
 by_cases p:P.powers.length=P.orders.length;rotate_left
 ·have H:((P.powers.length:Int) != (P.orders.length:Int))=true:=by simp;omega
  have HP:=Lib.hid p;clear p;go_wp2;go_ret;exact ret_bool m (validB_false (λh=>HP.out h.pl)).symm
 have ag:((P.powers.length:Int) != (P.orders.length:Int))=false:=by simp[p]
 by_cases y:P.conj.length=P.orders.length;rotate_left
 ·have H:((P.conj.length:Int) != (P.orders.length:Int))=true:=by simp;omega
  have HP:=Lib.hid p;clear p;have HC:=Lib.hid y;clear y;go_wp2;go_ret;exact ret_bool m (validB_false (λh=>HC.out h.cl)).symm
 have ai:((P.conj.length:Int) != (P.orders.length:Int))=false:=by simp[y]
 have ax:P.powers.length<=P.orders.length/\P.orders.length<=P.powers.length:=by omega
 have ay:P.conj.length<=P.orders.length/\P.orders.length<=P.conj.length:=by omega
 have HP:=Lib.hid p;clear p;have HC:=Lib.hid y;clear y;go_wp2;clear af ag ai;generalize aj:w.alloc (.cells #[vo,vp,vc] 28)=w0 at *;clear aj;go_loop [4] (λi=>∃k:Nat,i=.int .i64 k/\k<=P.orders.length/\∀i,i<k->primeB (gt P.orders i)=true) (λi=>P.orders.length-(intOf i).toNat)
 case atStart=>exact⟨0,rfl,by omega,λi hi=>by omega⟩
 case round =>
  obtain⟨k,rfl,hk,hz⟩:=hrel;have HZ:=Lib.hid hz;clear hz;by_cases u:k<P.orders.length
  ·obtain ⟨b,off,rfl,_,_,hc⟩:=Ints.at M k u
   cases hx:primeB (gt P.orders k) with
   | false=>
    have N:=Lib.hid hx;go_wp2_with (go_at_call 265;refine(l01Prime_ok _ _).mono ?_;rintro e1 w1 ⟨rfl,rfl⟩)
    go_ret;exact ret_bool m (validB_false (λh=>by have:=primeB_true.2 (h.ord k u);rw[N.out] at this;cases this)).symm
   | true=>
    have N:=Lib.hid hx;go_wp2_with (go_at_call 265;refine(l01Prime_ok _ _).mono ?_;rintro e1 w1 ⟨rfl,rfl⟩)
    go_round
    case rel=>exact⟨k+1,by go_num,by omega,λi hi=>by
      rcases Nat.lt_or_ge i k with h1|h1
      ·exact HZ.out i h1
      ·have:i=k:=by omega
       rw[this];exact N.out⟩
    case measure=>simp[intOf];omega
  ·have O : k=P.orders.length:=by omega
   subst O;have I:∀i,i<P.orders.length->1<=gt P.orders i/\gt P.orders i<=7:=λi hi=>by have:=primeB_true.1 (HZ.out i hi);omega
   have V:=Lib.hid I;clear I;have J:=capTo_le (l:=P.orders) P.orders.length (λi hi=>(V.out i hi).1);have Q:=Lib.hid J;clear J;by_cases K:capTo P.orders P.orders.length<=729;rotate_left
   ·have H:decide ((729:Int)<capTo P.orders P.orders.length)=true:=by simp;omega
    go_wp2_with (go_at_call 197;refine(l07Product_ok _ _ P.orders Any M V.out).mono ?_;rintro e1 w1 ⟨rfl,rfl⟩)
    go_ret;exact ret_bool m (validB_false (λh=>by have:=Q.out.1.2 h.le729;omega)).symm
   have H:decide ((729:Int)<capTo P.orders P.orders.length)=false:=by simp;omega
   go_wp2_with (go_at_call 197;refine(l07Product_ok _ _ P.orders Any M V.out).mono ?_;rintro e1 w1 ⟨rfl,rfl⟩)
   have an:=Lib.hid (Q.out.1.1 K);have z:∀i,i<P.orders.length->0<=gt P.orders i/\gt P.orders i<=7:=λi hi=>by have:=V.out i hi;omega
   have A:=Lib.hid z;clear z;clear hcc hcp dM H K V Q;go_loopw [5] (λi wr=>∃k:Nat,i=.int .i64 k/\k<=P.orders.length/\Dr w0 wr/\∀i,i<k->tailB P.orders i (gt P.powers i)=true/\(gt P.conj i).length=P.orders.length-1-i/\∀j,j<P.orders.length-1-i->tailB P.orders i (gt (gt P.conj i) j)=true) (λi _=>P.orders.length-(intOf i).toNat)
   case atStart=>exact⟨0,rfl,by omega,Dr.refl _,λi hi=>by omega⟩
   case round =>
    obtain⟨k,rfl,hk,B,hz⟩:=hrel;have F:=Lib.hid hz;clear hz;have R:Ext w wr:=grown_trans m B.ext;by_cases u:k<P.orders.length
    ·obtain ⟨aB,capo5,dM,q⟩:=(a.ext B.ext).ordAt
     obtain⟨ap,capp,hcp,hpi⟩:=(a.ext B.ext).powAt;obtain⟨ac,capc,hcc,fk⟩:=(a.ext B.ext).conjAt;obtain⟨b1,o1,a2,cap2,rfl,_,_,hc2,G⟩:=Rows2.at hpi k (by omega);obtain⟨b3,o3,a4,cap4,rfl,_,_,iB,hi4⟩:=Rows3.at fk k (by omega);have C:expZB P.orders (gt P.powers k) k=false->validB P=false:=λhx=>validB_false (λh=>by have:=expZB_vec.2 (h.pv k u);rw[hx] at this;cases this);have D:¬(gt P.conj k).length=P.orders.length-1-k->validB P=false:=λhx=>validB_false (λh=>hx (h.cv k u).1);have E:∀j,j<P.orders.length-1-k->expZB P.orders (gt (gt P.conj k) j) k=false->validB P=false:=λj hj hx=>validB_false (λh=>by have:=expZB_vec.2 ((h.cv k u).2 j hj);rw[hx] at this;cases this);have aq:=Lib.hid C;have ar:=Lib.hid D;have au:=Lib.hid E;clear C D E;have b5:(0:Int)<=k:=by omega
     have b6:(k:Int)<P.powers.length:=by omega
     have b7:(k:Int)<P.conj.length:=by omega
     have s1:IntKind.i64.wrap ((P.orders.length:Int)-1)=(P.orders.length:Int)-1:=IntWalk.i64_in _ (by omega);have s2:IntKind.i64.wrap ((P.orders.length:Int)-1-k)=(P.orders.length:Int)-1-k:=IntWalk.i64_in _ (by omega);cases hx:expZB P.orders (gt P.powers k) k with
     | false=>
      have N:=Lib.hid hx;go_wp2;go_quiet ((go_at_call 283;exact quiet_rd (l07Exponents_ok _ _ _ P.orders (gt P.powers k) k Any Any (q.ext (grown_drewN _ _ _)) (G.ext (grown_drewN _ _ _)) A.out)))
      go_wp2;go_ret;exact ret_bool (grown_trans R (grown_drewN _ _ _)) (aq.out N.out).symm
     | true =>
      have N:=Lib.hid hx;by_cases r:(gt P.conj k).length=P.orders.length-1-k
      ·have H:(((gt P.conj k).length:Int) != (P.orders.length:Int)-1-k)=false:=by simp;omega
       have aG:(gt P.conj k).length<=P.orders.length-1-k/\P.orders.length-1-k<=(gt P.conj k).length:=by omega
       have U:=Lib.hid r;clear r;go_wp2;go_quiet ((go_at_call 283;exact quiet_rd (l07Exponents_ok _ _ _ P.orders (gt P.powers k) k Any Any (q.ext (grown_drewN _ _ _)) (G.ext (grown_drewN _ _ _)) A.out)))
       rename_i nq _;have W:=B.step nq;clear H hx hcp hc2 s1 s2 b6;have X:Rows3 Any (wr.drewN nq) (.slice (some ⟨b3,o3,none⟩) P.conj.length capc) P.conj:=fk;go_wp2;go_loopw [6] (λi wr=>∃j:Nat,i=.int .i64 j/\j<=(gt P.conj k).length/\Dr w0 wr/\∀i,i<j->expZB P.orders (gt (gt P.conj k) i) k=true) (λi _=>(gt P.conj k).length-(intOf i).toNat)
       case atStart=>exact⟨0,rfl,by omega,W,λi hi=>by omega⟩
       case round=>
        clear hcc iB hi4 G fk hpi X q;obtain⟨j,rfl,hj,e,hz⟩:=hrel;have Y:=Lib.hid hz;clear hz;have Z:Ext w wr:=grown_trans m e.ext;obtain⟨aH,om,dM,L⟩:=(a.ext e.ext).ordAt;obtain⟨aI,qL,hcc,fk⟩:=(a.ext e.ext).conjAt;obtain⟨b8,o8,a8,qM,rfl,_,_,qN,oB⟩:=Rows3.at fk k (by omega);by_cases aa:j<(gt P.conj k).length
        ·obtain ⟨b9,o9,a9,oA,rfl,_,_,qO,ab⟩:=Rows2.at oB j aa
         have aJ:(j:Int)<(gt P.conj k).length:=by omega
         have aK:(0:Int)<=j:=by omega
         cases hy:expZB P.orders (gt (gt P.conj k) j) k with
         | false=>
          have HY:=Lib.hid hy;go_wp2;go_quiet ((go_at_call 283;exact quiet_rd (l07Exponents_ok _ _ _ P.orders (gt (gt P.conj k) j) k Any Any (L.ext (grown_drewN _ _ _)) (ab.ext (grown_drewN _ _ _)) A.out)))
          go_wp2;go_ret;exact ret_bool (grown_trans Z (grown_drewN _ _ _)) (au.out j (by omega) HY.out).symm
         | true=>
          have HY:=Lib.hid hy;go_wp2;go_quiet ((go_at_call 283;exact quiet_rd (l07Exponents_ok _ _ _ P.orders (gt (gt P.conj k) j) k Any Any (L.ext (grown_drewN _ _ _)) (ab.ext (grown_drewN _ _ _)) A.out)))
          go_wp2;go_roundw
          case rel=>exact⟨j+1,by go_num,by omega,e.step _,λi hi=>by
           rcases Nat.lt_or_ge i j with h1|h1
           ·exact Y.out i h1
           ·have:i=j:=by omega
            rw[this];exact HY.out⟩
          case measure=>simp[intOf];omega
        ·have aL:j=(gt P.conj k).length:=by omega
         go_wp2;go_roundw
         case rel=>exact⟨k+1,by go_num,by omega,e,λi hi=>by
          rcases Nat.lt_or_ge i k with h1|h1
          ·exact F.out i h1
          ·have:i=k:=by omega
           rw[this];exact⟨tailB_vec.2 (expZB_vec.1 N.out),U.out,λi hi=>tailB_vec.2 (expZB_vec.1 (Y.out i (by omega)))⟩⟩
         case measure=>simp[intOf];omega
      ·have H:(((gt P.conj k).length:Int) != (P.orders.length:Int)-1-k)=true:=by simp;omega
       have U:=Lib.hid r;clear r;go_wp2;go_quiet ((go_at_call 283;exact quiet_rd (l07Exponents_ok _ _ _ P.orders (gt P.powers k) k Any Any (q.ext (grown_drewN _ _ _)) (G.ext (grown_drewN _ _ _)) A.out)))
       go_wp2;go_ret;exact ret_bool (grown_trans R (grown_drewN _ _ _)) (ar.out U.out).symm
    ·have O:k=P.orders.length:=by omega
     subst O;go_wp2;go_ret;refine ret_bool R (validB_true ?_).symm
     exact ⟨an.out,h6,HP.out,HC.out,λi hi=>primeB_true.1 (HZ.out i hi),λi hi=>tailB_vec.1 (F.out i hi).1,
      λi hi=>⟨(F.out i hi).2.1,λj hj=>tailB_vec.1 ((F.out i hi).2.2 j hj)⟩⟩
def rFrom (P:Pr):Nat->Nat->List Int->List Int
 | 0,_,_=>zeros P.orders.length
 | f + 1,i,X=>
  let out:=rFrom P f (i+1) (X.set i 0)
  if gt X i=0 then out else
   rAt P (f+1) i (rAt P (f+1) i out ((zeros P.orders.length).set i (gt P.orders i-gt X i))) (rFrom P f (i+1) (gt P.powers i))
theorem rFrom_vec {P:Pr}(hP:Valid P) (f:Nat):∀i X,i+f=P.orders.length->Vec P.orders X->Vec P.orders (rFrom P f i X):=by
 induction f with
 | zero=>intro i X _ _;exact zeros_vec hP
 | succ f a=>
  intro i X hi b;have e:=hP.ord7 i (by omega);have hx:=b.2 i (by omega);have h1:=a (i+1) (X.set i 0) (by omega) (b.set i 0 ⟨by omega,λ_=>by omega⟩);simp only[rFrom];split
  ·exact h1
  ·exact rAt_vec hP _ _ _ _ hi (rAt_vec hP _ _ _ _ hi h1 ((zeros_vec hP).set i _ ⟨by omega,λ_=>by omega⟩)) (a (i+1) _ (by omega) (hP.pv i (by omega)).1)
def FromOk (P:Pr) (f:Nat):Prop:=
 ∀ (w:World) (pv x:Value) (i:Nat) (X:List Int) (a b:Nat->Prop),i+f=P.orders.length->PresV a w pv P->Ints b w x X->Vec P.orders X ->
  Calls Tryz.prog 347 #[pv,.int .i64 i,x] w (Ret w λw' v=>Own w.heap.size w' v (rFrom P f i X))
set_option maxHeartbeats 2000000 in
theorem l10From_zero (P:Pr) (hP:Valid P):FromOk P 0:=by
 intro w pv x i X m p hi j hx q;obtain⟨vo,vp,vc,rfl,h3⟩:=j;have k:=hP.n6;have a:=PresP.box h3 28;obtain⟨r,capo,dM,hoi⟩:=a.ordAt;have l:((P.orders.length:Int)<=(i:Int)):=by omega
 go_enter Tryz.func347,Tryz.ntmps347;go_wp2_with (at_make;refine wp_make_ints rfl _ _ rfl (w.heap.size+1) P.orders.length (w.heap.size+1) (by simp) _ rfl rfl rfl (by omega) (by simp) ?_;intro u b e _)
 go_ret;exact⟨_,rfl,grown_trans (World.grownBy_alloc _ _ _) e,b.weak (by omega)⟩
set_option maxHeartbeats 4000000 in
theorem l10From_succ (P:Pr) (hP:Valid P) (f:Nat) (ih:FromOk P f):FromOk P (f+1):=by
 intro w pv x i X Sp Sx hi hp hx hX;obtain⟨vo,vp,vc,rfl,h3⟩:=hp;have aV:=hP.n6;have q:=PresP.box h3 28;have C:Ext w (w.alloc (.cells #[vo,vp,vc] 28)):=World.grownBy_alloc _ _ _;have r:=hx.ext C;have aW:X.length<=P.orders.length/\P.orders.length<=X.length:=by rw[hX.1];omega
 have N:(w.alloc (.cells #[vo,vp,vc] 28)).heap.size=w.heap.size+1:=by simp
 have HS:=Lib.hid N;clear N hx;obtain⟨ax,capx,rfl,_,_⟩:=r.shape;go_enter Tryz.func347,Tryz.ntmps347;obtain⟨ao,capo,dM,k⟩:=q.ordAt;go_wp2_with fail
 clear dM k;generalize ak:w.alloc (.cells #[vo,vp,vc] 28)=w0 at *;clear ak;refine Calls.mono (l01Own_ok w0 _ X Sx r (by omega)) ?_;rintro e1 w1 ⟨R,rfl,hg1,hR⟩;obtain⟨gr,capr,rfl,hbr,oh⟩:=hR.form (by omega);have c1:=hR.cell i (by omega);have f1:=hR.frozen i;obtain⟨O,hg2⟩:=hR.store i 0;have u:Ext w0 (w1.setCell ⟨gr,i,none⟩ (.int .i64 0)):=grown_own hg1 hg2 (λj Q S=>by cases Q;omega);obtain⟨aX,iA,iH,_,_,hc0,y,z,fQ⟩:=(q.ext u).at;have D:=hP.ord7 i (by omega);have E:=hX.2 i (by omega);have aY:0<=gt X i:=E.1;have aZ:gt X i<gt P.orders i:=E.2;have a0:2<=gt P.orders i:=D.1;have a1:gt P.orders i<=7:=D.2;have U:=hX.set i 0 ⟨by omega,λ_=>by omega⟩;clear E D;go_wp2_with fail
 clear c1 f1 hc0 y z;generalize am:w1.setCell ⟨gr,i,none⟩ (.int .i64 0)=w2 at *;clear am;refine Calls.mono (ih w2 _ _ (i+1) (X.set i 0) Any Any (by omega) ⟨_,_,_,rfl,fQ⟩ (O.ints (by simp;omega)) U) ?_;rintro e3 e ⟨out,rfl,hg3,F⟩;have b:Ext w0 e:=grown_trans u hg3;obtain⟨bx,ox,rfl,_,_,hcx⟩:=Ints.at (r.ext b) i (by omega);by_cases M:gt X i=0
 ·have hb:(gt X i == 0)=true:=by simp[M]
  have HZ:=Lib.hid M;clear M;go_wp2;go_ret;exact⟨_,rfl,grown_trans C b,by simp only[rFrom,if_pos HZ.out];exact F.weak (by have:=u.size;have:=HS.out;omega)⟩
 ·have hb:(gt X i == 0)=false:=by simp[M]
  have HZ:=Lib.hid M;clear M;have aM:w0.heap.size<=e.heap.size:=b.size;go_wp2_with (at_make;refine wp_make_ints rfl _ _ rfl e.heap.size P.orders.length e.heap.size rfl _ rfl rfl rfl (by omega) (by simp) ?_;intro V A W aN)
  clear hcx hb;have l:Ext w0 V:=grown_trans b W;obtain⟨a3,j8,dM,k⟩:=q.ordAt;obtain⟨bo,oo,rfl,_,_,gh⟩:=Ints.at k i (by omega);obtain⟨Y,mo,hxe,_,_,hcx⟩:=Ints.at r i (by omega);obtain⟨rfl,rfl⟩:Y=bx/\mo=ox:=by cases hxe;exact⟨rfl,rfl⟩
  clear hxe;have c4:=A.cell i (by simp;omega);have f4:=A.frozen i;obtain⟨Z,G⟩:=A.store i (gt P.orders i-gt X i);have a4:(i:Int)<P.orders.length:=by omega
  have a5:(i:Int)<X.length:=by omega
  have a6:(0:Int)<=i:=by omega
  have s1:IntKind.i64.wrap (gt P.orders i-gt X i)=gt P.orders i-gt X i:=IntWalk.i64_in _ (by omega)
  have a:Ext w0 (V.setCell ⟨e.heap.size,i,none⟩ (.int .i64 (gt P.orders i-gt X i))).drew:=
   grown_trans (grown_own l G (λj Q S=>by cases Q;omega)) (grown_drew _ _)
  have aa:Ext e (V.setCell ⟨e.heap.size,i,none⟩ (.int .i64 (gt P.orders i-gt X i))).drew:=
   grown_trans (grown_own W G (λj Q S=>by cases Q;omega)) (grown_drew _ _)
  have ab:Own e.heap.size (V.setCell ⟨e.heap.size,i,none⟩ (.int .i64 (gt P.orders i-gt X i))).drew (.slice (some ⟨e.heap.size,0,none⟩) P.orders.length P.orders.length) ((List.replicate P.orders.length 0).set i (gt P.orders i-gt X i)):=Z;have e1:∀w',Ext w0 w'->w'.cell? ⟨w.heap.size,0,none⟩=some (.slice (some ⟨bo,oo,none⟩) P.orders.length j8):=λw' h=>h.cell dM (by simp);have e2:∀w',Ext w0 w'->w'.cell? ⟨bo,oo+i,none⟩=some (.int .i64 (gt P.orders i)):=λw' h=>h.cell gh (by simp);have e3:∀w',Ext w0 w'->w'.cell? ⟨Y,mo+i,none⟩=some (.int .i64 (gt X i)):=λw' h=>h.cell hcx (by simp);clear dM gh hcx;go_region_held3 (λw'=>Ext w0 w') (first|exact grown_trans l (grown_drew _ _)|exact a) (fail)
  clear e1 e2 e3 s1 c4 f4;clear G Z;generalize aq:(V.setCell ⟨e.heap.size,i,none⟩ (.int .i64 (gt P.orders i-gt X i))).drew=m at *;clear aq;obtain⟨ar,eo,dQ,_,_,hc0,y,z,ew⟩:=(q.ext a).at;obtain⟨ap,capp,rfl,_,_⟩:=Sl.shape ew.p;obtain⟨bp,op,au,H,rfl,_,_,ig,av⟩:=Rows2.at ew.p i (by rw[hP.pl];omega);have a8:(i:Int)<P.powers.length:=by rw[hP.pl];omega
  have B:=rFrom_vec hP f (i+1) _ (by omega) U;have I:Vec P.orders ((zeros P.orders.length).set i (gt P.orders i-gt X i)):=(zeros_vec hP).set i _ ⟨by omega,λ_=>by have:=HZ.out;omega⟩;have J:=rAt_vec hP (f+1) i _ _ hi B I;have K:=(hP.pv i (by omega)).1;have L:=rFrom_vec hP f (i+1) _ (by omega) K;have ac:=B.1;have ad:=J.1;have ae:=L.1;have k:=(F.ext0 aa).ints (by omega);have aw:Ints Any m (.slice (some ⟨e.heap.size,0,none⟩) P.orders.length P.orders.length) ((zeros P.orders.length).set i (gt P.orders i-gt X i)):=Own.ints ab (by rw[List.length_set];simp[zeros];omega);have ay:=Lib.hid B;have az:=Lib.hid I;have aA:=Lib.hid J;have aB:=Lib.hid K;have aC:=Lib.hid L;have a9:=Lib.hid ac;have aD:=Lib.hid ad;have aE:=Lib.hid ae;clear B I J K L ac ad ae u b l F ab A O;have aS:w.heap.size<=m.heap.size:=by have:=a.size;have:=HS.out;omega
  have e1:∀w',Ext m w'->w'.cell? ⟨w.heap.size,0,none⟩=some ar:=λw' h=>h.cell hc0 (by simp);have e2:∀w',Ext m w'->w'.cell? ⟨w.heap.size,1,none⟩=some (.slice (some ⟨bp,op,none⟩) P.powers.length capp):=λw' h=>h.cell (by simpa using y) (by simp);have e3:∀w',Ext m w'->w'.cell? ⟨w.heap.size,2,none⟩=some dQ:=λw' h=>h.cell (by simpa using z) (by simp);have e4:∀w',Ext m w'->w'.cell? ⟨bp,op+i,none⟩=some (.slice au (gt P.powers i).length H):=λw' h=>h.cell ig (by simp);have s3:IntKind.i64.wrap ((i:Int)+1)=(i:Int)+1:=IntWalk.i64_in _ (by omega);clear hc0 y z ig;go_wp2
  go_region_held3 (λw'=>Ext m w') (first|exact grown_drew _ _|assumption)
   (first
    | (go_at_call_of 346 (out);refine Calls.mono (Calls.rel (w0:=m) (by assumption) (l08At_ok P hP (f+1) _ _ _ _ i _ _ Any Any Any hi ⟨_,_,_,rfl,Pres3.ext ew (by assumption)⟩ (Ints.ext k (by assumption)) (Ints.ext aw (by assumption)) ay.out az.out)) ?_;rintro eA wA ⟨vA,rfl,eu,hsA,aF⟩)
    | (go_at_call 347;refine Calls.mono (Calls.rel2 (w0:=m) (by assumption) (ih _ _ _ (i+1) _ Any Any (by omega) ⟨_,_,_,rfl,Pres3.ext ew (by assumption)⟩ (Ints.ext av (by assumption)) aB.out)) ?_;rintro eF wF ⟨vF,rfl,gQ,af,gF,fP⟩;have ag:=(aF.ext0 af).ints (by rw[aD.out];omega);have ah:=fP.ints (by rw[aE.out];omega))
    | (go_at_call 346;refine Calls.mono (Calls.rel (w0:=m) (by assumption) (l08At_ok P hP (f+1) _ _ _ _ i _ _ Any Any Any hi ⟨_,_,_,rfl,Pres3.ext ew (by assumption)⟩ ag ah aA.out aC.out)) ?_;rintro eB wB ⟨vB,rfl,aG,hsB,gi⟩))
  go_wp2;go_ret;refine⟨_,rfl,grown_trans C (grown_trans a aG),?_⟩;simp only[rFrom,if_neg HZ.out];exact gi.weak (by omega)
theorem l10From_ok (P:Pr) (hP:Valid P) (f:Nat):FromOk P f:=by
 induction f with
 | zero=>exact l10From_zero P hP
 | succ f a=>exact l10From_succ P hP f a
def rInv (P:Pr) (X:List Int):List Int:=rFrom P P.orders.length 0 X
theorem rInv_vec {P:Pr}(hP:Valid P) (X:List Int) (a:Vec P.orders X):Vec P.orders (rInv P X):=rFrom_vec hP _ 0 X (by omega) a
theorem rMul_vec {P:Pr}(hP:Valid P) (A B:List Int) (a:Vec P.orders A) (hB:Vec P.orders B):Vec P.orders (rMul P A B):=rAt_vec hP _ 0 A B (by omega) a hB
set_option maxHeartbeats 1000000 in
theorem l10Inv_ok (P:Pr) (hP:Valid P) (w:World) (pv x:Value) (X:List Int) (e b:Nat->Prop) (i:PresV e w pv P) (hx:Ints b w x X) (j:Vec P.orders X) :
  Calls Tryz.prog 296 #[pv,x] w (Ret w λw' v=>Own w.heap.size w' v (rInv P X)):=by
 obtain⟨vo,vp,vc,rfl,k⟩:=i;go_enter Tryz.func296,Tryz.ntmps296;obtain⟨l,iA,iH,_,_,hc0,hc1,hc2,fQ⟩:=(PresP.box k 28).at;go_wp2_with fail
 refine Calls.mono (l10From_ok P hP P.orders.length _ _ _ 0 X Any b (by omega) ⟨_,_,_,rfl,fQ⟩ (hx.ext (World.grownBy_alloc _ _ _)) j) ?_;rintro m p ⟨v1,rfl,a,gN⟩;go_wp2;go_ret;exact⟨_,rfl,grown_trans (World.grownBy_alloc _ _ _) a,gN.weak (by simp)⟩
def rConj (P:Pr) (A B:List Int):List Int:=rMul P (rInv P B) (rMul P A B)
set_option maxHeartbeats 2000000 in
theorem l10Conj_ok (P:Pr) (hP:Valid P) (w:World) (pv a b:Value) (A B:List Int) (L I J:Nat->Prop) (M:PresV L w pv P) (ha:Ints I w a A) (K:Ints J w b B) (y:Vec P.orders A) (hB:Vec P.orders B) :
  Calls Tryz.prog 218 #[pv,a,b] w (Ret w λw' v=>Own w.heap.size w' v (rConj P A B)):=by
 obtain⟨vo,vp,vc,rfl,h3⟩:=M;have N:=hP.n6;have i:=(rInv_vec hP B hB).1;have j:=(rMul_vec hP A B y hB).1;have z:=Lib.hid i;have C:=Lib.hid j;clear i j;have e:Ext w (w.alloc (.cells #[vo,vp,vc] 28)):=World.grownBy_alloc _ _ _;have D:=PresP.box h3 28;have E:=ha.ext e;have k:=K.ext e;have l:(w.alloc (.cells #[vo,vp,vc] 28)).heap.size=w.heap.size+1:=by simp
 have O:=Lib.hid l;clear l ha K;go_enter Tryz.func218,Tryz.ntmps218;go_wp2;generalize F:w.alloc (.cells #[vo,vp,vc] 28)=w0 at *;clear F;obtain⟨G,eo,dQ,_,_,hc0,m,p,ew⟩:=D.at;have Q:∀w',Ext w0 w'->w'.cell? ⟨w.heap.size,0,none⟩=some G:=λw' h=>h.cell hc0 (by simp);have R:∀w',Ext w0 w'->w'.cell? ⟨w.heap.size,1,none⟩=some eo:=λw' h=>h.cell (by simpa using m) (by simp);have S:∀w',Ext w0 w'->w'.cell? ⟨w.heap.size,2,none⟩=some dQ:=λw' h=>h.cell (by simpa using p) (by simp);clear hc0 m p
 go_region_held3 (λw'=>Ext w0 w') (first|exact grown_drew _ _|assumption)
  (first
   | (go_at_call 296;refine Calls.mono (Calls.rel (w0:=w0) (by assumption) (l10Inv_ok P hP _ _ _ _ Any Any ⟨_,_,_,rfl,Pres3.ext ew (by assumption)⟩ (Ints.sub (Ints.ext k (by assumption)) (λ_ _ _=>trivial)) hB)) ?_;rintro U V ⟨W,rfl,eu,hsA,H⟩)
   | (go_at_call_of 295 (a);refine Calls.mono (Calls.rel2 (w0:=w0) (by assumption) (l08Mul_ok P hP _ _ _ _ _ _ Any I J ⟨_,_,_,rfl,Pres3.ext ew (by assumption)⟩ (Ints.ext E (by assumption)) (Ints.ext k (by assumption)) y hB)) ?_;rintro X Y ⟨Z,rfl,gQ,q,gF,fP⟩;have r:=(H.ext0 q).ints (by rw[z.out];omega);have u:=fP.ints (by rw[C.out];omega))
   | (go_at_call 295;refine Calls.mono (Calls.rel (w0:=w0) (by assumption) (l08Mul_ok P hP _ _ _ _ _ _ Any Any Any ⟨_,_,_,rfl,Pres3.ext ew (by assumption)⟩ r u (rInv_vec hP B hB) (rMul_vec hP A B y hB))) ?_;rintro eB wB ⟨vB,rfl,hgB,hsB,gi⟩))
 clear Q R S;go_wp2;go_ret;exact⟨_,rfl,grown_trans e hgB,gi.weak (by have:=O.out;omega)⟩
def TgenOk (P:Pr) (a:Nat):Prop:=
 ∀ (base:Nat) (w:World) (p e:Value) (E:List Int) (j:Nat),PresP (Off e.ownBlock) w p P->Own base w e E->Vec P.orders E->j<P.orders.length->P.orders.length<=a+j ->
  Calls Tryz.prog 311 #[p,e,.int .i64 j] w (Mut w e.ownBlock λw' v=>v=.tuple #[]/\Own base w' e (tgen P a E j))
set_option maxHeartbeats 1000000 in
theorem timesVector_of (P:Pr) (hP:Valid P) (l:Nat) (M:TgenOk P l) (base:Nat) (w:World) (p e f:Value) (E F:List Int) (N:PresP (Off e.ownBlock) w p P) (hE:Own base w e E)
  (O:Vec P.orders E) (Q:Ints (Off e.ownBlock) w f F) (hF:Vec P.orders F) (J:∀j,j<P.orders.length->gt F j≠0->P.orders.length<=l+j) :
  Calls Tryz.prog 243 #[p,e,f] w (Mut w e.ownBlock λw' v=>v=.tuple #[]/\Own base w' e (tvec (tgen P l) E F)):=by
 have R:F.length<=P.orders.length:=by rw[hF.1];omega
 obtain⟨a,cap,rfl,hl,mq⟩:=Q;go_enter Tryz.func243,Tryz.ntmps243;go_wp2;go_loopw [10] (λi wr=>∃k:Nat,i=.int .i64 k/\k<=F.length/\w.grownBy wr e.ownBlock/\Own base wr e (tvecTo (tgen P l) F E k)) (λi _=>F.length-(intOf i).toNat)
 case atStart=>exact⟨0,rfl,by omega,grown_refl _ _,hE⟩
 case round=>
  obtain⟨k,rfl,hk,q,hO⟩:=hrel;by_cases A:k<F.length
  ·obtain ⟨b,off,u,rfl,hS,hb,hc,B⟩:=mq k A
   have C:wr.cell? ⟨b,off+k,none⟩=some u:=q.cell hc (λh=>hS h.symm);have B:u=.int .i64 (gt F k):=B;subst B;have hx:=hF.2 k (by omega);have S:0<=gt F k:=hx.1;have D:=hP.ord7 k (by omega);have U:gt F k<=7:=by omega
   have G:Vec P.orders (tvecTo (tgen P l) F E k):=tvecTo_vec (λe j V K W=>tgen_vec hP l e j V K (J j K W)) O k (by omega);clear hx D mq hc;go_wp2;go_loopw [16] (λi wr=>∃m:Nat,i=.int .i64 m/\m<=(gt F k).toNat/\w.grownBy wr e.ownBlock/\Own base wr e (iter m (λe=>tgen P l e k) (tvecTo (tgen P l) F E k))) (λi _=>(gt F k).toNat-(intOf i).toNat)
   case atStart=>exact⟨0,rfl,by omega,q,hO⟩
   case round=>
    clear q hO C;obtain⟨m,rfl,hm,q,hO⟩:=hrel;by_cases L:(m:Int)<gt F k
    ·have r:P.orders.length<=l+k:=J k (by omega) (by omega)
     have H:Vec P.orders (iter m (λe=>tgen P l e k) (tvecTo (tgen P l) F E k)):=iter_inv (Vec P.orders) _ (λx hx=>tgen_vec hP l x k hx (by omega) r) _ _ G;go_wp2_with (go_at_call 311;go_must (refine(M base _ p e _ k (N.mono (frame_of q λk h _=>⟨h,h⟩)) hO H (by omega) r).mono ?_);rintro X Y ⟨v1,rfl,hg1,rfl,gN⟩)
     go_roundw
     case rel=>exact⟨m+1,by go_num,by omega,grown_trans q hg1,gN⟩
     case measure=>simp[intOf];omega
    ·have y:m=(gt F k).toNat:=by omega
     have I:Hid (Own base wr e (tvecTo (tgen P l) F E (k+1))):=by rw[y] at hO;exact hO
     clear hO y;go_wp2;go_roundw
     case rel=>exact⟨k+1,by go_num,by omega,q,I.out⟩
     case measure=>simp[intOf];omega
  ·have z:k=F.length:=by omega
   have I:Hid (Own base wr e (tvec (tgen P l) E F)):=by rw[z] at hO;exact hO
   clear hO z;go_wp2;go_end0
   exact⟨_,rfl,q,rfl,I.out⟩
set_option maxHeartbeats 1000000 in
theorem timesGenerator_of (P:Pr) (hP:Valid P) (a:Nat) (ih:TgenOk P a):TgenOk P (a+1):=by
 intro base w p e E j hp hE hv N hf;have a8:E.length<=P.orders.length/\P.orders.length<=E.length:=by rw[hv.1];omega
 have a9:=hP.n6;obtain⟨g,cap,rfl,hgb,hgs⟩:=hE.form (by omega);obtain⟨pb,po,rfl⟩:=hp.shape;have hs:=λw=>run_tail w (some ⟨g,0,none⟩) E.length cap ((j:Int)+1) (by omega) (by omega);go_enter Tryz.func311,Tryz.ntmps311
 have an:Ints Any w (subSl (.slice (some ⟨g,0,none⟩) E.length cap) (j+1) E.length) (E.drop (j+1)):=by
  have:=subSl_ints (ints_of_own hE (by omega) (S:=Any) (λ_ _=>trivial)) (j+1) E.length (by omega) (by omega);rwa [List.take_length] at this
 have ba:=hv.2 j N;have bb:=hP.ord7 j N;go_wp2_with fail
 refine(clone_ok w _ (E.drop (j+1)) Any an (by simp;omega)).mono ?_;rintro e1 w1 ⟨r,rfl,W,hR⟩;clear an hs;have aR:(E.drop (j+1)).length+j+1=E.length:=by simp;omega
 have aq:∀k,k<(E.drop (j+1)).length->0<=gt (E.drop (j+1)) k/\gt (E.drop (j+1)) k<=7:=by
  intro k hk;have h1:=hv.2 (j+1+k) (by omega);have h2:=hP.ord7 (j+1+k) (by omega);have h3:gt (E.drop (j+1)) k=gt E (j+1+k):=by simp only[gt,List.getD_eq_getElem?_getD,List.getElem?_drop]
  rw[h3];omega
 have X:Ints (From w.heap.size) w1 r (E.drop (j+1)):=ints_of_own hR (by omega) (λk hk=>(hR.lt k hk).1);generalize au:E.drop (j+1)=R at *;obtain⟨ar,y,rfl,_,_⟩:=X.shape;have a5:R.length+j+1<=E.length/\E.length<=R.length+j+1:=by omega
 have HR:=Lib.hid au;clear au aR;have aS:=Lib.hid aq;clear aq;go_wp2;go_loopw [17] (λi wr=>∃k:Nat,i=.int .i64 k/\k<=R.length/\w1.grownBy wr (some g)/\Own base wr (.slice (some ⟨g,0,none⟩) E.length cap) (zeroed E j k)) (λi _=>R.length-(intOf i).toNat)
 case atStart=>exact⟨0,rfl,by omega,grown_refl _ _,by rw[zeroed_zero];exact hE.ext W (.inr (by simp[Value.ownBlock]))⟩
 case round=>
  obtain⟨k,rfl,hk,z,hO⟩:=hrel;by_cases C:k<R.length
  ·have D:=length_zeroed E j k (by omega)
   have hc:=hO.cell (j+1+k) (by omega);have av:=hO.frozen (j+1+k);have HL:=Lib.hid D;clear D;go_wp2;go_roundw
   case rel=>
    obtain⟨h1,h2⟩:=hO.store (j+1+k) 0;exact⟨k+1,by go_num,by omega,grown_trans z h2,by rw[zeroed_succ _ _ _ (by omega)];exact h1⟩
   case measure=>simp[intOf];omega
  ·have Y:k=R.length:=by omega
   subst Y;have D:=length_zeroed E j R.length (by omega);have aw:gt (zeroed E j R.length) j=gt E j:=by rw[gt_zeroed _ _ _ _ (by omega),if_neg (by omega)]
   have hc:=hO.cell j (by omega);rw[aw] at hc;have av:=hO.frozen j;have HL:=Lib.hid D;clear D;have ax:=hO.store j (gt E j+1);clear aw;go_wp2;generalize hW:wr.setCell ⟨g,j,none⟩ (.int .i64 (gt E j+1))=B at ax ⊢;obtain⟨u,Z⟩:=ax;clear hW hc av;have F:w.grownBy B (some g):=grown_trans (grown_trans (grown_of_ext _ W) z) Z;obtain⟨ao,capo,hc0,iD⟩:=(hp.mono (frame_of F λk h _=>⟨h,h⟩)).ordAt;obtain⟨bo,oo,rfl,_,_,dM⟩:=Ints.at iD j N;have O:((zeroed E j R.length).set j (gt E j+1)).length=E.length:=by rw[List.length_set];exact HL.out
   have I:=u.cell j (by omega);rw[gt_set_eq _ _ _ (by have:=HL.out;omega)] at I;have aa:=u.frozen j;have J:Ints (Off (some g)) B (.slice ar R.length y) R:=(X.sub (S':=Off (some g)) (λk hk _=>by unfold Off;intro he;cases he;have:w.heap.size<=g:=hk;omega)).mono (frame_of (grown_trans z Z) λk h _=>⟨h,h⟩);have az:Vec P.orders (zeroed E j R.length):=hv.zeroed j R.length (by omega);have aA:=Lib.hid az;clear az;have bg:=Lib.hid O;clear O;clear z Z hO hR X W hk C iD;have ab:=hP.cv j N;have aV:R.length<=(gt P.conj j).length:=by rw[ab.1];omega
   have aW:j<P.conj.length:=by rw[hP.cl];exact N
   have aB:∀k,k<R.length->Vec P.orders (gt (gt P.conj j) k)/\(∀i,i<P.orders.length->gt (gt (gt P.conj j) k) i≠0->P.orders.length<=a+i):=by
    intro k hk;obtain⟨h1,h2⟩:=ab.2 k (by omega);refine⟨h1,λi hi h0 => ?_⟩;have:¬i<=j:=λh=>h0 (h2 i h);omega
   have aC:=Lib.hid aB;clear aB ab
   have Q:∀q,q=(if gt E j+1=gt P.orders j then tvec (tgen P a) (((zeroed E j R.length).set j (gt E j+1)).set j 0) (gt P.powers j) else (zeroed E j R.length).set j (gt E j+1)) ->
     tgen P (a+1) E j=tconjTo (tgen P a) (gt P.conj j) R q R.length:=by
    intro q h2;have hr:R=E.drop (j+1):=HR.out.symm;rw[h2,hr];rfl
   have HF:=Lib.hid Q;clear Q;by_cases b:gt E j+1=gt P.orders j
   case' pos=>
    have hb:(gt E j+1 == gt P.orders j)=true:=by simp[b]
    obtain⟨q,l⟩:∃q,q=tvec (tgen P a) (((zeroed E j R.length).set j (gt E j+1)).set j 0) (gt P.powers j):=⟨_,rfl⟩;have aD:=Lib.hid (HF.out q (by rw[if_pos b];exact l));clear HF;have aE:Vec P.orders (((zeroed E j R.length).set j (gt E j+1)).set j 0):=by rw[List.set_set];exact aA.out.set j 0 ⟨by omega,λ_=>by omega⟩
    have K:=hP.pv j N
    have ae:∀i,i<P.orders.length->gt (gt P.powers j) i≠0->P.orders.length<=a+i:=by
     intro i hi h0;have:¬i<=j:=λh=>h0 (K.2 i h);omega
    have aF:Vec P.orders q:=by
     rw[l];exact tvec_vec K.1 (λe i he hi h0=>tgen_vec hP a e i he hi (ae i hi h0)) aE
    have aX:=Lib.hid l;clear l;have HC:=Lib.hid b;clear b;have aY:=Lib.hid ae;clear ae;have aZ:=Lib.hid K.1;clear K;go_quiet (fail)
    rename_i nq _;have aG:Own base (B.drewN nq) (.slice (some ⟨g,0,none⟩) E.length cap) ((zeroed E j R.length).set j (gt E j+1)):=u;have U:w.grownBy (B.drewN nq) (some g):=grown_trans F (grown_drewN _ _ _);have aH:Ints (Off (some g)) (B.drewN nq) (.slice ar R.length y) R:=J.mono (frame_of (grown_drewN _ _ (some g)) λk h _=>⟨h,h⟩);have aI:(B.drewN nq).cell? ⟨g,j,none⟩=some (.int .i64 (gt E j+1)):=I;have aJ:(B.drewN nq).frozen? ⟨g,j,none⟩=false:=aa;clear dM I aa hc0 u J F;generalize B.drewN nq=W3 at *;obtain⟨aK,af⟩:=aG.store j 0;have G:w.grownBy (W3.setCell ⟨g,j,none⟩ (.int .i64 0)) (some g):=grown_trans U af;have ag:PresP (Off (some g)) (W3.setCell ⟨g,j,none⟩ (.int .i64 0)) (.pointer (some ⟨pb,po,none⟩)) P:=hp.mono (frame_of G λk h _=>⟨h,h⟩);obtain⟨ap,capp,hpc,hpr⟩:=ag.powAt;obtain⟨bp,op,qP,qQ,rfl,_,_,oC,mz⟩:=Rows2.at hpr j (by rw[hP.pl];exact N);have bj:j<P.powers.length:=by rw[hP.pl];exact N
    go_wp2_with fail
    refine Calls.mono (timesVector_of P hP a ih base _ _ _ _ _ (gt P.powers j) ?_ ?_ aE ?_ aZ.out aY.out) ?_
    ·exact ag
    ·exact aK
    ·exact mz
    rintro e5 W5 ⟨v5,rfl,ah,rfl,ai⟩;rw[<-aX.out] at ai;have H:w.grownBy W5 (some g):=grown_trans G ah;have aL:Ints (Off (some g)) W5 (.slice ar R.length y) R:=aH.mono (frame_of (grown_trans af ah) λk h _=>⟨h,h⟩);clear aI aJ aG aH U ag hpc hpr oC mz aK af G ah;go_wp2
   case' neg=>
    have hb:(gt E j+1 == gt P.orders j)=false:=by simp[b]
    obtain⟨q,l⟩:∃q,q=(zeroed E j R.length).set j (gt E j+1):=⟨_,rfl⟩;have aD:=Lib.hid (HF.out q (by rw[if_neg b];exact l));clear HF;have aF:Vec P.orders q:=by rw[l];exact aA.out.set j _ ⟨by omega,λ_=>by omega⟩
    rw[<-l] at u;have HC:=Lib.hid b;clear b l;go_quiet (fail)
    rename_i nq _;have H:w.grownBy (B.drewN nq) (some g):=grown_trans F (grown_drewN _ _ _);have ai:Own base (B.drewN nq) (.slice (some ⟨g,0,none⟩) E.length cap) q:=u;have aL:Ints (Off (some g)) (B.drewN nq) (.slice ar R.length y) R:=J.mono (frame_of (grown_drewN _ _ (some g)) λk h _=>⟨h,h⟩);go_wp2;clear dM I aa hc0 u J F;generalize B.drewN nq=W5 at *
   all_goals
    go_loopw [60] (λi wr=>∃k:Nat,i=.int .i64 k/\k<=R.length/\W5.grownBy wr (some g)/\Own base wr (.slice (some ⟨g,0,none⟩) E.length cap) (tconjTo (tgen P a) (gt P.conj j) R q k)/\Vec P.orders (tconjTo (tgen P a) (gt P.conj j) R q k)) (λi _=>R.length-(intOf i).toNat)
    case atStart=>exact⟨0,rfl,by omega,grown_refl _ _,ai,aF⟩
    case round=>
     obtain⟨k,rfl,hk,z,hO,A⟩:=hrel;by_cases C:k<R.length
     ·have L:=Lib.hid (aC.out k C);clear aC
      have aj:=aS.out k C;have bk:0<=gt R k:=aj.1;have bl:gt R k<=7:=aj.2;obtain⟨br,or,rfl,hbr,_,iC⟩:=Ints.at aL k C;have M:wr.cell? ⟨br,or+k,none⟩=some (.int .i64 (gt R k)):=z.cell iC (λh=>hbr h.symm);clear iC aj;go_wp2;go_loopw [66] (λi wr=>∃m:Nat,i=.int .i64 m/\m<=(gt R k).toNat/\W5.grownBy wr (some g)/\Own base wr (.slice (some ⟨g,0,none⟩) E.length cap) (iter m (λe=>tvec (tgen P a) e (gt (gt P.conj j) k)) (tconjTo (tgen P a) (gt P.conj j) R q k))/\Vec P.orders (iter m (λe=>tvec (tgen P a) e (gt (gt P.conj j) k)) (tconjTo (tgen P a) (gt P.conj j) R q k))) (λi _=>(gt R k).toNat-(intOf i).toNat)
      case atStart=>exact⟨0,rfl,by omega,z,hO,A⟩
      case round=>
       clear z hO M A;obtain⟨m,rfl,hm,z,hO,A⟩:=hrel;by_cases a7:(m:Int)<gt R k
       ·have ak:PresP (Off (some g)) wr (.pointer (some ⟨pb,po,none⟩)) P:=hp.mono (frame_of (grown_trans H z) λk h _=>⟨h,h⟩)
        obtain⟨ac,capc,hcc,M⟩:=ak.conjAt;obtain⟨bc,oc,iQ,oD,rfl,_,_,kS,mA⟩:=Rows3.at M j aW;obtain⟨bd,od,oF,oG,rfl,_,_,oH,V⟩:=Rows2.at mA k (by omega);clear M mA;go_wp2_with fail
        refine Calls.mono (timesVector_of P hP a ih base wr _ _ _ _ (gt (gt P.conj j) k) ak hO A V L.out.1 L.out.2) ?_;rintro e6 W6 ⟨v6,rfl,iW,rfl,hO6⟩;have a0:W5.grownBy W6 (some g):=grown_trans z iW;have a1:=tvec_vec L.out.1 (λe i he hi h0=>tgen_vec hP a e i he hi (L.out.2 i hi h0)) A;clear kS oH hcc V ak hO iW z;go_wp2;go_roundw
        case rel=>exact⟨m+1,by go_num,by omega,a0,hO6,a1⟩
        case measure=>simp[intOf];omega
       ·have a2:m=(gt R k).toNat:=by omega
        subst a2;go_wp2;go_roundw
        case rel=>exact⟨k+1,by go_num,by omega,z,hO,A⟩
        case measure=>simp[intOf];omega
     ·have Y:k=R.length:=by omega
      subst Y;go_wp2;go_end0
      exact⟨_,rfl,grown_trans H z,rfl,by rw[aD.out];exact hO⟩
structure RdOk {α:Type}(El:(Nat->Prop)->World->Value->α->Prop):Prop where
 mono:∀ {F F':Nat->Prop}{w w':World}{u:Value}{x:α},El F w u x->(∀k,F k->k<w.heap.size->F' k/\k<w'.heap.size/\w'.heap[k]? = w.heap[k]?)->El F' w' u x
 one:∀ {F:Nat->Prop}{w:World}{u:Value}{x:α},El F w u x->u.oneCell'=true
def SlD {α:Type} [Inhabited α] (El:(Nat->Prop)->World->Value->α->Prop) (F:Nat->Prop) (w:World) (v:Value) (xs:List α):Prop:=
 ∃ (G:Nat->Nat->Prop) (H:Nat->Prop),(∀k,H k->F k)/\(∀i k,i<xs.length->G i k->F k/\¬H k)/\(∀i j k,i<xs.length->j<xs.length->G i k->G j k->i=j) /\
  ∃ a cap,v=.slice a xs.length cap/\(xs.length<=cap/\xs.length<=9223372036854775807/\(a=none->cap=0)) /\
   ∀i,i<xs.length->∃b off u,a=some ⟨b,off,none⟩/\H b/\b<w.heap.size/\w.cell? ⟨b,off+i,none⟩=some u/\El (G i) w u (gt xs i)
def SlO {α:Type} [Inhabited α] (El:(Nat->Prop)->World->Value->α->Prop) (E B:Nat) (w:World) (v:Value) (xs:List α):Prop:=
 ∃ (a:List Value) (G:Nat->Nat->Prop),a.length=xs.length/\OwnV B E w v a/\(∀i k,i<xs.length->G i k->B<=k/\v.ownBlock≠some k/\k<w.heap.size) /\
  (∀i j k,i<xs.length->j<xs.length->G i k->G j k->i=j)/\∀i,i<xs.length->El (G i) w (gt a i) (gt xs i)
theorem SlO.nil {α:Type} [Inhabited α] (El:(Nat->Prop)->World->Value->α->Prop) (E B:Nat) (w:World):SlO El E B w (.slice none 0 0) ([]:List α):=
 ⟨[],λ_ _=>False,rfl,World.ownsRow_nil _ _ _ _,by simp,by simp,by simp⟩
theorem OwnV.form {B E:Nat}{w:World}{v:Value}{xs:List Value}(h:OwnV B E w v xs) :
  (v=.slice none 0 0/\xs=[])\/∃g cap,v=.slice (some ⟨g,0,none⟩) xs.length cap/\xs.length<=cap/\B<=g/\g<w.heap.size:=by
 have a:=h.lt;obtain⟨_,h|⟨g,cap,cur,b,hg,hb,hnc,_⟩⟩:=h
 ·exact .inl ⟨h.1,List.eq_nil_of_length_eq_zero h.2⟩
 ·exact .inr ⟨g,cap,b,hnc,hg,(a g (by rw[b];rfl)).2⟩
theorem OwnV.cell {B E g cap n:Nat}{w:World}{xs:List Value}(h:OwnV B E w (.slice (some ⟨g,0,none⟩) n cap) xs) (j:Nat) (a:j<xs.length):w.cell? ⟨g,j,none⟩=some (gt xs j):=by
 have hn:n=xs.length:=by
  obtain⟨_,⟨h,_⟩|⟨_,_,_,h,_⟩⟩:=h<;>cases h;rfl
 subst hn;have:=World.ownsRow.cellAt h j (by omega);rw[this];simp[gt,a]
theorem SlO.toD {α:Type} [Inhabited α] {El:(Nat->Prop)->World->Value->α->Prop}{E B:Nat}{w:World}{v:Value}{xs:List α}(h:SlO El E B w v xs) (e:xs.length<=9223372036854775807):SlD El (From B) w v xs:=by
 obtain⟨j,G,a,hO,b,hd,hE⟩:=h;refine⟨G,λk=>B<=k/\v.ownBlock=some k,λk hk=>hk.1,λi k hi hk=>⟨(b i k hi hk).1,λh=>(b i k hi hk).2.1 h.2⟩,hd,?_⟩;rcases hO.form with⟨rfl,rfl⟩|⟨g,cap,rfl,hnc,hBg,hgs⟩
 ·have:xs.length=0:=by simpa using a.symm
  exact⟨none,0,by rw[this],⟨by omega,by omega,λ_=>rfl⟩,λi hi=>by omega⟩
 ·refine ⟨_,cap,by rw[a],⟨by omega,e,λh=>by cases h⟩,λi hi=>⟨g,0,gt j i,rfl,⟨hBg,rfl⟩,hgs,?_,hE i hi⟩⟩
  rw[Nat.zero_add];exact hO.cell i (by omega)
theorem SlD.shape {α:Type} [Inhabited α] {El:(Nat->Prop)->World->Value->α->Prop}{F:Nat->Prop}{w:World}{v:Value}{xs:List α}(h:SlD El F w v xs) :
  ∃a cap,v=.slice a xs.length cap/\xs.length<=cap/\xs.length<=9223372036854775807:=by
 obtain⟨_,_,_,_,_,a,cap,hv,hl,_⟩:=h;exact⟨a,cap,hv,hl.1,hl.2.1⟩
theorem rdInts:RdOk (λF w u (x:List Int)=>Ints F w u x):=
 ⟨λh b=>Ints.mono h b,λh=>by obtain⟨a,cap,rfl,_⟩:=h;rfl⟩
def OwnIn (F:Nat->Prop) (w:World) (v:Value) (l:List Int):Prop:=Own 0 w v l/\(∀k,v.ownBlock=some k->F k)/\l.length<=9223372036854775807
theorem ownsRow_move {base base' E:Nat}{w w':World}{v:Value}{n:Nat}{xs:List Value}(h:w.ownsRow base E 1 v n xs) (a:∀k,v.ownBlock=some k->w'.heap[k]? = w.heap[k]? /\ base'<=k):w'.ownsRow base' E 1 v n xs:=by
 obtain⟨h1,b⟩:=h;refine⟨h1,?_⟩;rcases b with h|⟨g,cap,cur,rfl,hg,hc,r⟩
 ·exact .inl h
 ·exact .inr ⟨g,cap,cur,rfl,(a g rfl).2,by rw[(a g rfl).1];exact hc,r⟩
theorem rdOwn:RdOk OwnIn:=by
 refine⟨λ{F F' w w' u x} h b => ?_,λ{F w u x} h => ?_⟩
 ·obtain ⟨h1,e,h3⟩:=h
  have a:=h1.lt;exact⟨ownsRow_move h1 (λk hk=>⟨(b k (e k hk) (a k hk).2).2.2,Nat.zero_le _⟩),λk hk=>(b k (e k hk) (a k hk).2).1,h3⟩
 ·obtain ⟨⟨_,h|⟨g,cap,cur,i,_⟩⟩,_⟩:=h
  ·rw[h.1];rfl
  ·rw[i];rfl
theorem OwnIn.ints {F:Nat->Prop}{w:World}{v:Value}{l:List Int}(h:OwnIn F w v l):Ints F w v l:=ints_of_own h.1 h.2.2 h.2.1
theorem OwnIn.of {base:Nat}{F:Nat->Prop}{w:World}{v:Value}{l:List Int}(h:Own base w v l) (a:l.length<=9223372036854775807) (hF:∀k,base<=k->k<w.heap.size->F k):OwnIn F w v l:=
 ⟨h.weak (Nat.zero_le _),λk hk=>hF k (h.lt k hk).1 (h.lt k hk).2,a⟩
theorem OwnIn.nil (F:Nat->Prop) (w:World):OwnIn F w (.slice none 0 0) []:=⟨World.ownsRow_nil _ _ _ _,by simp[Value.ownBlock],by simp⟩
abbrev RowsD (F:Nat->Prop) (w:World) (v:Value) (xs:List (List Int)):Prop:=SlD OwnIn F w v xs
abbrev RowsO (B:Nat) (w:World) (v:Value) (xs:List (List Int)):Prop:=SlO OwnIn 24 B w v xs
abbrev Rows3D (F:Nat->Prop) (w:World) (v:Value) (xs:List (List (List Int))):Prop:=SlD (λF w u (x:List (List Int))=>RowsD F w u x) F w v xs
theorem RowsD.rows {F:Nat->Prop}{w:World}{v:Value}{xs:List (List Int)}(h:RowsD F w v xs):Rows2 F w v xs:=by
 obtain⟨G,H,h1,e,h3,a,cap,hv,hl,hc⟩:=h;refine⟨a,cap,hv,hl,λi hi => ?_⟩;obtain⟨b,off,u,e1,e2,e3,e4,e5⟩:=hc i hi;exact⟨b,off,u,e1,h1 b e2,e3,e4,Ints.sub e5.ints (λk hk _=>(e i k hi hk).1)⟩
theorem Rows3D.rows {F:Nat->Prop}{w:World}{v:Value}{xs:List (List (List Int))}(h:Rows3D F w v xs):Rows3 F w v xs:=by
 obtain⟨G,H,h1,e,h3,a,cap,hv,hl,hc⟩:=h;refine⟨a,cap,hv,hl,λi hi => ?_⟩;obtain⟨b,off,u,e1,e2,e3,e4,j⟩:=hc i hi;exact⟨b,off,u,e1,h1 b e2,e3,e4,Rows2.sub (RowsD.rows j) (λk hk _=>(e i k hi hk).1)⟩
theorem SlO.weak {α:Type} [Inhabited α] {El:(Nat->Prop)->World->Value->α->Prop}{E B B':Nat}{w:World}{v:Value}{xs:List α}(h:SlO El E B w v xs) (hB:B'<=B):SlO El E B' w v xs:=by
 obtain⟨e,G,hvl,hO,hG,hd,hE⟩:=h;refine⟨e,G,hvl,?_,λi k hi hk => ?_,hd,hE⟩
 ·obtain ⟨h1,j⟩:=hO
  refine⟨h1,?_⟩;rcases j with h|⟨g,cap,cur,hv,hg,r⟩
  ·exact .inl h
  ·exact .inr ⟨g,cap,cur,hv,Nat.le_trans hB hg,r⟩
 ·obtain ⟨a,b,c⟩:=hG i k hi hk
  exact⟨Nat.le_trans hB a,b,c⟩
theorem wp_app_one {α:Type} [Inhabited α] {El:(Nat->Prop)->World->Value->α->Prop}(C:RdOk El) (T E:Nat) (z:Value) (bytes:Nat) (hT:Tryz.prog.underlying T=some (.slice E))
  (hE:(Tryz.prog.info? E).map (λi=>(i.zero,i.size,i.bytes))=some (some z,1,bytes)) (N:z.cells.size=1) (O:bytes<=64)
  {ops:Array Oper}{rest:List Oper}{o:Oper}{a:Act}{Q:Exit->Act->World->Prop}{w:World}(R:o.guard=none) (s x:Operand)
  (ho:o.op=Op.call { callee:=Callee.builtin Builtin.append,args := #[s,x],argTypes := #[T,T] }) (B:Nat) (q l:World) (v u:Value) (xs:List α) (y:α) (hs:a.eval s=v) (H:SlO El E B q v xs)
  (M:Ext q l) (Z:El (From q.heap.size) l u y) (hw:w=l.alloc (.cells #[u] E)) (hx:a.eval x=.slice (some ⟨l.heap.size,0,none⟩) 1 1) (aa:xs.length<=1000000) (S:B<=q.heap.size)
  (h:∀v' w',SlO El E B w' v' (xs++[y])->q.grownBy w' v.ownBlock->l.grownBy w' v.ownBlock->wpList Tryz.prog ops Q rest (a.put o.dst v') w') :
  wpList Tryz.prog ops Q (o :: rest) a w:=by
 subst hw;obtain⟨U,G,D,hO,hG,hd,V⟩:=H;have I:Ext l (l.alloc (.cells #[u] E)):=World.grownBy_alloc _ _ _;have W:OwnV B E (l.alloc (.cells #[u] E)) v U:=hO.kept (grown_trans M I) (by cases hv:v.ownBlock<;>simp);refine wp_app T E z bytes hT hE N O R s x ho B v U hs W (some ⟨l.heap.size,0,none⟩) 1 1 [u] hx rfl (by simp) ?_ ?_ (by omega) (by have:=M.size;simp;omega) ?_
 ·intro j hj
  have:j=0:=by omega
  subst this;exact⟨l.heap.size,0,rfl,by rw[World.cell?_alloc_at _ _ _ _ rfl];rfl⟩
 ·intro u' J
  simp at J;subst J;exact C.one Z
 ·intro v' w' h1 h2 _ X
  have K:∀k,v.ownBlock=some k->B<=k/\k<q.heap.size:=hO.lt;have p:l.grownBy w' v.ownBlock:=grown_trans (grown_of_ext _ I) h2;have r:q.grownBy w' v.ownBlock:=grown_trans (grown_of_ext _ M) p
  have A:∀k,v'.ownBlock=some k->v.ownBlock=some k\/l.heap.size<k:=by
   intro k hk;rcases X with h|h
   ·exact .inl (by rw[<-h];exact hk)
   ·rw [h] at hk
    have:(l.alloc (.cells #[u] E)).heap.size=k:=by simpa using hk
    simp at this
    exact .inr (by omega)
  refine h v' w' ⟨U++[u],λi k=>if i<xs.length then G i k/\k<q.heap.size else q.heap.size<=k/\k<l.heap.size,by simp[D],h1,?_,?_,?_⟩ r p
  ·intro i k hi hk
   split at hk
   ·rename_i m
    obtain⟨a1,a2,a3⟩:=hG i k m hk.1;refine⟨a1,λF => ?_,Nat.lt_of_lt_of_le a3 r.size⟩;rcases A k F with h|h
    ·exact a2 h
    ·have:=M.size;omega
   ·refine ⟨by omega,λF => ?_,Nat.lt_of_lt_of_le hk.2 p.size⟩
    rcases A k F with h|h
    ·have:=K k h;omega
    ·omega
  ·intro i j k hi hj hk L
   simp only[List.length_append,List.length_singleton] at hi hj;split at hk<;>split at L
   ·exact hd i j k (by assumption) (by assumption) hk.1 L.1
   ·omega
   ·omega
   ·omega
  ·intro i hi
   simp only[List.length_append,List.length_singleton] at hi;by_cases m:i<xs.length
   ·rw [gt_append_left _ _ _ (by omega),gt_append_left _ _ _ m]
    simp only[if_pos m];exact C.mono (V i m) (λk hk b=>⟨⟨hk,b⟩,Nat.lt_of_lt_of_le b r.size,r.block k b (λe=>(hG i k m hk).2.1 e.symm)⟩)
   ·have Y:i=xs.length:=by omega
    subst Y;rw[gt_concat,<-D,gt_concat];simp only[D,Nat.lt_irrefl,if_false]
    exact C.mono Z (λk hk b=>⟨⟨hk,b⟩,Nat.lt_of_lt_of_le b p.size,p.block k b (λe=>by
     have hk:q.heap.size<=k:=hk;have:=K k e.symm;omega)⟩)
theorem tgenOk (P:Pr) (hP:Valid P) (f:Nat):TgenOk P f:=by
 induction f with
 | zero=>intro base w p e E j _ _ _ b i;omega
 | succ f a=>exact timesGenerator_of P hP f a
theorem timesGenerator_ok (P:Pr) (hP:Valid P) (base:Nat) (w:World) (p e:Value) (E:List Int) (j:Nat) (a:PresP (Off e.ownBlock) w p P) (hE:Own base w e E) (b:Vec P.orders E) (i:j<P.orders.length) :
  Calls Tryz.prog 311 #[p,e,.int .i64 j] w (Mut w e.ownBlock λw' v=>v=.tuple #[]/\Own base w' e (tg P E j)):=
 tgenOk P hP _ base w p e E j a hE b i (by omega)
theorem timesVector_ok (P:Pr) (hP:Valid P) (base:Nat) (w:World) (p e f:Value) (E F:List Int) (a:PresP (Off e.ownBlock) w p P) (hE:Own base w e E)
  (b:Vec P.orders E) (i:Ints (Off e.ownBlock) w f F) (hF:Vec P.orders F) :
  Calls Tryz.prog 243 #[p,e,f] w (Mut w e.ownBlock λw' v=>v=.tuple #[]/\Own base w' e (tv P E F)):=
 timesVector_of P hP _ (tgenOk P hP _) base w p e f E F a hE b i hF (λj k _=>by omega)
theorem off_of {base:Nat}{w a:World}{v:Value}{l:List Int}{S:Nat->Prop}(hO:Own base a v l) (e:w.heap.size<=base) (b:Ext w a) :
  ∀k,S k->k<w.heap.size->Off v.ownBlock k/\k<a.heap.size/\a.heap[k]? = w.heap[k]? :=by
 intro k _ hk;refine⟨λh => ?_,Nat.lt_of_lt_of_le hk b.size,b.block k hk (by simp)⟩;have:=(hO.lt k h).1;omega
theorem mut_ext {base:Nat}{w a b:World}{v:Value}{l:List Int}(e:Ext w a) (hO:Own base a v l) (m:w.heap.size<=base) (h:a.grownBy b v.ownBlock):Ext w b:=
 grown_own e h (λj i k=>by have:=(hO.lt j i).1;omega)
set_option maxHeartbeats 400000 in
theorem multiply_ok (P:Pr) (hP:Valid P) (w:World) (p a b:Value) (A B:List Int) (m k q:Nat->Prop) (u:PresP m w p P) (ha:Ints k w a A) (y:Ints q w b B) (l:Vec P.orders A) (hB:Vec P.orders B) :
  Calls Tryz.prog 253 #[p,a,b] w (Ret w λw' v=>Own w.heap.size w' v (tv P A B)):=by
 have z:=hP.n6;have C:A.length<=6:=by rw[l.1];omega
 go_enter Tryz.func253,Tryz.ntmps253;go_wp2_with fail
 refine Calls.mono (clone_ok w a A k ha (by omega)) ?_;rintro E D ⟨r,rfl,e,i⟩;go_wp2_with fail
 refine Calls.mono (timesVector_ok P hP w.heap.size D p r b A B (u.mono (off_of i (Nat.le_refl _) e)) i l (y.mono (off_of i (Nat.le_refl _) e)) hB) ?_;rintro F G ⟨v2,rfl,j,rfl,kL⟩;go_wp2;go_ret;exact⟨_,rfl,mut_ext e i (Nat.le_refl _) j,kL⟩
def iPow (P:Pr) (a:List Int) (k:Int):List Int:=iter k.toNat (λout=>tv P out a) (List.replicate a.length 0)
theorem zeros_vec' {P:Pr}(hP:Valid P) {a:List Int}(ha:Vec P.orders a):Vec P.orders (List.replicate a.length 0):=by
 refine⟨by rw[List.length_replicate];exact ha.1,λi hi => ?_⟩;have:=hP.ord7 i hi;rw[gt_replicate];omega
theorem iPow_vec {P:Pr}(hP:Valid P) (a:List Int) (k:Int) (ha:Vec P.orders a):Vec P.orders (iPow P a k):=
 iter_inv (Vec P.orders) _ (λy hy=>tv_vec hP y a hy ha) _ _ (zeros_vec' hP ha)
set_option maxHeartbeats 400000 in
theorem power_ok (P:Pr) (hP:Valid P) (w:World) (p a:Value) (A:List Int) (k:Int) (C D:Nat->Prop) (E:PresP C w p P) (ha:Ints D w a A) (j:Vec P.orders A) (hk:k<=1000000000) :
  Calls Tryz.prog 192 #[p,a,.int .i64 k] w (Ret w λw' v=>Own w.heap.size w' v (iPow P A k)):=by
 have F:=hP.n6;have G:A.length<=6:=by rw[j.1];omega
 obtain⟨K,capa,rfl,_,_⟩:=ha.shape;go_enter Tryz.func192,Tryz.ntmps192;go_wp2_with (at_make;refine wp_make_ints rfl _ _ rfl w.heap.size A.length w.heap.size rfl _ rfl rfl rfl (by omega) (Nat.le_refl _) ?_;intro L q u _)
 generalize Value.slice (some ⟨w.heap.size,0,none⟩) A.length A.length=r at *;go_loopw [12] (λi wr=>∃m:Nat,i=.int .i64 m/\m<=k.toNat/\Ext w wr/\Own w.heap.size wr r (iter m (λout=>tv P out A) (List.replicate A.length 0))) (λi _=>k.toNat-(intOf i).toNat)
 case atStart=>exact⟨0,rfl,by omega,u,q⟩
 case round=>
  obtain⟨m,rfl,hm,l,hO⟩:=hrel;by_cases H:(m:Int)<k
  ·have b:Vec P.orders (iter m (λout=>tv P out A) (List.replicate A.length 0)):=iter_inv (Vec P.orders) _ (λy hy=>tv_vec hP y A hy j) _ _ (zeros_vec' hP j)
   have I:=Lib.hid b;clear b;go_wp2_with fail
   refine Calls.mono (timesVector_ok P hP w.heap.size wr p r _ _ A (E.mono (off_of hO (Nat.le_refl _) l)) hO I.out (ha.mono (off_of hO (Nat.le_refl _) l)) j) ?_;rintro M N ⟨v2,rfl,z,rfl,kL⟩;have B:=mut_ext l hO (Nat.le_refl _) z;go_wp2;go_roundw
   case rel=>exact⟨m+1,by go_num,by omega,B,kL⟩
   case measure=>simp[intOf];omega
  ·have e:m=k.toNat:=by omega
   have J:Hid (Own w.heap.size wr r (iPow P A k)):=by rw[e] at hO;exact hO
   clear hO e;go_wp2;go_ret;exact⟨_,rfl,l,J.out⟩
def left_ (o x:Int):Nat:=if x=0 then 0 else (o-x).toNat
def invTo (P:Pr) (a:List Int):Nat->List Int × List Int
 | 0=>(a,List.replicate a.length 0)
 | k+1=>
  let s:=invTo P a k
  let m:=left_ (gt P.orders k) (gt s.1 k)
  (iter m (λe=>tg P e k) s.1,iter m (λe=>tg P e k) s.2)
def iInv (P:Pr) (a:List Int):List Int:=(invTo P a a.length).2
theorem iter_tg {P:Pr}(hP:Valid P) (e:List Int) (k:Nat) (hk:k<P.orders.length) (a:Vec P.orders e) (j:gt e k≠0) (s:Nat) (l:s<=left_ (gt P.orders k) (gt e k)) :
  Vec P.orders (iter s (λe=>tg P e k) e)/\gt (iter s (λe=>tg P e k) e) k=if s=left_ (gt P.orders k) (gt e k) then 0 else gt e k+s:=by
 have hx:=a.2 k hk;have m:left_ (gt P.orders k) (gt e k)=(gt P.orders k-gt e k).toNat:=by unfold left_;rw[if_neg j]
 rw[m] at l ⊢;induction s with
 | zero=>exact⟨a,by rw[if_neg (by omega)];simp[iter]⟩
 | succ s p=>
  obtain⟨h1,b⟩:=p (by omega);refine⟨tg_vec hP _ k h1 hk,?_⟩;show gt (tg P (iter s (λe=>tg P e k) e) k) k=_
  have q:=(tgen_entries hP P.orders.length (iter s (λe=>tg P e k) e) k h1 hk (by omega)).2;rw[if_neg (by omega)] at b;have r:gt (tg P (iter s (λe=>tg P e k) e) k) k=if gt (iter s (λe=>tg P e k) e) k+1=gt P.orders k then 0 else gt (iter s (λe=>tg P e k) e) k+1:=q
  rw[r,b];by_cases i:gt e k+s+1=gt P.orders k
  ·rw[if_pos i,if_pos (by omega)]
  ·rw[if_neg i,if_neg (by omega)];omega
theorem invTo_vec {P:Pr}(hP:Valid P) (a:List Int) (ha:Vec P.orders a) (k:Nat) (hk:k<=P.orders.length):Vec P.orders (invTo P a k).1/\Vec P.orders (invTo P a k).2:=by
 induction k with
 | zero=>exact⟨ha,zeros_vec' hP ha⟩
 | succ k b=>
  obtain⟨h1,e⟩:=b (by omega);exact⟨iter_inv (Vec P.orders) _ (λy hy=>tg_vec hP y k hy (by omega)) _ _ h1,iter_inv (Vec P.orders) _ (λy hy=>tg_vec hP y k hy (by omega)) _ _ e⟩
set_option maxHeartbeats 1000000 in
theorem invert_ok (P:Pr) (hP:Valid P) (w:World) (p a:Value) (A:List Int) (Sp Sa:Nat->Prop) (hp:PresP Sp w p P) (ha:Ints Sa w a A) (hA:Vec P.orders A) :
  Calls Tryz.prog 257 #[p,a] w (Ret w λw' v=>Own w.heap.size w' v (iInv P A)):=by
 have aB:=hP.n6;have aC:A.length<=P.orders.length/\P.orders.length<=A.length:=by rw[hA.1];omega
 obtain⟨aa,capa,rfl,_,_⟩:=ha.shape;go_enter Tryz.func257,Tryz.ntmps257;go_wp2_with fail
 refine Calls.mono (clone_ok w _ A Sa ha (by omega)) ?_;rintro e1 C ⟨r,rfl,hg1,hR⟩;have L:=hR.ints (by omega);obtain⟨ar,b,rfl,_,_⟩:=L.shape;go_wp2_with (at_make;refine wp_make_ints rfl _ _ rfl C.heap.size A.length C.heap.size rfl _ rfl rfl rfl (by omega) (Nat.le_refl _) ?_;intro w2 M N _)
 generalize Value.slice (some ⟨C.heap.size,0,none⟩) A.length A.length=t at *;have O:=hR.ext0 N;have E:=hR.lt;have af:=Lib.hid E;clear L hR E;have ag:Ext w w2:=grown_trans hg1 N;have F:=hg1.size;go_loopw [15] (λi wr=>∃k:Nat,i=.int .i64 k/\k<=A.length/\Ext w wr/\Own w.heap.size wr (.slice ar A.length b) (invTo P A k).1/\Own C.heap.size wr t (invTo P A k).2) (λi _=>A.length-(intOf i).toNat)
 case atStart=>exact⟨0,rfl,by omega,ag,O,M⟩
 case round=>
  clear O M;obtain⟨k,rfl,hk,G,hO,B⟩:=hrel;obtain⟨j,hv2⟩:=invTo_vec hP A hA k (by omega);have H:=Lib.hid j;have ah:=Lib.hid hv2;by_cases aE:k<A.length
  ·have hx:=j.2 k (by omega)
   have Q:=hP.ord7 k (by omega);obtain⟨g,capg,I,_,_⟩:=hO.form (by rw[j.1];omega);have l:(invTo P A k).1.length=A.length:=by rw[j.1,hA.1]
   rw[l] at I;have m:invTo P A (k+1)=(iter (left_ (gt P.orders k) (gt (invTo P A k).1 k)) (λe=>tg P e k) (invTo P A k).1,iter (left_ (gt P.orders k) (gt (invTo P A k).1 k)) (λe=>tg P e k) (invTo P A k).2):=rfl;have S:=Lib.hid m;clear m;obtain⟨rfl,oI⟩:ar=some ⟨g,0,none⟩/\b=capg:=by cases I;exact⟨rfl,rfl⟩
   clear I oI j hv2;have U:=B.lt;have aF:g<C.heap.size:=(af.out g rfl).2;have aG:=Lib.hid U;clear U;generalize V:(invTo P A k).1=R at *;generalize W:(invTo P A k).2=T at *;have aH:=Lib.hid V;have aI:=Lib.hid W;clear V W;have aJ:0<=gt R k:=hx.1;have aK:gt R k<gt P.orders k:=hx.2;have av:gt P.orders k<=7:=Q.2;have aw:=Lib.hid l;clear l hx Q;go_wp2;go_loopg [21] (left_ (gt P.orders k) (gt R k)) (λgk u wr=>∃s:Nat,gk+s=left_ (gt P.orders k) (gt R k)/\Ext w wr/\Own w.heap.size wr (.slice (some ⟨g,0,none⟩) A.length b) (iter s (λe=>tg P e k) R)/\Own C.heap.size wr t (iter s (λe=>tg P e k) T))
   case atStart=>exact⟨0,by omega,G,hO,B⟩
   case round=>
    clear G hO B;obtain⟨s,hs,G,hO,B⟩:=hrel
    have J:Vec P.orders (iter s (λe=>tg P e k) R)/\Vec P.orders (iter s (λe=>tg P e k) T):=
     ⟨iter_inv (Vec P.orders) _ (λy hy=>tg_vec hP y k hy (by omega)) _ _ H.out,iter_inv (Vec P.orders) _ (λy hy=>tg_vec hP y k hy (by omega)) _ _ ah.out⟩
    have X:=Lib.hid J;have hc:=hO.cell k (by rw[J.1.1];omega);clear J;by_cases D:s=left_ (gt P.orders k) (gt R k)
    ·have Y:gt (iter s (λe=>tg P e k) R) k=0:=by
      by_cases K:gt R k=0
      ·have:s=0:=by rw[D];unfold left_;rw[if_pos K]
       rw[this];exact K
      ·rw[(iter_tg hP R k (by omega) H.out K s (by omega)).2,if_pos D]
     rw[Y] at hc;have Z:Own w.heap.size wr (.slice (some ⟨g,0,none⟩) A.length b) (invTo P A (k+1)).1:=by rw[S.out,<-D];exact hO
     have ab:Own C.heap.size wr t (invTo P A (k+1)).2:=by rw[S.out,<-D];exact B
     have ai:=Lib.hid Z;have aj:=Lib.hid ab;clear Z ab hO B D Y;go_wp2;go_roundw
     case rel=>exact⟨k+1,by go_num,by omega,G,ai.out,aj.out⟩
     case measure=>simp[intOf];omega
    ·have Y:gt (iter s (λe=>tg P e k) R) k≠0:=by
      by_cases K:gt R k=0
      ·exfalso;apply D
       have:left_ (gt P.orders k) (gt R k)=0:=by unfold left_;rw[if_pos K]
       omega
      ·rw[(iter_tg hP R k (by omega) H.out K s (by omega)).2,if_neg D];omega
     have ak:(gt (iter s (λe=>tg P e k) R) k != 0)=true:=by simpa using Y
     have HM:=Lib.hid D;clear D Y;go_wp2_with fail
     refine Calls.mono (timesGenerator_ok P hP w.heap.size wr p _ _ k (hp.mono (off_of hO (Nat.le_refl _) G)) hO X.out.1 (by omega)) ?_;rintro e3 w3 ⟨v3,rfl,ac,rfl,iE⟩;have ad:=mut_ext G hO (Nat.le_refl _) ac
     have z:Own C.heap.size w3 t (iter s (λe=>tg P e k) T):=B.ext ac (by
      cases hb:t.ownBlock with
      | none=>exact .inl rfl
      | some q=>exact .inr (λh=>by have h:some q=some g:=h;cases h;have:=(B.lt _ hb).1;omega))
     go_wp2_with fail
     refine Calls.mono (timesGenerator_ok P hP C.heap.size w3 p t _ k (hp.mono (off_of z F ad)) z X.out.2 (by omega)) ?_;rintro e4 w4 ⟨v4,rfl,hg4,rfl,oJ⟩;have am:=mut_ext ad z F hg4
     have an:=iE.ext hg4 (by
      cases hb:t.ownBlock with
      | none=>exact .inr (by simp[Value.ownBlock])
      | some q=>exact .inr (λh=>by have h:some g=some q:=h;cases h;have:=(z.lt _ hb).1;omega))
     clear hc ak hO B iE z;go_wp2;go_roundg (gk-1)
     case measure=>have:=HM.out;omega
     case rel=>exact⟨s+1,by have:=HM.out;omega,am,an,oJ⟩
  ·have ao:k=A.length:=by omega
   subst ao;go_wp2;go_ret;exact⟨_,rfl,G,B.weak F⟩
theorem iInv_vec {P:Pr}(hP:Valid P) (a:List Int) (ha:Vec P.orders a):Vec P.orders (iInv P a):=(invTo_vec hP a ha a.length (by rw[ha.1];omega)).2
def iConj (P:Pr) (a b:List Int):List Int:=tv P (iInv P b) (tv P a b)
set_option maxHeartbeats 400000 in
theorem conjugate_ok (P:Pr) (hP:Valid P) (w:World) (p a b:Value) (A B:List Int) (j z k:Nat->Prop) (l:PresP j w p P) (ha:Ints z w a A) (C:Ints k w b B) (u:Vec P.orders A) (hB:Vec P.orders B) :
  Calls Tryz.prog 189 #[p,a,b] w (Ret w λw' v=>Own w.heap.size w' v (iConj P A B)):=by
 have D:=hP.n6;have E:(iInv P B).length<=6:=by rw[(iInv_vec hP B hB).1];omega
 have F:(tv P A B).length<=6:=by rw[(tv_vec hP A B u hB).1];omega
 go_enter Tryz.func189,Tryz.ntmps189;go_wp2_with fail
 refine Calls.mono (invert_ok P hP w p b B j k l C hB) ?_;rintro K G ⟨r,rfl,e,H⟩;go_wp2_with fail
 refine Calls.mono (multiply_ok P hP G p a b A B j z k (l.ext e) (ha.ext e) (C.ext e) u hB) ?_;rintro L I ⟨m,rfl,i,J⟩;go_wp2_with fail
 refine Calls.mono (multiply_ok P hP I p r m _ _ j Any Any (l.ext (grown_trans e i)) ((H.ext0 i).ints (by omega)) (J.ints (by omega)) (iInv_vec hP B hB) (tv_vec hP A B u hB)) ?_;rintro M N ⟨q,rfl,y,hQ⟩;go_wp2;go_ret;exact⟨_,rfl,grown_trans (grown_trans e i) y,hQ.weak (by have:=e.size;have:=i.size;omega)⟩
def iImg (P:Pr) (i:Nat) (x:List Int):List Int:=rImgTo (tv P) (gt P.conj i) i x (List.replicate x.length 0) (gt P.conj i).length
theorem iImgTo_vec {P:Pr}(hP:Valid P) (i:Nat) (hi:i<P.orders.length) (x out:List Int) (a:Vec P.orders out) (k:Nat) (hk:k<=(gt P.conj i).length) :
  Vec P.orders (rImgTo (tv P) (gt P.conj i) i x out k):=by
 have b:=hP.cv i hi;induction k with
 | zero=>exact a
 | succ k e=>
  unfold rImgTo;exact iter_inv (Vec P.orders) _ (λy hy=>tv_vec hP _ _ hy (b.2 k (by omega)).1) _ _ (e (by omega))
set_option maxHeartbeats 1000000 in
theorem imageBy_ok (P:Pr) (hP:Valid P) (w:World) (p x:Value) (i:Nat) (X:List Int) (R S:Nat->Prop) (hi:i<P.orders.length) (B:PresP R w p P) (hx:Ints S w x X) (C:Vec P.orders X) :
  Calls Tryz.prog 281 #[p,.int .i64 i,x] w (Ret w λw' v=>Own w.heap.size w' v (iImg P i X)):=by
 have U:=hP.n6;have V:X.length<=P.orders.length/\P.orders.length<=X.length:=by rw[C.1];omega
 obtain⟨pb,po,rfl⟩:=B.shape;obtain⟨ax,capx,rfl,_,_⟩:=hx.shape;have D:i<P.conj.length:=by rw[hP.cl];omega
 have e:=(hP.cv i hi).1;have W:(gt P.conj i).length+i+1<=P.orders.length:=by omega
 have Y:=Lib.hid e;clear e;obtain⟨ac,capc,jZ,mB⟩:=B.conjAt;obtain⟨bc,oc,iQ,oD,rfl,_,_,iX,oK⟩:=Rows3.at mB i D;go_enter Tryz.func281,Tryz.ntmps281;go_wp2_with (at_make;refine wp_make_ints rfl _ _ rfl w.heap.size X.length w.heap.size rfl _ rfl rfl rfl (by omega) (Nat.le_refl _) ?_;intro w1 j b _;have E:=b.cell jZ (by simp);have F:=b.cell iX (by simp))
 clear E F mB jZ iX;generalize Value.slice (some ⟨w.heap.size,0,none⟩) X.length X.length=t at *;go_loopw [21] (λii wr=>∃k:Nat,ii=.int .i64 k/\k<=(gt P.conj i).length/\Ext w wr/\Own w.heap.size wr t (rImgTo (tv P) (gt P.conj i) i X (List.replicate X.length 0) k)) (λii _=>(gt P.conj i).length-(intOf ii).toNat)
 case atStart=>exact⟨0,rfl,by omega,b,j⟩
 case round=>
  clear j;obtain⟨k,rfl,hk,a,hO⟩:=hrel;by_cases G:k<(gt P.conj i).length
  ·have l:=iImgTo_vec hP i hi X _ (zeros_vec' hP C) k hk
   have Z:=Lib.hid l;clear l;have q:=((hP.cv i hi).2 k (by omega)).1;have r:=Lib.hid q;clear q;have aa:((i:Int)+1+k).toNat=i+1+k:=by omega
   have ab:(i:Int)+1+k<X.length:=by omega
   obtain⟨bx,ox,rfl,_,_,hcx⟩:=Ints.at (hx.ext a) (i+1+k) (by omega);have u:=C.2 (i+1+k) (by omega);have H:=hP.ord7 (i+1+k) (by omega);have ad:0<=gt X (i+1+k):=u.1;have ae:gt X (i+1+k)<=7:=by omega
   clear u H;obtain⟨bd,od,oF,oG,rfl,_,_,mC,hid⟩:=Rows2.at oK k G;have I:=a.cell mC (by simp);go_wp2;go_loopw [33] (λJ z=>∃m:Nat,J=.int .i64 m/\m<=(gt X (i+1+k)).toNat/\Ext w z/\Own w.heap.size z t (iter m (λout=>tv P out (gt (gt P.conj i) k)) (rImgTo (tv P) (gt P.conj i) i X (List.replicate X.length 0) k))) (λJ _=>(gt X (i+1+k)).toNat-(intOf J).toNat)
   case atStart=>exact⟨0,rfl,by omega,a,hO⟩
   case round=>
    clear a hO hcx I mC;obtain⟨m,rfl,hm,a,hO⟩:=hrel;by_cases Q:(m:Int)<gt X (i+1+k)
    ·have A:Vec P.orders (iter m (λout=>tv P out (gt (gt P.conj i) k)) (rImgTo (tv P) (gt P.conj i) i X (List.replicate X.length 0) k)):=iter_inv (Vec P.orders) _ (λy hy=>tv_vec hP y _ hy r.out) _ _ Z.out
     have K:=Lib.hid A;clear A;go_wp2_with fail
     refine Calls.mono (timesVector_ok P hP w.heap.size wr _ t _ _ _ (B.mono (off_of hO (Nat.le_refl _) a)) hO K.out (hid.mono (off_of hO (Nat.le_refl _) a)) r.out) ?_;rintro e3 w3 ⟨v3,rfl,L,rfl,iE⟩;have M:=mut_ext a hO (Nat.le_refl _) L;go_wp2;go_roundw
     case rel=>exact⟨m+1,by go_num,by omega,M,iE⟩
     case measure=>simp[intOf];omega
    ·have N:m=(gt X (i+1+k)).toNat:=by omega
     subst N;go_wp2;go_roundw
     case rel=>exact⟨k+1,by go_num,by omega,a,hO⟩
     case measure=>simp[intOf];omega
  ·have O:k=(gt P.conj i).length:=by omega
   subst O;go_wp2;go_ret;exact⟨_,rfl,a,hO⟩
def rRepF (m:List Int->List Int->List Int):Nat->List Int->List Int->Nat->List Int
 | 0,out,_,_=>out
 | f+1,out,base,k=>if k=0 then out else rRepF m f (if k%2=1 then m out base else out) (m base base) (k/2)
def rRep (m:List Int->List Int->List Int) (out base:List Int) (k:Nat):List Int:=rRepF m k out base k
theorem rRepF_eq (m:List Int->List Int->List Int):∀(f g:Nat) (out base:List Int) (k:Nat),k<=f->k<=g->rRepF m f out base k=rRepF m g out base k:=by
 intro f;induction f with
 | zero=>
  intro g out base k a b;have:k=0:=by omega
  subst this;cases g<;>simp[rRepF]
 | succ f e=>
  intro g out base k a b;cases g with
  | zero=>
   have:k=0:=by omega
   subst this;simp[rRepF]
  | succ g=>
   simp only[rRepF];split
   ·rfl
   ·exact e g _ _ _ (by omega) (by omega)
theorem rRep_step (m:List Int->List Int->List Int) (out base:List Int) (k:Nat) (hk:0<k):rRep m out base k=rRep m (if k%2=1 then m out base else out) (m base base) (k/2):=by
 unfold rRep;obtain⟨j,rfl⟩:∃j,k=j+1:=⟨k-1,by omega⟩;show(if j+1=0 then out else rRepF m j _ _ ((j+1)/2))=_
 rw[if_neg (by omega)];exact rRepF_eq m _ _ _ _ _ (by omega) (Nat.le_refl _)
set_option maxHeartbeats 2000000 in
theorem l08Repeat_ok (P:Pr) (hP:Valid P) (w:World) (pv x:Value) (i f:Nat) (hi:i+f=P.orders.length) (X:List Int) (k:Int) (Sp Sx:Nat->Prop) (hp:PresV Sp w pv P) (hx:Ints Sx w x X) (hX:Vec P.orders X) (ak:0<=k) (hk:k<=1000000000) :
  Calls Tryz.prog 310 #[pv,.int .i64 i,x,.int .i64 k] w (Ret w λw' v=>Own w.heap.size w' v (rRep (rAt P f i) (zeros P.orders.length) X k.toNat)):=by
 obtain⟨vo,vp,vc,rfl,h3⟩:=hp;have al:=hP.n6;have z:=PresP.box h3 28;have A:Ext w (w.alloc (.cells #[vo,vp,vc] 28)):=World.grownBy_alloc _ _ _;have I:=hx.ext A;have am:X.length<=P.orders.length/\P.orders.length<=X.length:=by rw[hX.1];omega
 have J:(w.alloc (.cells #[vo,vp,vc] 28)).heap.size=w.heap.size+1:=by simp
 have HS:=Lib.hid J;clear J hx;go_enter Tryz.func310,Tryz.ntmps310;obtain⟨ao,capo,dM,hoi⟩:=z.ordAt;go_wp2_with (at_make;refine wp_make_ints rfl _ _ rfl (w.heap.size+1) P.orders.length (w.heap.size+1) (by simp) _ rfl rfl rfl (by omega) (by simp) ?_;intro R S q ad)
 clear dM hoi;have K:=z.ext q;have L:=I.ext q;have r:Ext w R:=grown_trans A q;obtain⟨ax,capx,rfl,_,_⟩:=L.shape;clear z I q A;generalize u:rRep (rAt P f i) (zeros P.orders.length) X k.toNat=res at *;have y:=Lib.hid u;clear u;have an:w.heap.size<=R.heap.size:=r.size;go_loopw [3,9,10] (λU ov bv wr=>∃(m:Nat) (O B:List Int),U=.int .i64 m/\m<=k.toNat/\Ext R wr/\Own w.heap.size wr ov O/\Ints Any wr bv B/\Vec P.orders O/\Vec P.orders B/\rRep (rAt P f i) O B m=res) (λU _ _ _=>(intOf U).toNat)
 case atStart=>exact⟨k.toNat,_,X,by congr 1;omega,Nat.le_refl _,Ext.refl _,S.weak (by omega),Ints.sub L (λ_ _ _=>trivial),zeros_vec hP,hX,y.out⟩
 case round=>
  obtain⟨m,O,B,rfl,hm,M,hO,hB,C,iI,hr⟩:=hrel;have D:=Lib.hid C;have b:=Lib.hid iI;have V:=Lib.hid hr;clear hr;obtain⟨ar,iA,iH,_,_,hc0,hc1,hc2,fQ⟩:=(K.ext M).at;obtain⟨ab,capb,rfl,_,_⟩:=hB.shape;have W:=hO.ints (by rw[C.1];omega);have N:=iI.1;clear C iI;have au:=Lib.hid N;clear N;by_cases Q:0<m
  ·by_cases j:m%2=1
   ·have Y:(((m:Int).tmod 2) == 1)=true:=by
     rw[Int.tmod_eq_emod_of_nonneg (by omega)];simp;omega
    have E:(((m:Int)%2) == 1)=true:=by simp;omega
    have F:=Lib.hid j;clear j;go_wp2_with fail
    refine Calls.mono (l08At_ok P hP f wr _ _ _ i O B Any Any Any hi ⟨_,_,_,rfl,fQ⟩ W hB D.out b.out) ?_;rintro e2 w2 ⟨v2,rfl,e,Z⟩;have ae:=e.cell hc0 (by simp);have af:=e.cell hc1 (by simp);have ag:=e.cell hc2 (by simp);go_wp2_with fail
    refine Calls.mono (l08At_ok P hP f w2 _ _ _ i B B Any Any Any hi ⟨_,_,_,rfl,fQ.ext e⟩ (hB.ext e) (hB.ext e) b.out b.out) ?_;rintro e3 w3 ⟨v3,rfl,l,iE⟩;have a:=rAt_vec hP f i B B hi b.out b.out;have G:=iE.ints (by rw[a.1];omega);have H:=Lib.hid a;clear a Y E;have p:=(Z.ext0 l).weak (base':=w.heap.size) (by have:=M.size;omega);go_wp2;go_roundw
    case rel=>exact⟨m/2,_,_,by first|rfl|(congr 1;omega)|congr 1,by omega,grown_trans (grown_trans M e) l,p,G,rAt_vec hP f i O B hi D.out b.out,H.out,by rw[<-V.out,rRep_step _ O B m Q,if_pos F.out]⟩
    case measure=>simp[intOf];omega
   ·have Y:(((m:Int).tmod 2) == 1)=false:=by
     rw[Int.tmod_eq_emod_of_nonneg (by omega)];simp;omega
    have E:(((m:Int)%2) == 1)=false:=by simp;omega
    have F:=Lib.hid j;clear j;go_wp2_with fail
    refine Calls.mono (l08At_ok P hP f wr _ _ _ i B B Any Any Any hi ⟨_,_,_,rfl,fQ⟩ hB hB b.out b.out) ?_;rintro e3 w3 ⟨v3,rfl,l,iE⟩;have a:=rAt_vec hP f i B B hi b.out b.out;have G:=iE.ints (by rw[a.1];omega);have H:=Lib.hid a;clear a Y E;have p:=hO.ext0 l;go_wp2;go_roundw
    case rel=>exact⟨m/2,_,_,by first|rfl|(congr 1;omega)|congr 1,by omega,grown_trans M l,p,G,D.out,H.out,by rw[<-V.out,rRep_step _ O B m Q,if_neg F.out]⟩
    case measure=>simp[intOf];omega
  ·have aa:m=0:=by omega
   subst aa;have HO:Hid (Own w.heap.size wr u9 res):=by rw[<-V.out];exact hO
   go_wp2;go_ret;exact⟨_,rfl,grown_trans r M,by show Own _ _ _ _;rw[y.out];exact HO.out⟩
end Go.Proofs.YtldheeicjnncoaaGreat
