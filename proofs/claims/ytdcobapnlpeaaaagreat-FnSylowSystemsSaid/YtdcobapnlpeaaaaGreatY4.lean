/- Merged from templates. -/
import Derived.Test.YtdcobapnlpeaaaaGreatY2
import Derived.BigRegion
set_option maxRecDepth 100000
set_option maxHeartbeats 8000000
namespace Go.Proofs.YtdcobapnlpeaaaaGreat
open Go.RowKit
theorem l08At_zero (P:Pr) (hP:Valid P):AtOk P 0:=by
 intro w pv a b i A B p q r u l ha v y hB;obtain⟨vo,vp,vc,rfl,h3⟩:=l;have m:=hP.n6;have g:=PresP.box h3 28;obtain⟨z,capo,dL,hoi⟩:=g.ordAt;have e:(i:Int)=P.orders.length:=by omega
 have n:((P.orders.length:Int)<=(i:Int)):=by omega
 have C:=Lib.hid e;clear e;go_enter Tryz.func281,Tryz.ntmps281;go_wp2_with (at_make;refine wp_make_ints rfl _ _ rfl (w.heap.size+1) P.orders.length (w.heap.size+1) (by simp) _ rfl rfl rfl (by omega) (by simp) ?_;intro D j k _)
 go_ret;exact⟨_,rfl,grown_trans (World.grownBy_alloc _ _ _) k,j.weak (by omega)⟩
theorem l08At_succ (P:Pr) (hP:Valid P) (f:Nat) (ih:AtOk P f):AtOk P (f+1):=by
 intro w pv a b i A B Sp Sa Sb hi hp ha hb hA hB;obtain⟨vo,vp,vc,rfl,h3⟩:=hp;have bh:=hP.n6;have z:=PresP.box h3 28;have K:=ha.ext (World.grownBy_alloc w (.cells #[vo,vp,vc] 28) none);have M:=hb.ext (World.grownBy_alloc w (.cells #[vo,vp,vc] 28) none);have bi:A.length<=P.orders.length/\P.orders.length<=A.length:=by rw[hA.1];omega
 have bj:B.length<=P.orders.length/\P.orders.length<=B.length:=by rw[hB.1];omega
 have aH:Ext w (w.alloc (.cells #[vo,vp,vc] 28)):=World.grownBy_alloc _ _ _;have ae:(w.alloc (.cells #[vo,vp,vc] 28)).heap.size=w.heap.size+1:=by simp
 have HS:=Lib.hid ae;clear ae;clear ha hb;go_enter Tryz.func281,Tryz.ntmps281;obtain⟨ao,capo,dL,g⟩:=z.ordAt;go_wp2_with fail
 clear dL g;generalize aJ:w.alloc (.cells #[vo,vp,vc] 28)=w0 at *;clear aJ;refine Calls.mono (l01Own_ok w0 a A Sa K (by omega)) ?_;rintro e1 w1 ⟨L,rfl,C,hL⟩;go_wp2_with fail
 refine Calls.mono (l01Own_ok w1 b B Sb (M.ext C) (by omega)) ?_;rintro e2 w2 ⟨R,rfl,N,hR⟩;have D:=hL.ext0 N;obtain⟨gl,capl,rfl,hbl,hsl⟩:=hL.form (by omega);obtain⟨gr,capr,rfl,hbr,C9⟩:=hR.form (by omega);have af:gl≠gr:=by omega
 have c1:=D.cell i (by omega);have f1:=D.frozen i;obtain⟨ag,O⟩:=D.store i 0;have E:=hR.ext O (.inr (by intro h;cases h;exact af rfl));have c2:=E.cell i (by omega);have f2:=E.frozen i;obtain⟨ah,hg4⟩:=E.store i 0;have ai:=ag.ext hg4 (.inr (by intro h;cases h;exact af rfl))
 have aj:Ext w0 ((w2.setCell ⟨gl,i,none⟩ (.int .i64 0)).setCell ⟨gr,i,none⟩ (.int .i64 0)):=
  grown_own (grown_own (grown_trans C N) O (λj hj al=>by cases hj;omega)) hg4 (λj hj al=>by cases hj;have:=C.size;omega)
 have aM:=hA.set i 0 ⟨by omega,λ_=>by have:=hP.ord7 i (by omega);omega⟩;have am:=hB.set i 0 ⟨by omega,λ_=>by have:=hP.ord7 i (by omega);omega⟩;have bl:=C.size;have bm:=N.size;have Q:=hA.2 i (by omega);have S:=hB.2 i (by omega);have g:=hP.ord7 i (by omega);have a3:0<=gt A i:=Q.1;have a4:0<=gt B i:=S.1;have a5:2<=gt P.orders i:=g.1;have a6:gt A i<gt P.orders i:=Q.2;have a7:gt B i<gt P.orders i:=S.2;have a8:gt P.orders i<=7:=g.2;clear Q S g;go_wp2;clear c1 f1 c2 f2 D ag E hL hR;generalize aN:(w2.setCell ⟨gl,i,none⟩ (.int .i64 0)).setCell ⟨gr,i,none⟩ (.int .i64 0)=w4 at *;clear aN O hg4;obtain⟨ab,capb,rfl,_,_⟩:=M.shape;obtain⟨aa,capa,rfl,_,_⟩:=K.shape
 go_loopw [10,12] (λv mm wr=>∃m:Nat,mm=.int .i64 m/\m<=(gt B i).toNat/\Ext w4 wr /\
   Own (w.heap.size+1) wr v (iter m (λl=>rImage P f i l) (A.set i 0))) (λ_ mm _=>(gt B i).toNat-(intOf mm).toNat)
 case atStart=>exact⟨0,rfl,by omega,Ext.refl _,ai.weak (by have:=HS.out;omega)⟩
 case round=>
  obtain⟨m,rfl,hm,hg,hO⟩:=hrel;have F:Ext w0 wr:=grown_trans aj hg;obtain⟨bb,ob,rfl,_,_,hcb⟩:=Ints.at (M.ext F) i (by omega);have T:Vec P.orders (iter m (λl=>rImage P f i l) (A.set i 0)):=iter_inv (Vec P.orders) _ (λy hy=>rImgTo_vec hP f i hi (rAt_vec hP f) _ _ (zeros_vec hP) f (Nat.le_refl _)) _ _ aM;have HV:=Lib.hid T;have U:=hO.ints (by rw[T.1];omega);clear T;obtain⟨an,jJ,j3,_,_,hc0,hc1,G,fL⟩:=(z.ext F).at;by_cases aq:(m:Int)<gt B i
  ·go_wp2_with fail
   refine Calls.mono (l08Image_of P hP f ih wr _ _ i _ Any Any hi ⟨_,_,_,rfl,fL⟩ U HV.out) ?_;rintro e5 w5 ⟨v5,rfl,fR,jG⟩;go_wp2;go_roundw
   case rel=>exact⟨m+1,by go_num,by omega,grown_trans hg fR,jG.weak (by have:=F.size;have:=HS.out;omega)⟩
   case measure=>simp[intOf];omega
  ·have aQ:m=(gt B i).toNat:=by omega
   subst aQ;have ar:=ah.ext0 hg;generalize p:iter (gt B i).toNat (λl=>rImage P f i l) (A.set i 0)=left at *;have HL:=Lib.hid p;clear p;go_wp2_with fail
   refine Calls.mono (ih wr _ _ _ (i+1) left (B.set i 0) Any Any Any (by omega) ⟨_,_,_,rfl,fL⟩ U (ar.ints (by simp;omega)) HV.out am) ?_;rintro e6 w6 ⟨rest,rfl,gj,xB⟩;have q:Ext w0 w6:=grown_trans F gj;obtain⟨ba,oa,rfl,_,_,hca⟩:=Ints.at (K.ext q) i (by omega);have au:w6.cell? ⟨bb,ob+i,none⟩=some (.int .i64 (gt B i)):=gj.cell hcb (by simp);have av:=rAt_vec hP f (i+1) _ _ (by omega) HV.out am;have r:=Lib.hid av;clear av;clear hc0 hc1 G hcb U hO fL ar ah ai aq hm;generalize u:rAt P f (i+1) left (B.set i 0)=e at *;have H:=Lib.hid u;clear u;have bs:i<A.length:=by omega
   have a9:i<B.length:=by omega
   have s1:IntKind.i64.wrap (gt A i+gt B i)=gt A i+gt B i:=IntWalk.i64_in _ (by omega);go_wp2;go_quiet (fail)
   clear s1 hca au
   have I:rAt P (f+1) i A B=if gt P.orders i<=gt A i+gt B i then (rAt P f (i+1) (gt P.powers i) e).set i (gt A i+gt B i-gt P.orders i) else e.set i (gt A i+gt B i):=by
    rw[<-H.out,<-HL.out];rfl
   have HF:=Lib.hid I;clear I;rename_i nq _;have k:Ext w0 (w6.drewN nq):=grown_trans q (grown_drewN _ _ _);have aw:Own wr.heap.size (w6.drewN nq) rest e:=xB;have V:=aw.ints (by rw[r.out.1];omega);have W:=z.ext k;obtain⟨bu,Da,dL,g⟩:=W.ordAt;obtain⟨bo,oo,rfl,_,_,gW⟩:=Ints.at g i (by omega);obtain⟨ap,capp,X,hpr⟩:=W.powAt;obtain⟨bp,op,aS,Y,rfl,_,_,jr,aT⟩:=Rows2.at hpr i (by rw[hP.pl];omega);have bv:i<P.powers.length:=by rw[hP.pl];omega
   have a':wr.heap.size<=(w6.drewN nq).heap.size:=gj.size;clear xB q W g hpr;generalize w6.drewN nq=J at *;by_cases hc:gt P.orders i<=gt A i+gt B i
   case' pos=>
    have ax:=Lib.hid (HF.out.trans (if_pos hc));clear HF;obtain⟨an,jJ,j3,_,_,hc0,hc1,G,fL⟩:=(z.ext k).at;have s3:IntKind.i64.wrap ((i:Int)+1)=(i:Int)+1:=IntWalk.i64_in _ (by omega);have s4:IntKind.i64.wrap (gt A i+gt B i-gt P.orders i)=gt A i+gt B i-gt P.orders i:=IntWalk.i64_in _ (by omega);have e1:∀w',Ext J w'->w'.cell? ⟨w.heap.size,0,none⟩=some an:=λw' h=>h.cell hc0 (by simp);have e2:∀w',Ext J w'->w'.cell? ⟨w.heap.size,1,none⟩=some (.slice (some ⟨bp,op,none⟩) P.powers.length capp):=λw' h=>h.cell (by simpa using X) (by simp);have e3:∀w',Ext J w'->w'.cell? ⟨w.heap.size,2,none⟩=some j3:=λw' h=>h.cell (by simpa using G) (by simp);have e4:∀w',Ext J w'->w'.cell? ⟨bp,op+i,none⟩=some (.slice aS (gt P.powers i).length Y):=λw' h=>h.cell jr (by simp)
    have aU:jJ=.slice (some ⟨bp,op,none⟩) P.powers.length capp:=by
     have:=hc1.symm.trans X;simpa using this
    subst aU;have b3:(i:Int)<P.powers.length:=by omega
    have ay:=(hP.pv i (by omega)).1;have az:=Lib.hid ay;clear ay;clear G hc1 X;go_wp2;clear dL gW jr
    go_region_held3 (λw'=>Ext J w') (first|exact grown_drew _ _|exact Z)
      (first|(go_at_call 281;refine Calls.mono (Calls.rel (w0:=J) (by assumption) (ih _ _ _ _ (i+1) (gt P.powers i) e Any Any Any (by omega) ⟨_,_,_,rfl,Pres3.ext fL (by assumption)⟩ (Ints.ext aT (by assumption)) (Ints.ext V (by assumption)) az.out r.out)) ?_;rintro e8 w8 ⟨v8,rfl,Z,EF,aW⟩))
    have aA:=rAt_vec hP f (i+1) _ _ (by omega) az.out r.out;have aB:(rAt P f (i+1) (gt P.powers i) e).length=P.orders.length:=aA.1;clear e1 e2 e3 e4 s3 s4 aA;go_wp2_with fail
    refine Calls.mono (l01Own_ok w8 v8 (rAt P f (i+1) (gt P.powers i) e) Any (aW.ints (by omega)) (by omega)) ?_;have bC:w0.heap.size<=w8.heap.size:=by have:=k.size;have:=Z.size;omega
    have n:Ext w0 w8:=grown_trans k Z;generalize rAt P f (i+1) (gt P.powers i) e=fin at *;generalize ac:gt A i+gt B i-gt P.orders i=cc at *
   case' neg=>
    have ax:=Lib.hid (HF.out.trans (if_neg hc));clear HF;have aB:e.length=P.orders.length:=r.out.1;go_wp2_with fail
    refine Calls.mono (l01Own_ok J rest e Any V (by omega)) ?_;have n:Ext w0 J:=k;generalize ac:gt A i+gt B i=cc at *;clear V aw r H;generalize e=fin at *
   all_goals
    have bD:=Lib.hid ac;clear ac;have bd:fin.length<=P.orders.length/\P.orders.length<=fin.length:=by omega
    clear aB;rintro e9 w9 ⟨v9,rfl,aX,pG⟩;obtain⟨g9,Db,rfl,hb9,kS⟩:=pG.form (by omega);have c9:=pG.cell i (by omega);have f9:=pG.frozen i;obtain⟨aC,aD⟩:=pG.store i cc;have bE:i<fin.length:=by omega
    go_wp2;go_ret;refine⟨_,rfl,?_,?_⟩
    ·exact grown_trans aH (grown_own (grown_trans n aX) aD (λj hj al=>by cases hj;have:=n.size;omega))
    ·rw[ax.out];exact aC.weak (by have:=n.size;have:=HS.out;omega)
theorem l08At_ok (P:Pr) (hP:Valid P) (f:Nat):AtOk P f:=by
 induction f with
 | zero=>exact l08At_zero P hP
 | succ f a=>exact l08At_succ P hP f a
def rMul (P:Pr) (A B:List Int):List Int:=rAt P P.orders.length 0 A B
theorem l08Mul_ok (P:Pr) (hP:Valid P) (w:World) (pv a b:Value) (A B:List Int) (j g i:Nat->Prop) (k:PresV j w pv P) (ha:Ints g w a A) (l:Ints i w b B) (m:Vec P.orders A) (hB:Vec P.orders B) :
  Calls Tryz.prog 240 #[pv,a,b] w (Ret w λw' v=>Own w.heap.size w' v (rMul P A B)):=by
 obtain⟨vo,vp,vc,rfl,n⟩:=k;go_enter Tryz.func240,Tryz.ntmps240;obtain⟨p,jJ,j3,_,_,hc0,hc1,hc2,fL⟩:=(PresP.box n 28).at;go_wp2_with fail
 refine Calls.mono (l08At_ok P hP P.orders.length _ _ _ _ 0 A B Any g i (by omega) ⟨_,_,_,rfl,fL⟩ (ha.ext (World.grownBy_alloc _ _ _)) (l.ext (World.grownBy_alloc _ _ _)) m hB) ?_;rintro q r ⟨v1,rfl,e,gi⟩;go_wp2;go_ret;exact⟨_,rfl,grown_trans (World.grownBy_alloc _ _ _) e,gi.weak (by simp)⟩
theorem sIsPresentation_ok (w:World) (pv:Value) (P:Pr) (S:Nat->Prop) (hp:PresV S w pv P) :
  Calls Tryz.prog 235 #[pv] w (Ret w λ_ v=>v=.bool (validB P)):=by
 obtain⟨vo,vp,vc,rfl,h3⟩:=hp;have e:=PresP.box h3 28;have m:Ext w (w.alloc (.cells #[vo,vp,vc] 28)):=World.grownBy_alloc _ _ _;go_enter Tryz.func235,Tryz.ntmps235;obtain⟨ao,capo,dL,L⟩:=e.ordAt;obtain⟨ap,capp,gC,hpi⟩:=e.powAt;obtain⟨ac,capc,hcc,gD⟩:=e.conjAt;by_cases h6:P.orders.length<=6;rotate_left
 ·have G:decide ((6:Int)<(P.orders.length:Int))=true:=by simp;omega
  go_wp2;go_ret;exact ret_bool m (validB_false (λh=>h6 h.n6)).symm
 have ad:decide ((6:Int)<(P.orders.length:Int))=false:=by simp;omega
 by_cases n:P.powers.length=P.orders.length;rotate_left
 ·have G:((P.powers.length:Int) != (P.orders.length:Int))=true:=by simp;omega
  have HP:=Lib.hid n;clear n;go_wp2;go_ret;exact ret_bool m (validB_false (λh=>HP.out h.pl)).symm
 have ae:((P.powers.length:Int) != (P.orders.length:Int))=false:=by simp[n]
 by_cases u:P.conj.length=P.orders.length;rotate_left
 ·have G:((P.conj.length:Int) != (P.orders.length:Int))=true:=by simp;omega
  have HP:=Lib.hid n;clear n;have HC:=Lib.hid u;clear u;go_wp2;go_ret;exact ret_bool m (validB_false (λh=>HC.out h.cl)).symm
 have ag:((P.conj.length:Int) != (P.orders.length:Int))=false:=by simp[u]
 have av:P.powers.length<=P.orders.length/\P.orders.length<=P.powers.length:=by omega
 have aw:P.conj.length<=P.orders.length/\P.orders.length<=P.conj.length:=by omega
 have HP:=Lib.hid n;clear n;have HC:=Lib.hid u;clear u;go_wp2;clear ad ae ag;generalize ah:w.alloc (.cells #[vo,vp,vc] 28)=w0 at *;clear ah;go_loop [4] (λi=>∃k:Nat,i=.int .i64 k/\k<=P.orders.length/\∀i,i<k->primeB (gt P.orders i)=true) (λi=>P.orders.length-(intOf i).toNat)
 case atStart=>exact⟨0,rfl,by omega,λi a=>by omega⟩
 case round =>
  obtain⟨k,rfl,hk,hz⟩:=hrel;have HZ:=Lib.hid hz;clear hz;by_cases r:k<P.orders.length
  ·obtain ⟨b,off,rfl,_,_,hc⟩:=Ints.at L k r
   cases hx:primeB (gt P.orders k) with
   | false=>
    have M:=Lib.hid hx;go_wp2_with (go_at_call 275;refine(l01Prime_ok _ _).mono ?_;rintro e1 w1 ⟨rfl,rfl⟩)
    go_ret;exact ret_bool m (validB_false (λh=>by have:=primeB_true.2 (h.ord k r);rw[M.out] at this;cases this)).symm
   | true=>
    have M:=Lib.hid hx;go_wp2_with (go_at_call 275;refine(l01Prime_ok _ _).mono ?_;rintro e1 w1 ⟨rfl,rfl⟩)
    go_round
    case rel=>exact⟨k+1,by go_num,by omega,λi a=>by
      rcases Nat.lt_or_ge i k with h1|h1
      ·exact HZ.out i h1
      ·have:i=k:=by omega
       rw[this];exact M.out⟩
    case measure=>simp[intOf];omega
  ·have N : k=P.orders.length:=by omega
   subst N;have H:∀i,i<P.orders.length->1<=gt P.orders i/\gt P.orders i<=7:=λi a=>by have:=primeB_true.1 (HZ.out i a);omega
   have T:=Lib.hid H;clear H;have I:=capTo_le (l:=P.orders) P.orders.length (λi a=>(T.out i a).1);have O:=Lib.hid I;clear I;by_cases J:capTo P.orders P.orders.length<=729;rotate_left
   ·have G:decide ((729:Int)<capTo P.orders P.orders.length)=true:=by simp;omega
    go_wp2_with (go_at_call 236;refine(l07Product_ok _ _ P.orders Any L T.out).mono ?_;rintro e1 w1 ⟨rfl,rfl⟩)
    go_ret;exact ret_bool m (validB_false (λh=>by have:=O.out.1.2 h.le729;omega)).symm
   have G:decide ((729:Int)<capTo P.orders P.orders.length)=false:=by simp;omega
   go_wp2_with (go_at_call 236;refine(l07Product_ok _ _ P.orders Any L T.out).mono ?_;rintro e1 w1 ⟨rfl,rfl⟩)
   have al:=Lib.hid (O.out.1.1 J);have y:∀i,i<P.orders.length->0<=gt P.orders i/\gt P.orders i<=7:=λi a=>by have:=T.out i a;omega
   have z:=Lib.hid y;clear y;clear hcc gC dL G J T O;go_loopw [5] (λi wr=>∃k:Nat,i=.int .i64 k/\k<=P.orders.length/\Dr w0 wr/\∀i,i<k->tailB P.orders i (gt P.powers i)=true/\(gt P.conj i).length=P.orders.length-1-i/\∀j,j<P.orders.length-1-i->tailB P.orders i (gt (gt P.conj i) j)=true) (λi _=>P.orders.length-(intOf i).toNat)
   case atStart=>exact⟨0,rfl,by omega,Dr.refl _,λi a=>by omega⟩
   case round =>
    obtain⟨k,rfl,hk,A,hz⟩:=hrel;have E:=Lib.hid hz;clear hz;have Q:Ext w wr:=grown_trans m A.ext;by_cases r:k<P.orders.length
    ·obtain ⟨az,capo5,dL,p⟩:=(e.ext A.ext).ordAt
     obtain⟨ap,capp,gC,hpi⟩:=(e.ext A.ext).powAt;obtain⟨ac,capc,hcc,gD⟩:=(e.ext A.ext).conjAt;obtain⟨b1,o1,a2,cap2,rfl,_,_,hc2,F⟩:=Rows2.at hpi k (by omega);obtain⟨b3,o3,a4,yf,rfl,_,_,jN,hi4⟩:=Rows3.at gD k (by omega);have B:expZB P.orders (gt P.powers k) k=false->validB P=false:=λhx=>validB_false (λh=>by have:=expZB_vec.2 (h.pv k r);rw[hx] at this;cases this);have C:¬(gt P.conj k).length=P.orders.length-1-k->validB P=false:=λhx=>validB_false (λh=>hx (h.cv k r).1);have D:∀j,j<P.orders.length-1-k->expZB P.orders (gt (gt P.conj k) j) k=false->validB P=false:=λj hj hx=>validB_false (λh=>by have:=expZB_vec.2 ((h.cv k r).2 j hj);rw[hx] at this;cases this);have am:=Lib.hid B;have an:=Lib.hid C;have aq:=Lib.hid D;clear B C D;have b5:(0:Int)<=k:=by omega
     have b6:(k:Int)<P.powers.length:=by omega
     have b7:(k:Int)<P.conj.length:=by omega
     have s1:IntKind.i64.wrap ((P.orders.length:Int)-1)=(P.orders.length:Int)-1:=IntWalk.i64_in _ (by omega);have s2:IntKind.i64.wrap ((P.orders.length:Int)-1-k)=(P.orders.length:Int)-1-k:=IntWalk.i64_in _ (by omega);cases hx:expZB P.orders (gt P.powers k) k with
     | false=>
      have M:=Lib.hid hx;go_wp2;go_quiet ((go_at_call 224;exact quiet_rd (l07Exponents_ok _ _ _ P.orders (gt P.powers k) k Any Any (p.ext (grown_drewN _ _ _)) (F.ext (grown_drewN _ _ _)) z.out)))
      go_wp2;go_ret;exact ret_bool (grown_trans Q (grown_drewN _ _ _)) (am.out M.out).symm
     | true =>
      have M:=Lib.hid hx;by_cases q:(gt P.conj k).length=P.orders.length-1-k
      ·have G:(((gt P.conj k).length:Int) != (P.orders.length:Int)-1-k)=false:=by simp;omega
       have aE:(gt P.conj k).length<=P.orders.length-1-k/\P.orders.length-1-k<=(gt P.conj k).length:=by omega
       have R:=Lib.hid q;clear q;go_wp2;go_quiet ((go_at_call 224;exact quiet_rd (l07Exponents_ok _ _ _ P.orders (gt P.powers k) k Any Any (p.ext (grown_drewN _ _ _)) (F.ext (grown_drewN _ _ _)) z.out)))
       rename_i nq _;have U:=A.step nq;clear G hx gC hc2 s1 s2 b6;have V:Rows3 Any (wr.drewN nq) (.slice (some ⟨b3,o3,none⟩) P.conj.length capc) P.conj:=gD;go_wp2;go_loopw [6] (λi wr=>∃j:Nat,i=.int .i64 j/\j<=(gt P.conj k).length/\Dr w0 wr/\∀i,i<j->expZB P.orders (gt (gt P.conj k) i) k=true) (λi _=>(gt P.conj k).length-(intOf i).toNat)
       case atStart=>exact⟨0,rfl,by omega,U,λi a=>by omega⟩
       case round=>
        clear hcc jN hi4 F gD hpi V p;obtain⟨j,rfl,hj,g,hz⟩:=hrel;have W:=Lib.hid hz;clear hz;have X:Ext w wr:=grown_trans m g.ext;obtain⟨aF,Da,dL,K⟩:=(e.ext g.ext).ordAt;obtain⟨aG,EG,hcc,gD⟩:=(e.ext g.ext).conjAt;obtain⟨b8,o8,a8,EH,rfl,_,_,EI,Dc⟩:=Rows3.at gD k (by omega);by_cases Y:j<(gt P.conj k).length
        ·obtain ⟨b9,o9,a9,Db,rfl,_,_,EJ,Z⟩:=Rows2.at Dc j Y
         have aH:(j:Int)<(gt P.conj k).length:=by omega
         have aI:(0:Int)<=j:=by omega
         cases hy:expZB P.orders (gt (gt P.conj k) j) k with
         | false=>
          have HY:=Lib.hid hy;go_wp2;go_quiet ((go_at_call 224;exact quiet_rd (l07Exponents_ok _ _ _ P.orders (gt (gt P.conj k) j) k Any Any (K.ext (grown_drewN _ _ _)) (Z.ext (grown_drewN _ _ _)) z.out)))
          go_wp2;go_ret;exact ret_bool (grown_trans X (grown_drewN _ _ _)) (aq.out j (by omega) HY.out).symm
         | true=>
          have HY:=Lib.hid hy;go_wp2;go_quiet ((go_at_call 224;exact quiet_rd (l07Exponents_ok _ _ _ P.orders (gt (gt P.conj k) j) k Any Any (K.ext (grown_drewN _ _ _)) (Z.ext (grown_drewN _ _ _)) z.out)))
          go_wp2;go_roundw
          case rel=>exact⟨j+1,by go_num,by omega,g.step _,λi a=>by
           rcases Nat.lt_or_ge i j with h1|h1
           ·exact W.out i h1
           ·have:i=j:=by omega
            rw[this];exact HY.out⟩
          case measure=>simp[intOf];omega
        ·have aJ:j=(gt P.conj k).length:=by omega
         go_wp2;go_roundw
         case rel=>exact⟨k+1,by go_num,by omega,g,λi a=>by
          rcases Nat.lt_or_ge i k with h1|h1
          ·exact E.out i h1
          ·have:i=k:=by omega
           rw[this];exact⟨tailB_vec.2 (expZB_vec.1 M.out),R.out,λi a=>tailB_vec.2 (expZB_vec.1 (W.out i (by omega)))⟩⟩
         case measure=>simp[intOf];omega
      ·have G:(((gt P.conj k).length:Int) != (P.orders.length:Int)-1-k)=true:=by simp;omega
       have R:=Lib.hid q;clear q;go_wp2;go_quiet ((go_at_call 224;exact quiet_rd (l07Exponents_ok _ _ _ P.orders (gt P.powers k) k Any Any (p.ext (grown_drewN _ _ _)) (F.ext (grown_drewN _ _ _)) z.out)))
       go_wp2;go_ret;exact ret_bool (grown_trans Q (grown_drewN _ _ _)) (an.out R.out).symm
    ·have N:k=P.orders.length:=by omega
     subst N;go_wp2;go_ret;refine ret_bool Q (validB_true ?_).symm
     exact ⟨al.out,h6,HP.out,HC.out,λi a=>primeB_true.1 (HZ.out i a),λi a=>tailB_vec.1 (E.out i a).1,
      λi a=>⟨(E.out i a).2.1,λj hj=>tailB_vec.1 ((E.out i a).2.2 j hj)⟩⟩
def rFrom (P:Pr):Nat->Nat->List Int->List Int
 | 0,_,_=>zeros P.orders.length
 | f + 1,i,X=>
  let out:=rFrom P f (i+1) (X.set i 0)
  if gt X i=0 then out else
   rAt P (f+1) i (rAt P (f+1) i out ((zeros P.orders.length).set i (gt P.orders i-gt X i))) (rFrom P f (i+1) (gt P.powers i))
theorem rFrom_vec {P:Pr}(hP:Valid P) (f:Nat):∀i X,i+f=P.orders.length->Vec P.orders X->Vec P.orders (rFrom P f i X):=by
 induction f with
 | zero=>intro i X _ _;exact zeros_vec hP
 | succ f a=>
  intro i X b e;have g:=hP.ord7 i (by omega);have hx:=e.2 i (by omega);have h1:=a (i+1) (X.set i 0) (by omega) (e.set i 0 ⟨by omega,λ_=>by omega⟩);simp only[rFrom];split
  ·exact h1
  ·exact rAt_vec hP _ _ _ _ b (rAt_vec hP _ _ _ _ b h1 ((zeros_vec hP).set i _ ⟨by omega,λ_=>by omega⟩)) (a (i+1) _ (by omega) (hP.pv i (by omega)).1)
def FromOk (P:Pr) (f:Nat):Prop:=
 ∀ (w:World) (pv x:Value) (i:Nat) (X:List Int) (a b:Nat->Prop),i+f=P.orders.length->PresV a w pv P->Ints b w x X->Vec P.orders X ->
  Calls Tryz.prog 282 #[pv,.int .i64 i,x] w (Ret w λw' v=>Own w.heap.size w' v (rFrom P f i X))
theorem l10From_zero (P:Pr) (hP:Valid P):FromOk P 0:=by
 intro w pv x i X l m n g hx p;obtain⟨vo,vp,vc,rfl,h3⟩:=g;have j:=hP.n6;have a:=PresP.box h3 28;obtain⟨q,capo,dL,hoi⟩:=a.ordAt;have k:((P.orders.length:Int)<=(i:Int)):=by omega
 go_enter Tryz.func282,Tryz.ntmps282;go_wp2_with (at_make;refine wp_make_ints rfl _ _ rfl (w.heap.size+1) P.orders.length (w.heap.size+1) (by simp) _ rfl rfl rfl (by omega) (by simp) ?_;intro r b e _)
 go_ret;exact⟨_,rfl,grown_trans (World.grownBy_alloc _ _ _) e,b.weak (by omega)⟩
theorem l10From_succ (P:Pr) (hP:Valid P) (f:Nat) (ih:FromOk P f):FromOk P (f+1):=by
 intro w pv x i X Sp Sx hi hp hx hX;obtain⟨vo,vp,vc,rfl,h3⟩:=hp;have aR:=hP.n6;have m:=PresP.box h3 28;have z:Ext w (w.alloc (.cells #[vo,vp,vc] 28)):=World.grownBy_alloc _ _ _;have n:=hx.ext z;have aS:X.length<=P.orders.length/\P.orders.length<=X.length:=by rw[hX.1];omega
 have K:(w.alloc (.cells #[vo,vp,vc] 28)).heap.size=w.heap.size+1:=by simp
 have HS:=Lib.hid K;clear K hx;obtain⟨ax,capx,rfl,_,_⟩:=n.shape;go_enter Tryz.func282,Tryz.ntmps282;obtain⟨ao,capo,dL,g⟩:=m.ordAt;go_wp2_with fail
 clear dL g;generalize ah:w.alloc (.cells #[vo,vp,vc] 28)=w0 at *;clear ah;refine Calls.mono (l01Own_ok w0 _ X Sx n (by omega)) ?_;rintro e1 w1 ⟨R,rfl,hg1,hR⟩;obtain⟨gr,capr,rfl,hbr,C9⟩:=hR.form (by omega);have c1:=hR.cell i (by omega);have f1:=hR.frozen i;obtain⟨L,hg2⟩:=hR.store i 0;have q:Ext w0 (w1.setCell ⟨gr,i,none⟩ (.int .i64 0)):=grown_own hg1 hg2 (λj M N=>by cases M;omega);obtain⟨aT,jJ,j3,_,_,hc0,r,u,fL⟩:=(m.ext q).at;have A:=hP.ord7 i (by omega);have B:=hX.2 i (by omega);have aU:0<=gt X i:=B.1;have aV:gt X i<gt P.orders i:=B.2;have aW:2<=gt P.orders i:=A.1;have aX:gt P.orders i<=7:=A.2;have O:=hX.set i 0 ⟨by omega,λ_=>by omega⟩;clear B A;go_wp2_with fail
 clear c1 f1 hc0 r u;generalize aj:w1.setCell ⟨gr,i,none⟩ (.int .i64 0)=w2 at *;clear aj;refine Calls.mono (ih w2 _ _ (i+1) (X.set i 0) Any Any (by omega) ⟨_,_,_,rfl,fL⟩ (L.ints (by simp;omega)) O) ?_;rintro e3 e ⟨out,rfl,hg3,C⟩;have b:Ext w0 e:=grown_trans q hg3;obtain⟨bx,ox,rfl,_,_,hcx⟩:=Ints.at (n.ext b) i (by omega);by_cases J:gt X i=0
 ·have hb:(gt X i == 0)=true:=by simp[J]
  have HZ:=Lib.hid J;clear J;go_wp2;go_ret;exact⟨_,rfl,grown_trans z b,by simp only[rFrom,if_pos HZ.out];exact C.weak (by have:=q.size;have:=HS.out;omega)⟩
 ·have hb:(gt X i == 0)=false:=by simp[J]
  have HZ:=Lib.hid J;clear J;have aJ:w0.heap.size<=e.heap.size:=b.size;go_wp2_with (at_make;refine wp_make_ints rfl _ _ rfl e.heap.size P.orders.length e.heap.size rfl _ rfl rfl rfl (by omega) (by simp) ?_;intro Q v S aK)
  clear hcx hb;have k:Ext w0 Q:=grown_trans b S;obtain⟨aZ,Dd,dL,g⟩:=m.ordAt;obtain⟨bo,oo,rfl,_,_,gW⟩:=Ints.at g i (by omega);obtain⟨T,xC,hxe,_,_,hcx⟩:=Ints.at n i (by omega);obtain⟨rfl,rfl⟩:T=bx/\xC=ox:=by cases hxe;exact⟨rfl,rfl⟩
  clear hxe;have c4:=v.cell i (by simp;omega);have f4:=v.frozen i;obtain⟨U,D⟩:=v.store i (gt P.orders i-gt X i);have a0:(i:Int)<P.orders.length:=by omega
  have a1:(i:Int)<X.length:=by omega
  have a2:(0:Int)<=i:=by omega
  have s1:IntKind.i64.wrap (gt P.orders i-gt X i)=gt P.orders i-gt X i:=IntWalk.i64_in _ (by omega)
  have a:Ext w0 (Q.setCell ⟨e.heap.size,i,none⟩ (.int .i64 (gt P.orders i-gt X i))).drew:=
   grown_trans (grown_own k D (λj M N=>by cases M;omega)) (grown_drew _ _)
  have V:Ext e (Q.setCell ⟨e.heap.size,i,none⟩ (.int .i64 (gt P.orders i-gt X i))).drew:=
   grown_trans (grown_own S D (λj M N=>by cases M;omega)) (grown_drew _ _)
  have W:Own e.heap.size (Q.setCell ⟨e.heap.size,i,none⟩ (.int .i64 (gt P.orders i-gt X i))).drew (.slice (some ⟨e.heap.size,0,none⟩) P.orders.length P.orders.length) ((List.replicate P.orders.length 0).set i (gt P.orders i-gt X i)):=U;have e1:∀w',Ext w0 w'->w'.cell? ⟨w.heap.size,0,none⟩=some (.slice (some ⟨bo,oo,none⟩) P.orders.length Dd):=λw' h=>h.cell dL (by simp);have e2:∀w',Ext w0 w'->w'.cell? ⟨bo,oo+i,none⟩=some (.int .i64 (gt P.orders i)):=λw' h=>h.cell gW (by simp);have e3:∀w',Ext w0 w'->w'.cell? ⟨T,xC+i,none⟩=some (.int .i64 (gt X i)):=λw' h=>h.cell hcx (by simp);clear dL gW hcx;go_region_held3 (λw'=>Ext w0 w') (first|exact grown_trans k (grown_drew _ _)|exact a) (fail)
  clear e1 e2 e3 s1 c4 f4;clear D U;generalize al:(Q.setCell ⟨e.heap.size,i,none⟩ (.int .i64 (gt P.orders i-gt X i))).drew=l at *;clear al;obtain⟨am,dI,dG,_,_,hc0,r,u,dy⟩:=(m.ext a).at;obtain⟨ap,capp,rfl,_,_⟩:=Sl.shape dy.p;obtain⟨bp,op,an,E,rfl,_,_,jr,aq⟩:=Rows2.at dy.p i (by rw[hP.pl];omega);have a4:(i:Int)<P.powers.length:=by rw[hP.pl];omega
  have y:=rFrom_vec hP f (i+1) _ (by omega) O;have F:Vec P.orders ((zeros P.orders.length).set i (gt P.orders i-gt X i)):=(zeros_vec hP).set i _ ⟨by omega,λ_=>by have:=HZ.out;omega⟩;have G:=rAt_vec hP (f+1) i _ _ hi y F;have H:=(hP.pv i (by omega)).1;have I:=rFrom_vec hP f (i+1) _ (by omega) H;have Y:=y.1;have Z:=G.1;have aa:=I.1;have g:=(C.ext0 V).ints (by omega);have ar:Ints Any l (.slice (some ⟨e.heap.size,0,none⟩) P.orders.length P.orders.length) ((zeros P.orders.length).set i (gt P.orders i-gt X i)):=Own.ints W (by rw[List.length_set];simp[zeros];omega);have au:=Lib.hid y;have av:=Lib.hid F;have aw:=Lib.hid G;have ay:=Lib.hid H;have az:=Lib.hid I;have a5:=Lib.hid Y;have aA:=Lib.hid Z;have aB:=Lib.hid aa;clear y F G H I Y Z aa q b k C W v L;have aO:w.heap.size<=l.heap.size:=by have:=a.size;have:=HS.out;omega
  have e1:∀w',Ext l w'->w'.cell? ⟨w.heap.size,0,none⟩=some am:=λw' h=>h.cell hc0 (by simp);have e2:∀w',Ext l w'->w'.cell? ⟨w.heap.size,1,none⟩=some (.slice (some ⟨bp,op,none⟩) P.powers.length capp):=λw' h=>h.cell (by simpa using r) (by simp);have e3:∀w',Ext l w'->w'.cell? ⟨w.heap.size,2,none⟩=some dG:=λw' h=>h.cell (by simpa using u) (by simp);have e4:∀w',Ext l w'->w'.cell? ⟨bp,op+i,none⟩=some (.slice an (gt P.powers i).length E):=λw' h=>h.cell jr (by simp);have s3:IntKind.i64.wrap ((i:Int)+1)=(i:Int)+1:=IntWalk.i64_in _ (by omega);clear hc0 r u jr;go_wp2
  go_region_held3 (λw'=>Ext l w') (first|exact grown_drew _ _|assumption)
   (first
    | (go_at_call_of 281 (out);refine Calls.mono (Calls.rel (w0:=l) (by assumption) (l08At_ok P hP (f+1) _ _ _ _ i _ _ Any Any Any hi ⟨_,_,_,rfl,Pres3.ext dy (by assumption)⟩ (Ints.ext g (by assumption)) (Ints.ext ar (by assumption)) au.out av.out)) ?_;rintro eA wA ⟨vA,rfl,dR,eW,aC⟩)
    | (go_at_call 282;refine Calls.mono (Calls.rel2 (w0:=l) (by assumption) (ih _ _ _ (i+1) _ Any Any (by omega) ⟨_,_,_,rfl,Pres3.ext dy (by assumption)⟩ (Ints.ext aq (by assumption)) ay.out)) ?_;rintro eF wF ⟨vF,rfl,iX,ab,iL,fP⟩;have ac:=(aC.ext0 ab).ints (by rw[aA.out];omega);have ad:=fP.ints (by rw[aB.out];omega))
    | (go_at_call 281;refine Calls.mono (Calls.rel (w0:=l) (by assumption) (l08At_ok P hP (f+1) _ _ _ _ i _ _ Any Any Any hi ⟨_,_,_,rfl,Pres3.ext dy (by assumption)⟩ ac ad aw.out az.out)) ?_;rintro eB wB ⟨vB,rfl,aD,hsB,gX⟩))
  go_wp2;go_ret;refine⟨_,rfl,grown_trans z (grown_trans a aD),?_⟩;simp only[rFrom,if_neg HZ.out];exact gX.weak (by omega)
theorem l10From_ok (P:Pr) (hP:Valid P) (f:Nat):FromOk P f:=by
 induction f with
 | zero=>exact l10From_zero P hP
 | succ f a=>exact l10From_succ P hP f a
def rInv (P:Pr) (X:List Int):List Int:=rFrom P P.orders.length 0 X
theorem rInv_vec {P:Pr}(hP:Valid P) (X:List Int) (a:Vec P.orders X):Vec P.orders (rInv P X):=rFrom_vec hP _ 0 X (by omega) a
theorem rMul_vec {P:Pr}(hP:Valid P) (A B:List Int) (a:Vec P.orders A) (hB:Vec P.orders B):Vec P.orders (rMul P A B):=rAt_vec hP _ 0 A B (by omega) a hB
theorem l10Inv_ok (P:Pr) (hP:Valid P) (w:World) (pv x:Value) (X:List Int) (e b:Nat->Prop) (g:PresV e w pv P) (hx:Ints b w x X) (i:Vec P.orders X) :
  Calls Tryz.prog 211 #[pv,x] w (Ret w λw' v=>Own w.heap.size w' v (rInv P X)):=by
 obtain⟨vo,vp,vc,rfl,j⟩:=g;go_enter Tryz.func211,Tryz.ntmps211;obtain⟨k,jJ,j3,_,_,hc0,hc1,hc2,fL⟩:=(PresP.box j 28).at;go_wp2_with fail
 refine Calls.mono (l10From_ok P hP P.orders.length _ _ _ 0 X Any b (by omega) ⟨_,_,_,rfl,fL⟩ (hx.ext (World.grownBy_alloc _ _ _)) i) ?_;rintro l m ⟨v1,rfl,a,gi⟩;go_wp2;go_ret;exact⟨_,rfl,grown_trans (World.grownBy_alloc _ _ _) a,gi.weak (by simp)⟩
def rConj (P:Pr) (A B:List Int):List Int:=rMul P (rInv P B) (rMul P A B)
theorem l10Conj_ok (P:Pr) (hP:Valid P) (w:World) (pv a b:Value) (A B:List Int) (J G H:Nat->Prop) (K:PresV J w pv P) (ha:Ints G w a A) (I:Ints H w b B) (r:Vec P.orders A) (hB:Vec P.orders B) :
  Calls Tryz.prog 150 #[pv,a,b] w (Ret w λw' v=>Own w.heap.size w' v (rConj P A B)):=by
 obtain⟨vo,vp,vc,rfl,h3⟩:=K;have L:=hP.n6;have g:=(rInv_vec hP B hB).1;have i:=(rMul_vec hP A B r hB).1;have u:=Lib.hid g;have y:=Lib.hid i;clear g i;have e:Ext w (w.alloc (.cells #[vo,vp,vc] 28)):=World.grownBy_alloc _ _ _;have z:=PresP.box h3 28;have C:=ha.ext e;have j:=I.ext e;have k:(w.alloc (.cells #[vo,vp,vc] 28)).heap.size=w.heap.size+1:=by simp
 have M:=Lib.hid k;clear k ha I;go_enter Tryz.func150,Tryz.ntmps150;go_wp2;generalize D:w.alloc (.cells #[vo,vp,vc] 28)=w0 at *;clear D;obtain⟨E,dI,dG,_,_,hc0,l,m,dy⟩:=z.at;have N:∀w',Ext w0 w'->w'.cell? ⟨w.heap.size,0,none⟩=some E:=λw' h=>h.cell hc0 (by simp);have O:∀w',Ext w0 w'->w'.cell? ⟨w.heap.size,1,none⟩=some dI:=λw' h=>h.cell (by simpa using l) (by simp);have Q:∀w',Ext w0 w'->w'.cell? ⟨w.heap.size,2,none⟩=some dG:=λw' h=>h.cell (by simpa using m) (by simp);clear hc0 l m
 go_region_held3 (λw'=>Ext w0 w') (first|exact grown_drew _ _|assumption)
  (first
   | (go_at_call 211;refine Calls.mono (Calls.rel (w0:=w0) (by assumption) (l10Inv_ok P hP _ _ _ _ Any Any ⟨_,_,_,rfl,Pres3.ext dy (by assumption)⟩ (Ints.sub (Ints.ext j (by assumption)) (λ_ _ _=>trivial)) hB)) ?_;rintro R S ⟨T,rfl,dR,eW,F⟩)
   | (go_at_call_of 240 (a);refine Calls.mono (Calls.rel2 (w0:=w0) (by assumption) (l08Mul_ok P hP _ _ _ _ _ _ Any G H ⟨_,_,_,rfl,Pres3.ext dy (by assumption)⟩ (Ints.ext C (by assumption)) (Ints.ext j (by assumption)) r hB)) ?_;rintro U V ⟨W,rfl,iX,n,iL,fP⟩;have p:=(F.ext0 n).ints (by rw[u.out];omega);have q:=fP.ints (by rw[y.out];omega))
   | (go_at_call 240;refine Calls.mono (Calls.rel (w0:=w0) (by assumption) (l08Mul_ok P hP _ _ _ _ _ _ Any Any Any ⟨_,_,_,rfl,Pres3.ext dy (by assumption)⟩ p q (rInv_vec hP B hB) (rMul_vec hP A B r hB))) ?_;rintro X Y ⟨Z,rfl,hgB,hsB,gX⟩))
 clear N O Q;go_wp2;go_ret;exact⟨_,rfl,grown_trans e hgB,gX.weak (by have:=M.out;omega)⟩
def rRepF (m:List Int->List Int->List Int):Nat->List Int->List Int->Nat->List Int
 | 0,out,_,_=>out
 | f+1,out,base,k=>if k=0 then out else rRepF m f (if k%2=1 then m out base else out) (m base base) (k/2)
def rRep (m:List Int->List Int->List Int) (out base:List Int) (k:Nat):List Int:=rRepF m k out base k
theorem rRepF_eq (m:List Int->List Int->List Int):∀(f g:Nat) (out base:List Int) (k:Nat),k<=f->k<=g->rRepF m f out base k=rRepF m g out base k:=by
 intro f;induction f with
 | zero=>
  intro g out base k a b;have:k=0:=by omega
  subst this;cases g<;>simp[rRepF]
 | succ f e=>
  intro g out base k a b;cases g with
  | zero=>
   have:k=0:=by omega
   subst this;simp[rRepF]
  | succ g=>
   simp only[rRepF];split
   ·rfl
   ·exact e g _ _ _ (by omega) (by omega)
theorem rRep_step (m:List Int->List Int->List Int) (out base:List Int) (k:Nat) (hk:0<k):rRep m out base k=rRep m (if k%2=1 then m out base else out) (m base base) (k/2):=by
 unfold rRep;obtain⟨j,rfl⟩:∃j,k=j+1:=⟨k-1,by omega⟩;show(if j+1=0 then out else rRepF m j _ _ ((j+1)/2))=_
 rw[if_neg (by omega)];exact rRepF_eq m _ _ _ _ _ (by omega) (Nat.le_refl _)
theorem l08Repeat_ok (P:Pr) (hP:Valid P) (w:World) (pv x:Value) (i f:Nat) (G:i+f=P.orders.length) (X:List Int) (k:Int) (Sp Sx:Nat->Prop) (hp:PresV Sp w pv P) (hx:Ints Sx w x X) (Y:Vec P.orders X) (ah:0<=k) (hk:k<=1000000000) :
  Calls Tryz.prog 210 #[pv,.int .i64 i,x,.int .i64 k] w (Ret w λw' v=>Own w.heap.size w' v (rRep (rAt P f i) (zeros P.orders.length) X k.toNat)):=by
 obtain⟨vo,vp,vc,rfl,h3⟩:=hp;have ai:=hP.n6;have u:=PresP.box h3 28;have y:Ext w (w.alloc (.cells #[vo,vp,vc] 28)):=World.grownBy_alloc _ _ _;have H:=hx.ext y;have aj:X.length<=P.orders.length/\P.orders.length<=X.length:=by rw[Y.1];omega
 have I:(w.alloc (.cells #[vo,vp,vc] 28)).heap.size=w.heap.size+1:=by simp
 have HS:=Lib.hid I;clear I hx;go_enter Tryz.func210,Tryz.ntmps210;obtain⟨ao,capo,dL,hoi⟩:=u.ordAt;go_wp2_with (at_make;refine wp_make_ints rfl _ _ rfl (w.heap.size+1) P.orders.length (w.heap.size+1) (by simp) _ rfl rfl rfl (by omega) (by simp) ?_;intro Q R n Z)
 clear dL hoi;have J:=u.ext n;have K:=H.ext n;have p:Ext w Q:=grown_trans y n;obtain⟨ax,capx,rfl,_,_⟩:=K.shape;clear u H n y;generalize q:rRep (rAt P f i) (zeros P.orders.length) X k.toNat=res at *;have r:=Lib.hid q;clear q;have ak:w.heap.size<=Q.heap.size:=p.size;go_loopw [3,9,10] (λkv ov bv wr=>∃(m:Nat) (O B:List Int),kv=.int .i64 m/\m<=k.toNat/\Ext Q wr/\Own w.heap.size wr ov O/\Ints Any wr bv B/\Vec P.orders O/\Vec P.orders B/\rRep (rAt P f i) O B m=res) (λkv _ _ _=>(intOf kv).toNat)
 case atStart=>exact⟨k.toNat,_,X,by congr 1;omega,Nat.le_refl _,Ext.refl _,R.weak (by omega),Ints.sub K (λ_ _ _=>trivial),zeros_vec hP,Y,r.out⟩
 case round=>
  obtain⟨m,O,B,rfl,hm,L,hO,hB,z,mR,hr⟩:=hrel;have A:=Lib.hid z;have b:=Lib.hid mR;have S:=Lib.hid hr;clear hr;obtain⟨an,jJ,j3,_,_,hc0,hc1,hc2,fL⟩:=(J.ext L).at;obtain⟨ab,capb,rfl,_,_⟩:=hB.shape;have T:=hO.ints (by rw[z.1];omega);have M:=mR.1;clear z mR;have ap:=Lib.hid M;clear M;by_cases N:0<m
  ·by_cases g:m%2=1
   ·have U:(((m:Int).tmod 2) == 1)=true:=by
     rw[Int.tmod_eq_emod_of_nonneg (by omega)];simp;omega
    have C:(((m:Int)%2) == 1)=true:=by simp;omega
    have D:=Lib.hid g;clear g;go_wp2_with fail
    refine Calls.mono (l08At_ok P hP f wr _ _ _ i O B Any Any Any G ⟨_,_,_,rfl,fL⟩ T hB A.out b.out) ?_;rintro e2 w2 ⟨v2,rfl,e,V⟩;have aa:=e.cell hc0 (by simp);have ac:=e.cell hc1 (by simp);have ad:=e.cell hc2 (by simp);go_wp2_with fail
    refine Calls.mono (l08At_ok P hP f w2 _ _ _ i B B Any Any Any G ⟨_,_,_,rfl,fL.ext e⟩ (hB.ext e) (hB.ext e) b.out b.out) ?_;rintro e3 w3 ⟨v3,rfl,j,jd⟩;have a:=rAt_vec hP f i B B G b.out b.out;have E:=jd.ints (by rw[a.1];omega);have F:=Lib.hid a;clear a U C;have l:=(V.ext0 j).weak (base':=w.heap.size) (by have:=L.size;omega);go_wp2;go_roundw
    case rel=>exact⟨m/2,_,_,by first|rfl|(congr 1;omega)|congr 1,by omega,grown_trans (grown_trans L e) j,l,E,rAt_vec hP f i O B G A.out b.out,F.out,by rw[<-S.out,rRep_step _ O B m N,if_pos D.out]⟩
    case measure=>simp[intOf];omega
   ·have U:(((m:Int).tmod 2) == 1)=false:=by
     rw[Int.tmod_eq_emod_of_nonneg (by omega)];simp;omega
    have C:(((m:Int)%2) == 1)=false:=by simp;omega
    have D:=Lib.hid g;clear g;go_wp2_with fail
    refine Calls.mono (l08At_ok P hP f wr _ _ _ i B B Any Any Any G ⟨_,_,_,rfl,fL⟩ hB hB b.out b.out) ?_;rintro e3 w3 ⟨v3,rfl,j,jd⟩;have a:=rAt_vec hP f i B B G b.out b.out;have E:=jd.ints (by rw[a.1];omega);have F:=Lib.hid a;clear a U C;have l:=hO.ext0 j;go_wp2;go_roundw
    case rel=>exact⟨m/2,_,_,by first|rfl|(congr 1;omega)|congr 1,by omega,grown_trans L j,l,E,A.out,F.out,by rw[<-S.out,rRep_step _ O B m N,if_neg D.out]⟩
    case measure=>simp[intOf];omega
  ·have W:m=0:=by omega
   subst W;have HO:Hid (Own w.heap.size wr u9 res):=by rw[<-S.out];exact hO
   go_wp2;go_ret;exact⟨_,rfl,grown_trans p L,by show Own _ _ _ _;rw[r.out];exact HO.out⟩
def ICond1 (P:Pr) (i J:Nat):Prop:=iPow P (gt (gt P.conj i) (J-i-1)) (gt P.orders J)=iImg P i (gt P.powers J)
def ICond2 (P:Pr) (i J K:Nat):Prop:=iConj P (gt (gt P.conj i) (K-i-1)) (gt (gt P.conj i) (J-i-1))=iImg P i (gt (gt P.conj J) (K-J-1))
def ICond3 (P:Pr) (i:Nat):Prop:=iImg P i (gt P.powers i)=gt P.powers i
def ICond4 (P:Pr) (i J:Nat):Prop:=iter (gt P.orders i).toNat (λx=>iImg P i x) (unitV P.orders.length J)=iConj P (unitV P.orders.length J) (gt P.powers i)
structure ILevel (P:Pr) (i:Nat):Prop where
 c1:∀J,i<J->J<P.orders.length->ICond1 P i J
 c2:∀J K,i<J->J<K->K<P.orders.length->ICond2 P i J K
 c3:ICond3 P i
 c4:∀J,i<J->J<P.orders.length->ICond4 P i J
theorem frozen_ext {w w':World}{a:Addr}(b:Ext w w') (h:w.frozen? a=false) (e:a.block<w.heap.size):w'.frozen? a=false:=by
 rw[World.frozen?_of_block (w:=w) (b.block a.block e (by simp))];exact h
theorem ext_set4 {w m:World}{i:Nat}(n:Ext w m) (p:w.heap.size<=i) (a b c d:Value) :
  Ext w ((((m.setCell ⟨i,0,none⟩ a).setCell ⟨i,1,none⟩ b).setCell ⟨i,2,none⟩ c).setCell ⟨i,3,none⟩ d):=by
 have h1:∀(W:World) (k:Nat) (v:Value),W.grownBy (W.setCell ⟨i,k,none⟩ v) (some i):=λW k v=>
  ⟨rfl,rfl,rfl,by simp[World.setCell],λj _ l=>Below.heap_setCell _ _ _ _ (by intro e;exact l (by rw[e]))⟩
 have g:∀j,some i=some j->j<w.heap.size->none=some j:=λj l q=>by cases l;omega
 exact grown_own (grown_own (grown_own (grown_own n (h1 _ _ _) g) (h1 _ _ _) g) (h1 _ _ _) g) (h1 _ _ _) g
def fault0:Value := .agg #[.int .i64 0,.int .i64 0,.int .i64 0,.int .i64 0]
def FaultR (e:Prop) (v:Value):Prop:=(e/\v=fault0)\/(¬e/\∃a b c d:Int,a≠0/\v=.agg #[.int .i64 a,.int .i64 b,.int .i64 c,.int .i64 d])
theorem iImg_vec {P:Pr}(hP:Valid P) (i:Nat) (a:i<P.orders.length) (x:List Int) (hx:Vec P.orders x):Vec P.orders (iImg P i x):=
 iImgTo_vec hP i a x _ (zeros_vec' hP hx) _ (Nat.le_refl _)
theorem iConj_vec {P:Pr}(hP:Valid P) (a b:List Int) (ha:Vec P.orders a) (e:Vec P.orders b):Vec P.orders (iConj P a b):=
 tv_vec hP _ _ (iInv_vec hP b e) (tv_vec hP a b ha e)
theorem unitV_vec {P:Pr}(hP:Valid P) (j:Nat):Vec P.orders (unitV P.orders.length j):=by
 refine⟨by simp[unitV],λi a => ?_⟩;have:=hP.ord7 i a;by_cases h:j=i
 ·subst h;unfold unitV;rw[gt_set_eq _ _ _ (by simpa using a)];omega
 ·unfold unitV;rw[gt_set_ne _ _ _ _ h,gt_replicate];omega
theorem levelFault_ok (P:Pr) (hP:Valid P) (w:World) (p:Value) (i:Nat) (Sp:Nat->Prop) (hp:PresP Sp w p P) (M:i<P.orders.length) :
  Calls Tryz.prog 286 #[p,.int .i64 i] w (Ret w λ_ v=>FaultR (ILevel P i) v):=by
 have cs:=hP.n6;obtain⟨pb,po,rfl⟩:=hp.shape;have V:Ext w (w.alloc (.cells #[.int .i64 0,.int .i64 0,.int .i64 0,.int .i64 0] 230)):=World.grownBy_alloc _ _ _;have L:=hp.ext V;obtain⟨ao,capo,dL,hoi⟩:=L.ordAt;go_enter Tryz.func286,Tryz.ntmps286;go_wp2;clear dL hoi;have r0:(w.alloc (.cells #[.int .i64 0,.int .i64 0,.int .i64 0,.int .i64 0] 230)).cell? ⟨w.heap.size,0,none⟩=some (.int .i64 0):=by rw[World.cell?_alloc_at _ _ _ _ rfl];rfl
 have r1:(w.alloc (.cells #[.int .i64 0,.int .i64 0,.int .i64 0,.int .i64 0] 230)).cell? ⟨w.heap.size,1,none⟩=some (.int .i64 0):=by rw[World.cell?_alloc_at _ _ _ _ rfl];rfl
 have r2:(w.alloc (.cells #[.int .i64 0,.int .i64 0,.int .i64 0,.int .i64 0] 230)).cell? ⟨w.heap.size,2,none⟩=some (.int .i64 0):=by rw[World.cell?_alloc_at _ _ _ _ rfl];rfl
 have r3:(w.alloc (.cells #[.int .i64 0,.int .i64 0,.int .i64 0,.int .i64 0] 230)).cell? ⟨w.heap.size,3,none⟩=some (.int .i64 0):=by rw[World.cell?_alloc_at _ _ _ _ rfl];rfl
 have rf:∀k,(w.alloc (.cells #[.int .i64 0,.int .i64 0,.int .i64 0,.int .i64 0] 230)).frozen? ⟨w.heap.size,k,none⟩=false:=λk=>World.frozen?_alloc_at _ _ _ _ rfl;have rs:w.heap.size<(w.alloc (.cells #[.int .i64 0,.int .i64 0,.int .i64 0,.int .i64 0] 230)).heap.size:=by simp
 generalize w.alloc (.cells #[.int .i64 0,.int .i64 0,.int .i64 0,.int .i64 0] 230)=w0 at *;have F:=Lib.hid (And.intro r0 (And.intro r1 (And.intro r2 (And.intro r3 rf))));clear r0 r1 r2 r3 rf;have aQ:=(hP.pv i M).1;have aj:=Lib.hid aQ;clear aQ;have aR:=hP.cl;have aS:=hP.pl;have aT:i<P.conj.length:=by omega
 have bz:i<P.powers.length:=by omega
 have aU:=hP.cv i M;have G:=Lib.hid aU;clear aU;have aV:=Lib.hid aR;have aW:=Lib.hid aS;clear aR aS;go_loopw [7] (λY wr=>∃J:Nat,Y=.int .i64 J/\i+1<=J/\J<=P.orders.length/\Ext w0 wr/\∀m,i<m->m<J->ICond1 P i m) (λY _=>P.orders.length-(intOf Y).toNat)
 case atStart=>exact⟨i+1,by go_num,by omega,by omega,Ext.refl _,λm h1 h2=>by omega⟩
 case round =>
  obtain⟨J,rfl,hJ1,hJ2,e,hc1⟩:=hrel;have aE:=Lib.hid hc1;clear hc1;by_cases l:J<P.orders.length
  ·--<P1
   have j:=L.ext e;obtain⟨ao,capo,dL,hoi⟩:=j.ordAt;obtain⟨bo,oo,rfl,_,_,gW⟩:=Ints.at hoi J l;obtain⟨ap,capp,ak,hpi⟩:=j.powAt;obtain⟨bp,op,aF,N,rfl,_,_,S,T⟩:=Rows2.at hpi J (by have:=aW.out;omega);obtain⟨ac,capc,hcc,gD⟩:=j.conjAt;obtain⟨bc,oc,kR,O,rfl,_,_,jt,iK⟩:=Rows3.at gD i aT;obtain⟨bd,od,aG,Q,rfl,_,_,hcd,Z⟩:=Rows2.at iK (J-i-1) (by rw[G.out.1];omega);have e1:∀w',Ext wr w'->w'.cell? ⟨pb,po,none⟩=some (.slice (some ⟨bo,oo,none⟩) P.orders.length capo):=λw' h=>h.cell dL (by simp);have e2:∀w',Ext wr w'->w'.cell? ⟨pb,po+1,none⟩=some (.slice (some ⟨bp,op,none⟩) P.powers.length capp):=λw' h=>h.cell ak (by simp);have e3:∀w',Ext wr w'->w'.cell? ⟨pb,po+2,none⟩=some (.slice (some ⟨bc,oc,none⟩) P.conj.length capc):=λw' h=>h.cell hcc (by simp);have e4:∀w',Ext wr w'->w'.cell? ⟨bo,oo+J,none⟩=some (.int .i64 (gt P.orders J)):=λw' h=>h.cell gW (by simp);have e5:∀w',Ext wr w'->w'.cell? ⟨bp,op+J,none⟩=some (.slice aF (gt P.powers J).length N):=λw' h=>h.cell S (by simp);have e6:∀w',Ext wr w'->w'.cell? ⟨bc,oc+i,none⟩=some (.slice (some ⟨bd,od,none⟩) (gt P.conj i).length O):=λw' h=>h.cell jt (by simp);have e7:∀w',Ext wr w'->w'.cell? ⟨bd,od+(J-i-1),none⟩=some (.slice aG (gt (gt P.conj i) (J-i-1)).length Q):=λw' h=>h.cell hcd (by simp);have b1:(0:Int)<=(J:Int)-i-1:=by omega
   have b2:(J:Int)-i-1<(gt P.conj i).length:=by rw[G.out.1];omega
   have b3:(i:Int)<P.conj.length:=by omega
   have b4:(J:Int)<P.powers.length:=by have:=aW.out;omega
   have b5:(J:Int)<P.orders.length:=by omega
   have b6:(0:Int)<=J:=by omega
   have b7:((J:Int)-i-1).toNat=J-i-1:=by omega
   have b8:(1:Int)<=(J:Int)-i:=by omega
   have s1:IntKind.i64.wrap ((J:Int)-i)=(J:Int)-i:=IntWalk.i64_in _ (by omega);have s2:IntKind.i64.wrap ((J:Int)-i-1)=(J:Int)-i-1:=IntWalk.i64_in _ (by omega);have aa:=(G.out.2 (J-i-1) (by omega)).1;have ab:=(hP.pv J l).1;have a4:=hP.ord7 J l;have I:=Lib.hid (And.intro aa (And.intro ab a4));clear aa ab a4;have ad:=(iPow_vec hP _ (gt P.orders J) I.out.1).1;have ae:=(iImg_vec hP i M _ I.out.2.1).1;have HL:=Lib.hid (And.intro ad ae);clear ad ae;clear dL gW ak S hcc jt hcd hoi hpi gD iK;have r:=e.cell F.out.1 (by simp);have u:=e.cell F.out.2.1 (by simp);have z:=e.cell F.out.2.2.1 (by simp);have A:=e.cell F.out.2.2.2.1 (by simp);have B:=λk=>frozen_ext e (F.out.2.2.2.2 k) rs;have g:w.heap.size<wr.heap.size:=Nat.lt_of_lt_of_le rs e.size;have b:=Lib.hid (And.intro r (And.intro u (And.intro z (And.intro A B))));clear r u z A B;go_wp2;cases X:eqB (iPow P (gt (gt P.conj i) (J-i-1)) (gt P.orders J)) (iImg P i (gt P.powers J)) with
   | true=>
    have HQ:=Lib.hid X
    go_region_held3 (λw'=>Ext wr w') (first|exact grown_drew _ _|assumption)
     (first
      | (go_at_call 101;refine Calls.mono (Calls.rel (w0:=wr) (by assumption) (power_ok P hP _ _ _ _ _ Any Any (PresP.sub (PresP.ext j (by assumption)) (λ_ _ _=>trivial)) (Ints.sub (Ints.ext Z (by assumption)) (λ_ _ _=>trivial)) I.out.1 (by have:=I.out.2.2;omega))) ?_;rintro eA wA ⟨vA,rfl,H,eW,q⟩)
      | (go_at_call 316;refine Calls.mono (Calls.rel2 (w0:=wr) (by assumption) (imageBy_ok P hP _ _ _ i _ Any Any M (PresP.sub (PresP.ext j (by assumption)) (λ_ _ _=>trivial)) (Ints.sub (Ints.ext T (by assumption)) (λ_ _ _=>trivial)) I.out.2.1)) ?_;rintro eF wF ⟨vF,rfl,iX,C,iL,fP⟩;have D:=(q.ext0 C).ints (by rw[HL.out.1];omega);have E:=fP.ints (by rw[HL.out.2];omega))
      | (go_at_call 151;refine Calls.mono (Calls.rel (w0:=wr) (by assumption) (sEqual_ok _ _ _ _ _ Any Any D E)) ?_;rintro eB wB ⟨vB,rfl,a,hsB,rfl⟩))
    clear e1 e2 e3 e4 e5 e6 e7 s1 s2 b1 b2 b7 b8;go_wp2;go_roundw
    case rel=>exact⟨J+1,by go_num,by omega,by omega,grown_trans e a,λm h1 h2=>by
     rcases Nat.lt_or_ge m J with W|W
     ·exact aE.out m h1 W
     ·have:m=J:=by omega
      rw[this];exact eqB_true.1 HQ.out⟩
    case measure=>simp[intOf];omega
   | false=>
    have HQ:=Lib.hid X
    go_region_held3 (λw'=>Ext wr w') (first|exact grown_drew _ _|assumption)
     (first
      | (go_at_call 101;refine Calls.mono (Calls.rel (w0:=wr) (by assumption) (power_ok P hP _ _ _ _ _ Any Any (PresP.sub (PresP.ext j (by assumption)) (λ_ _ _=>trivial)) (Ints.sub (Ints.ext Z (by assumption)) (λ_ _ _=>trivial)) I.out.1 (by have:=I.out.2.2;omega))) ?_;rintro eA wA ⟨vA,rfl,H,eW,q⟩)
      | (go_at_call 316;refine Calls.mono (Calls.rel2 (w0:=wr) (by assumption) (imageBy_ok P hP _ _ _ i _ Any Any M (PresP.sub (PresP.ext j (by assumption)) (λ_ _ _=>trivial)) (Ints.sub (Ints.ext T (by assumption)) (λ_ _ _=>trivial)) I.out.2.1)) ?_;rintro eF wF ⟨vF,rfl,iX,C,iL,fP⟩;have D:=(q.ext0 C).ints (by rw[HL.out.1];omega);have E:=fP.ints (by rw[HL.out.2];omega))
      | (go_at_call 151;refine Calls.mono (Calls.rel (w0:=wr) (by assumption) (sEqual_ok _ _ _ _ _ Any Any D E)) ?_;rintro eB wB ⟨vB,rfl,a,hsB,rfl⟩))
    clear e1 e2 e3 e4 e5 e6 e7 s1 s2 b1 b2 b7 b8;have c0:=a.cell b.out.1 (by simp);have c1:=a.cell b.out.2.1 (by simp);have c2:=a.cell b.out.2.2.1 (by simp);have c3:=a.cell b.out.2.2.2.1 (by simp);have am:=frozen_ext a (b.out.2.2.2.2 0) g;have an:=frozen_ext a (b.out.2.2.2.2 1) g;have aq:=frozen_ext a (b.out.2.2.2.2 2) g;have ar:=frozen_ext a (b.out.2.2.2.2 3) g;go_wp2;refine bodyPost_ret (v := .agg #[.int .i64 1,.int .i64 i,.int .i64 J,.int .i64 0]) (by simp[results,Tryz.results286,go_sem,c0,c1,c2,c3]) rfl ⟨_,rfl,ext_set4 (grown_trans V (grown_trans e a)) (Nat.le_refl _) _ _ _ _,.inr ⟨λh=>eqB_false.1 HQ.out (h.c1 J (by omega) l),_,_,_,_,by decide,rfl⟩⟩
  -->P1
  ·have ay : ∀m,i<m->m<P.orders.length->ICond1 P i m:=λm h1 h2=>aE.out m h1 (by omega)
   have bF:=Lib.hid ay;clear ay aE;go_wp2;clear l;go_loopw [8] (λY wr=>∃J:Nat,Y=.int .i64 J/\i+1<=J/\J<=P.orders.length/\Ext w0 wr/\∀m n,i<m->m<J->m<n->n<P.orders.length->ICond2 P i m n) (λY _=>P.orders.length-(intOf Y).toNat)
   case atStart=>exact⟨i+1,by go_num,by omega,by omega,e,λm n h1 h2=>by omega⟩
   case round =>
    clear e hJ1 hJ2;obtain⟨J,rfl,hJ1,hJ2,e,hc2⟩:=hrel;have aI:=Lib.hid hc2;clear hc2;by_cases l:J<P.orders.length
    ·--<P2
     have bG:(J:Int)<P.orders.length:=by omega
     go_wp2;go_loopw [9] (λkv wr=>∃K:Nat,kv=.int .i64 K/\J+1<=K/\K<=P.orders.length/\Ext w0 wr/\∀n,J<n->n<K->ICond2 P i J n) (λkv _=>P.orders.length-(intOf kv).toNat)
     case atStart=>exact⟨J+1,by go_num,by omega,by omega,e,λn h1 h2=>by omega⟩
     case round=>
      clear e;obtain⟨K,rfl,hK1,hK2,e,hc3⟩:=hrel;have a9:=Lib.hid hc3;clear hc3;by_cases a':K<P.orders.length
      ·have j:=L.ext e
       obtain⟨ac,capc,hcc,gD⟩:=j.conjAt;obtain⟨bc,oc,kR,O,rfl,_,_,jt,iK⟩:=Rows3.at gD i aT;obtain⟨bd,od,aG,Q,rfl,_,_,hcd,Z⟩:=Rows2.at iK (J-i-1) (by rw[G.out.1];omega);obtain⟨au,lM,bH,aJ,mS,_,_,pH,az⟩:=Rows2.at iK (K-i-1) (by rw[G.out.1];omega);obtain⟨rfl,rfl⟩:au=bd/\lM=od:=by cases mS;exact⟨rfl,rfl⟩
       have U:=(hP.cv J l);obtain⟨av,jK,De,aK,mU,_,_,mV,mW⟩:=Rows3.at gD J (by have:=aV.out;omega);obtain⟨rfl,rfl⟩:av=bc/\jK=oc:=by cases mU;exact⟨rfl,rfl⟩
       obtain⟨ba,mX,bI,aL,rfl,_,_,mY,aA⟩:=Rows2.at mW (K-J-1) (by rw[U.1];omega);clear mS mU;have e3:∀w',Ext wr w'->w'.cell? ⟨pb,po+2,none⟩=some (.slice (some ⟨av,jK,none⟩) P.conj.length capc):=λw' h=>h.cell hcc (by simp);have e6:∀w',Ext wr w'->w'.cell? ⟨av,jK+i,none⟩=some (.slice (some ⟨au,lM,none⟩) (gt P.conj i).length O):=λw' h=>h.cell jt (by simp);have e7:∀w',Ext wr w'->w'.cell? ⟨au,lM+(J-i-1),none⟩=some (.slice aG (gt (gt P.conj i) (J-i-1)).length Q):=λw' h=>h.cell hcd (by simp);have e8:∀w',Ext wr w'->w'.cell? ⟨au,lM+(K-i-1),none⟩=some (.slice bH (gt (gt P.conj i) (K-i-1)).length aJ):=λw' h=>h.cell pH (by simp);have e9:∀w',Ext wr w'->w'.cell? ⟨av,jK+J,none⟩=some (.slice (some ⟨ba,mX,none⟩) (gt P.conj J).length aK):=λw' h=>h.cell mV (by simp);have bb:∀w',Ext wr w'->w'.cell? ⟨ba,mX+(K-J-1),none⟩=some (.slice bI (gt (gt P.conj J) (K-J-1)).length aL):=λw' h=>h.cell mY (by simp);have b1:(0:Int)<=(J:Int)-i-1:=by omega
       have b2:(J:Int)-i-1<(gt P.conj i).length:=by rw[G.out.1];omega
       have b3:(i:Int)<P.conj.length:=by omega
       have b4:(J:Int)<P.conj.length:=by have:=aV.out;omega
       have b7:((J:Int)-i-1).toNat=J-i-1:=by omega
       have b8:(1:Int)<=(J:Int)-i:=by omega
       have k1:(0:Int)<=(K:Int)-i-1:=by omega
       have k2:(K:Int)-i-1<(gt P.conj i).length:=by rw[G.out.1];omega
       have k7:((K:Int)-i-1).toNat=K-i-1:=by omega
       have k8:(1:Int)<=(K:Int)-i:=by omega
       have m1:(0:Int)<=(K:Int)-J-1:=by omega
       have m2:(K:Int)-J-1<(gt P.conj J).length:=by rw[U.1];omega
       have m7:((K:Int)-J-1).toNat=K-J-1:=by omega
       have m8:(1:Int)<=(K:Int)-J:=by omega
       have b5:(K:Int)<P.orders.length:=by omega
       have s1:IntKind.i64.wrap ((J:Int)-i)=(J:Int)-i:=IntWalk.i64_in _ (by omega);have s2:IntKind.i64.wrap ((J:Int)-i-1)=(J:Int)-i-1:=IntWalk.i64_in _ (by omega);have s3:IntKind.i64.wrap ((K:Int)-i)=(K:Int)-i:=IntWalk.i64_in _ (by omega);have s4:IntKind.i64.wrap ((K:Int)-i-1)=(K:Int)-i-1:=IntWalk.i64_in _ (by omega);have s5:IntKind.i64.wrap ((K:Int)-J)=(K:Int)-J:=IntWalk.i64_in _ (by omega);have s6:IntKind.i64.wrap ((K:Int)-J-1)=(K:Int)-J-1:=IntWalk.i64_in _ (by omega);have be:=(G.out.2 (J-i-1) (by omega)).1;have bf:=(G.out.2 (K-i-1) (by omega)).1;have aB:=(U.2 (K-J-1) (by omega)).1;have I:=Lib.hid (And.intro bf (And.intro be aB));clear be bf aB U;have ad:=(iConj_vec hP _ _ I.out.1 I.out.2.1).1;have ae:=(iImg_vec hP i M _ I.out.2.2).1;have HL:=Lib.hid (And.intro ad ae);clear ad ae;clear hcc jt hcd pH mV mY gD iK mW;have r:=e.cell F.out.1 (by simp);have u:=e.cell F.out.2.1 (by simp);have z:=e.cell F.out.2.2.1 (by simp);have A:=e.cell F.out.2.2.2.1 (by simp);have B:=λk=>frozen_ext e (F.out.2.2.2.2 k) rs;have g:w.heap.size<wr.heap.size:=Nat.lt_of_lt_of_le rs e.size;have b:=Lib.hid (And.intro r (And.intro u (And.intro z (And.intro A B))));clear r u z A B;go_wp2;cases X:eqB (iConj P (gt (gt P.conj i) (K-i-1)) (gt (gt P.conj i) (J-i-1))) (iImg P i (gt (gt P.conj J) (K-J-1))) with
       | true=>
        have HQ:=Lib.hid X
        go_region_held3 (λw'=>Ext wr w') (first|exact grown_drew _ _|assumption)
         (first
          | (go_at_call 156;refine Calls.mono (Calls.rel (w0:=wr) (by assumption) (conjugate_ok P hP _ _ _ _ _ _ Any Any Any (PresP.sub (PresP.ext j (by assumption)) (λ_ _ _=>trivial)) (Ints.sub (Ints.ext az (by assumption)) (λ_ _ _=>trivial)) (Ints.sub (Ints.ext Z (by assumption)) (λ_ _ _=>trivial)) I.out.1 I.out.2.1)) ?_;rintro eA wA ⟨vA,rfl,H,eW,q⟩)
          | (go_at_call 316;refine Calls.mono (Calls.rel2 (w0:=wr) (by assumption) (imageBy_ok P hP _ _ _ i _ Any Any M (PresP.sub (PresP.ext j (by assumption)) (λ_ _ _=>trivial)) (Ints.sub (Ints.ext aA (by assumption)) (λ_ _ _=>trivial)) I.out.2.2)) ?_;rintro eF wF ⟨vF,rfl,iX,C,iL,fP⟩;have D:=(q.ext0 C).ints (by rw[HL.out.1];omega);have E:=fP.ints (by rw[HL.out.2];omega))
          | (go_at_call 151;refine Calls.mono (Calls.rel (w0:=wr) (by assumption) (sEqual_ok _ _ _ _ _ Any Any D E)) ?_;rintro eB wB ⟨vB,rfl,a,hsB,rfl⟩))
        clear e3 e6 e7 e8 e9 bb s1 s2 s3 s4 s5 s6 b1 b2 b7 b8 k1 k2 k7 k8 m1 m2 m7 m8;go_wp2;go_roundw
        case rel=>exact⟨K+1,by go_num,by omega,by omega,grown_trans e a,λn h1 h2=>by
         rcases Nat.lt_or_ge n K with W|W
         ·exact a9.out n h1 W
         ·have:n=K:=by omega
          rw[this];exact eqB_true.1 HQ.out⟩
        case measure=>simp[intOf];omega
       | false=>
        have HQ:=Lib.hid X
        go_region_held3 (λw'=>Ext wr w') (first|exact grown_drew _ _|assumption)
         (first
          | (go_at_call 156;refine Calls.mono (Calls.rel (w0:=wr) (by assumption) (conjugate_ok P hP _ _ _ _ _ _ Any Any Any (PresP.sub (PresP.ext j (by assumption)) (λ_ _ _=>trivial)) (Ints.sub (Ints.ext az (by assumption)) (λ_ _ _=>trivial)) (Ints.sub (Ints.ext Z (by assumption)) (λ_ _ _=>trivial)) I.out.1 I.out.2.1)) ?_;rintro eA wA ⟨vA,rfl,H,eW,q⟩)
          | (go_at_call 316;refine Calls.mono (Calls.rel2 (w0:=wr) (by assumption) (imageBy_ok P hP _ _ _ i _ Any Any M (PresP.sub (PresP.ext j (by assumption)) (λ_ _ _=>trivial)) (Ints.sub (Ints.ext aA (by assumption)) (λ_ _ _=>trivial)) I.out.2.2)) ?_;rintro eF wF ⟨vF,rfl,iX,C,iL,fP⟩;have D:=(q.ext0 C).ints (by rw[HL.out.1];omega);have E:=fP.ints (by rw[HL.out.2];omega))
          | (go_at_call 151;refine Calls.mono (Calls.rel (w0:=wr) (by assumption) (sEqual_ok _ _ _ _ _ Any Any D E)) ?_;rintro eB wB ⟨vB,rfl,a,hsB,rfl⟩))
        clear e3 e6 e7 e8 e9 bb s1 s2 s3 s4 s5 s6 b1 b2 b7 b8 k1 k2 k7 k8 m1 m2 m7 m8;have c0:=a.cell b.out.1 (by simp);have c1:=a.cell b.out.2.1 (by simp);have c2:=a.cell b.out.2.2.1 (by simp);have c3:=a.cell b.out.2.2.2.1 (by simp);have am:=frozen_ext a (b.out.2.2.2.2 0) g;have an:=frozen_ext a (b.out.2.2.2.2 1) g;have aq:=frozen_ext a (b.out.2.2.2.2 2) g;have ar:=frozen_ext a (b.out.2.2.2.2 3) g;go_wp2;refine bodyPost_ret (v := .agg #[.int .i64 2,.int .i64 i,.int .i64 J,.int .i64 K]) (by simp[results,Tryz.results286,go_sem,c0,c1,c2,c3]) rfl ⟨_,rfl,ext_set4 (grown_trans V (grown_trans e a)) (Nat.le_refl _) _ _ _ _,.inr ⟨λh=>eqB_false.1 HQ.out (h.c2 J K (by omega) (by omega) a'),_,_,_,_,by decide,rfl⟩⟩
      ·have cz:K=P.orders.length:=by omega
       go_wp2;go_roundw
       case rel=>exact⟨J+1,by go_num,by omega,by omega,e,λm n h1 h2 W h4=>by
         rcases Nat.lt_or_ge m J with h5|h5
         ·exact aI.out m n h1 h5 W h4
         ·have:m=J:=by omega
          subst this;exact a9.out n W (by omega)⟩
       case measure=>simp[intOf];omega
    -->P2
    ·have ag:∀m n,i<m->m<n->n<P.orders.length->ICond2 P i m n:=λm n h1 h2 W=>aI.out m n h1 (by omega) h2 W
     have bJ:=Lib.hid ag;clear ag aI;obtain⟨cB,EK,Df,xD⟩:=L.powAt;obtain⟨bp,op,aF,N,rfl,_,_,Dg,R⟩:=Rows2.at xD i bz;have ak:=e.cell Df (by simp);have S:=e.cell Dg (by simp);have bg:=(iImg_vec hP i M _ aj.out).1;have bK:=Lib.hid bg;clear bg xD;have r:=e.cell F.out.1 (by simp);have u:=e.cell F.out.2.1 (by simp);have z:=e.cell F.out.2.2.1 (by simp);have A:=e.cell F.out.2.2.2.1 (by simp);have B:=λk=>frozen_ext e (F.out.2.2.2.2 k) rs;have g:w.heap.size<wr.heap.size:=Nat.lt_of_lt_of_le rs e.size;have b:=Lib.hid (And.intro r (And.intro u (And.intro z (And.intro A B))));clear r u z A B;go_wp2_with fail
     refine Calls.mono (imageBy_ok P hP wr _ _ i _ Any Any M (PresP.sub (L.ext e) (λ_ _ _=>trivial)) (Ints.sub (Ints.ext R e) (λ_ _ _=>trivial)) aj.out) ?_;rintro eA wA ⟨vA,rfl,H,q⟩;go_wp2_with fail
     refine Calls.mono (sEqual_ok _ _ _ _ wA Any Any (q.ints (by rw[bK.out];omega)) (Ints.sub (Ints.ext R (grown_trans e H)) (λ_ _ _=>trivial))) ?_;rintro eB wB ⟨vB,rfl,jL,rfl⟩;have a:Ext wr wB:=grown_trans H jL;cases X:eqB (iImg P i (gt P.powers i)) (gt P.powers i) with
     | false=>
      have HQ:=Lib.hid X;have c0:=a.cell b.out.1 (by simp);have c1:=a.cell b.out.2.1 (by simp);have c2:=a.cell b.out.2.2.1 (by simp);have c3:=a.cell b.out.2.2.2.1 (by simp);have am:=frozen_ext a (b.out.2.2.2.2 0) g;have an:=frozen_ext a (b.out.2.2.2.2 1) g;have aq:=frozen_ext a (b.out.2.2.2.2 2) g;have ar:=frozen_ext a (b.out.2.2.2.2 3) g;go_wp2;refine bodyPost_ret (v := .agg #[.int .i64 3,.int .i64 i,.int .i64 0,.int .i64 0]) (by simp[results,Tryz.results286,go_sem,c0,c1,c2,c3]) rfl ⟨_,rfl,ext_set4 (grown_trans V (grown_trans e a)) (Nat.le_refl _) _ _ _ _,.inr ⟨λh=>eqB_false.1 HQ.out h.c3,_,_,_,_,by decide,rfl⟩⟩
     | true =>
      have HQ:=Lib.hid (eqB_true.1 X);have bh:=grown_trans e a;clear ak S;go_wp2;clear X;have T:Ints Sp w0 (.slice aF (gt P.powers i).length N) (gt P.powers i):=R;go_loopw [11] (λY wr=>∃J:Nat,Y=.int .i64 J/\i+1<=J/\J<=P.orders.length/\Ext w0 wr/\∀m,i<m->m<J->ICond4 P i m) (λY _=>P.orders.length-(intOf Y).toNat)
      case atStart=>exact⟨i+1,by go_num,by omega,by omega,bh,λm h1 h2=>by omega⟩
      case round=>
       clear e H a bh q hJ1 hJ2 b g jL l;obtain⟨J,rfl,hJ1,hJ2,e,jN⟩:=hrel;have bi:=Lib.hid jN;clear jN;have r:=e.cell F.out.1 (by simp);have u:=e.cell F.out.2.1 (by simp);have z:=e.cell F.out.2.2.1 (by simp);have A:=e.cell F.out.2.2.2.1 (by simp);have B:=λk=>frozen_ext e (F.out.2.2.2.2 k) rs;have g:w.heap.size<wr.heap.size:=Nat.lt_of_lt_of_le rs e.size;have b:=Lib.hid (And.intro r (And.intro u (And.intro z (And.intro A B))));clear r u z A B;by_cases l:J<P.orders.length
       ·have bG:(J:Int)<P.orders.length:=by omega
        go_wp2_with fail
        refine Calls.mono (unitVector_ok P.orders.length J wr l (by omega)) ?_;rintro eU wU ⟨vU,rfl,bj,pI⟩;obtain⟨cC,capo5,dL,hoi⟩:=(L.ext (grown_trans e bj)).ordAt;obtain⟨bo,oo,rfl,_,_,gW⟩:=Ints.at hoi i M;have bL:=pI.ints (by rw[(unitV_vec hP J).1];omega);have aC:=hP.ord7 i M;have cD:0<=gt P.orders i:=by omega
        have cE:gt P.orders i<=7:=aC.2;clear aC;go_wp2;clear dL gW hoi;obtain⟨wo,rfl⟩:∃wo:World,wo=wr:=⟨_,rfl⟩;go_loopw [12,160] (λxv mv w2=>∃m:Nat,mv=.int .i64 m/\m<=(gt P.orders i).toNat/\Ext wo w2/\Ints Any w2 xv (iter m (λx=>iImg P i x) (unitV P.orders.length J))) (λ_ mv _=>(gt P.orders i).toNat-(intOf mv).toNat)
        case atStart=>exact⟨0,rfl,by omega,bj,bL⟩
        case round=>
         obtain⟨m,rfl,hm,ah,hX⟩:=hrel;have bk:Vec P.orders (iter m (λx=>iImg P i x) (unitV P.orders.length J)):=iter_inv (Vec P.orders) _ (λy hy=>iImg_vec hP i M y hy) _ _ (unitV_vec hP J);have aM:=Lib.hid bk;clear bk;by_cases cq:(m:Int)<gt P.orders i
         ·go_wp2_with fail
          refine Calls.mono (imageBy_ok P hP wr _ _ i _ Any Any M (PresP.sub (L.ext (grown_trans e ah)) (λ_ _ _=>trivial)) hX aM.out) ?_;rintro eA wA ⟨vA,rfl,H,q⟩;have bl:=iImg_vec hP i M _ aM.out;have bm:=q.ints (by rw[bl.1];omega);clear bl;go_wp2;go_roundw
          case rel=>exact⟨m+1,by go_num,by omega,grown_trans ah H,bm⟩
          case measure=>simp[intOf];omega
         ·have bn:m=(gt P.orders i).toNat:=by omega
          have bq:=(unitV_vec hP J).1;have br:=aM.out.1;have bs:=(iConj_vec hP _ _ (unitV_vec hP J) aj.out).1;have aN:=Lib.hid (And.intro bq (And.intro br bs));clear bq br bs;have bN:Ints Any wr u12 (iter (gt P.orders i).toNat (λx=>iImg P i x) (unitV P.orders.length J)):=by rw[<-bn];exact hX
          have aD:(iter (gt P.orders i).toNat (λx=>iImg P i x) (unitV P.orders.length J)).length=P.orders.length:=by rw[<-bn];exact aN.out.2.1
          have cr:=Lib.hid aD;clear aD hX;go_wp2_with fail
          refine Calls.mono (unitVector_ok P.orders.length J wr l (by omega)) ?_;rintro eV wV ⟨vV,rfl,aw,bO⟩;go_wp2_with fail
          refine Calls.mono (conjugate_ok P hP wV _ _ _ (unitV P.orders.length J) (gt P.powers i) Any Any Any (PresP.sub (L.ext (grown_trans e (grown_trans ah aw))) (λ_ _ _=>trivial)) (bO.ints (by rw[aN.out.1];omega)) (Ints.sub (Ints.ext T (grown_trans e (grown_trans ah aw))) (λ_ _ _=>trivial)) (unitV_vec hP J) aj.out) ?_;rintro eC wC ⟨vC,rfl,bt,bP⟩;go_wp2_with fail
          refine Calls.mono (sEqual_ok _ _ _ _ wC Any Any (bN.ext (grown_trans aw bt)) (bP.ints (by rw[aN.out.2.2];omega))) ?_;rintro eB wB ⟨vB,rfl,bu,rfl⟩;have a:Ext wo wB:=grown_trans ah (grown_trans aw (grown_trans bt bu));cases X:eqB (iter (gt P.orders i).toNat (λx=>iImg P i x) (unitV P.orders.length J)) (iConj P (unitV P.orders.length J) (gt P.powers i)) with
          | true=>
           have aO:=Lib.hid X;go_wp2;go_roundw
           case rel=>exact⟨J+1,by go_num,by omega,by omega,grown_trans e a,λm h1 h2=>by
            rcases Nat.lt_or_ge m J with W|W
            ·exact bi.out m h1 W
            ·have:m=J:=by omega
             rw[this];exact eqB_true.1 aO.out⟩
           case measure=>simp[intOf];omega
          | false=>
           have aO:=Lib.hid X;have c0:=a.cell b.out.1 (by simp);have c1:=a.cell b.out.2.1 (by simp);have c2:=a.cell b.out.2.2.1 (by simp);have c3:=a.cell b.out.2.2.2.1 (by simp);have am:=frozen_ext a (b.out.2.2.2.2 0) g;have an:=frozen_ext a (b.out.2.2.2.2 1) g;have aq:=frozen_ext a (b.out.2.2.2.2 2) g;have ar:=frozen_ext a (b.out.2.2.2.2 3) g;go_wp2;refine bodyPost_ret (v := .agg #[.int .i64 4,.int .i64 i,.int .i64 J,.int .i64 0]) (by simp[results,Tryz.results286,go_sem,c0,c1,c2,c3]) rfl ⟨_,rfl,ext_set4 (grown_trans V (grown_trans e a)) (Nat.le_refl _) _ _ _ _,.inr ⟨λh=>eqB_false.1 aO.out (h.c4 J (by omega) l),_,_,_,_,by decide,rfl⟩⟩
       ·have bQ:J=P.orders.length:=by omega
        subst bQ;have c0:=b.out.1;have c1:=b.out.2.1;have c2:=b.out.2.2.1;have c3:=b.out.2.2.2.1;have am:=b.out.2.2.2.2 0;have an:=b.out.2.2.2.2 1;have aq:=b.out.2.2.2.2 2;have ar:=b.out.2.2.2.2 3;go_wp2;refine bodyPost_ret (v := .agg #[.int .i64 0,.int .i64 0,.int .i64 0,.int .i64 0]) (by simp[results,Tryz.results286,go_sem,c0,c1,c2,c3]) rfl ⟨_,rfl,ext_set4 (grown_trans V e) (Nat.le_refl _) _ _ _ _,.inl ⟨⟨bF.out,bJ.out,HQ.out,bi.out⟩,rfl⟩⟩
end Go.Proofs.YtdcobapnlpeaaaaGreat
