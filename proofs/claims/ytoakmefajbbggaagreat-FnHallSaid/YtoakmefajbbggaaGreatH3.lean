/- Merged from templates. -/
import Derived.Test.YtoakmefajbbggaaGreatH2
import Derived.Deep.LoopGhost
set_option maxRecDepth 100000
set_option maxHeartbeats 8000000
namespace Go.Proofs.YtoakmefajbbggaaGreat
open Go.RowKit
def left_ (o x:Int):Nat:=if x=0 then 0 else (o-x).toNat
def invTo (P:Pr) (a:List Int):Nat->List Int × List Int
 | 0=>(a,List.replicate a.length 0)
 | k+1=>
  let s:=invTo P a k
  let m:=left_ (gt P.orders k) (gt s.1 k)
  (iter m (λe=>tg P e k) s.1,iter m (λe=>tg P e k) s.2)
def iInv (P:Pr) (a:List Int):List Int:=(invTo P a a.length).2
theorem iter_tg {P:Pr}(hP:Valid P) (e:List Int) (k:Nat) (hk:k<P.orders.length) (a:Vec P.orders e) (j:gt e k≠0) (s:Nat) (l:s<=left_ (gt P.orders k) (gt e k)) :
  Vec P.orders (iter s (λe=>tg P e k) e)/\gt (iter s (λe=>tg P e k) e) k=if s=left_ (gt P.orders k) (gt e k) then 0 else gt e k+s:=by
 have hx:=a.2 k hk;have m:left_ (gt P.orders k) (gt e k)=(gt P.orders k-gt e k).toNat:=by unfold left_;rw[if_neg j]
 rw[m] at l ⊢;induction s with
 | zero=>exact⟨a,by rw[if_neg (by omega)];simp[iter]⟩
 | succ s p=>
  obtain⟨h1,b⟩:=p (by omega);refine⟨tg_vec hP _ k h1 hk,?_⟩;show gt (tg P (iter s (λe=>tg P e k) e) k) k=_
  have q:=(tgen_entries hP P.orders.length (iter s (λe=>tg P e k) e) k h1 hk (by omega)).2;rw[if_neg (by omega)] at b;have r:gt (tg P (iter s (λe=>tg P e k) e) k) k=if gt (iter s (λe=>tg P e k) e) k+1=gt P.orders k then 0 else gt (iter s (λe=>tg P e k) e) k+1:=q
  rw[r,b];by_cases i:gt e k+s+1=gt P.orders k
  ·rw[if_pos i,if_pos (by omega)]
  ·rw[if_neg i,if_neg (by omega)];omega
theorem invTo_vec {P:Pr}(hP:Valid P) (a:List Int) (ha:Vec P.orders a) (k:Nat) (hk:k<=P.orders.length):Vec P.orders (invTo P a k).1/\Vec P.orders (invTo P a k).2:=by
 induction k with
 | zero=>exact⟨ha,zeros_vec' hP ha⟩
 | succ k b=>
  obtain⟨h1,e⟩:=b (by omega);exact⟨iter_inv (Vec P.orders) _ (λy hy=>tg_vec hP y k hy (by omega)) _ _ h1,iter_inv (Vec P.orders) _ (λy hy=>tg_vec hP y k hy (by omega)) _ _ e⟩
theorem invert_ok (P:Pr) (hP:Valid P) (w:World) (p a:Value) (A:List Int) (Sp Sa:Nat->Prop) (hp:PresP Sp w p P) (ha:Ints Sa w a A) (hA:Vec P.orders A) :
  Calls Tryz.prog 127 #[p,a] w (Ret w λw' v=>Own w.heap.size w' v (iInv P A)):=by
 have aB:=hP.n6;have aC:A.length<=P.orders.length/\P.orders.length<=A.length:=by rw[hA.1];omega
 obtain⟨aa,capa,rfl,_,_⟩:=ha.shape;go_enter Tryz.func127,Tryz.ntmps127;go_wp2_with fail
 refine Calls.mono (clone_ok w _ A Sa ha (by omega)) ?_;rintro e1 C ⟨r,rfl,hg1,hR⟩;have L:=hR.ints (by omega);obtain⟨ar,b,rfl,_,_⟩:=L.shape;go_wp2_with (at_make;refine wp_make_ints rfl _ _ rfl C.heap.size A.length C.heap.size rfl _ rfl rfl rfl (by omega) (Nat.le_refl _) ?_;intro w2 M N _)
 generalize Value.slice (some ⟨C.heap.size,0,none⟩) A.length A.length=t at *;have O:=hR.ext0 N;have E:=hR.lt;have af:=Lib.hid E;clear L hR E;have ag:Ext w w2:=grown_trans hg1 N;have F:=hg1.size;go_loopw [15] (λi wr=>∃k:Nat,i=.int .i64 k/\k<=A.length/\Ext w wr/\Own w.heap.size wr (.slice ar A.length b) (invTo P A k).1/\Own C.heap.size wr t (invTo P A k).2) (λi _=>A.length-(intOf i).toNat)
 case atStart=>exact⟨0,rfl,by omega,ag,O,M⟩
 case round=>
  clear O M;obtain⟨k,rfl,hk,G,hO,B⟩:=hrel;obtain⟨j,hv2⟩:=invTo_vec hP A hA k (by omega);have H:=Lib.hid j;have ah:=Lib.hid hv2;by_cases aE:k<A.length
  ·have hx:=j.2 k (by omega)
   have Q:=hP.ord7 k (by omega);obtain⟨g,capg,I,_,_⟩:=hO.form (by rw[j.1];omega);have l:(invTo P A k).1.length=A.length:=by rw[j.1,hA.1]
   rw[l] at I;have m:invTo P A (k+1)=(iter (left_ (gt P.orders k) (gt (invTo P A k).1 k)) (λe=>tg P e k) (invTo P A k).1,iter (left_ (gt P.orders k) (gt (invTo P A k).1 k)) (λe=>tg P e k) (invTo P A k).2):=rfl;have S:=Lib.hid m;clear m;obtain⟨rfl,hcg⟩:ar=some ⟨g,0,none⟩/\b=capg:=by cases I;exact⟨rfl,rfl⟩
   clear I hcg j hv2;have U:=B.lt;have aF:g<C.heap.size:=(af.out g rfl).2;have aG:=Lib.hid U;clear U;generalize V:(invTo P A k).1=R at *;generalize W:(invTo P A k).2=T at *;have aH:=Lib.hid V;have aI:=Lib.hid W;clear V W;have aJ:0<=gt R k:=hx.1;have aK:gt R k<gt P.orders k:=hx.2;have av:gt P.orders k<=7:=Q.2;have aw:=Lib.hid l;clear l hx Q;go_wp2;go_loopg [21] (left_ (gt P.orders k) (gt R k)) (λgk u wr=>∃s:Nat,gk+s=left_ (gt P.orders k) (gt R k)/\Ext w wr/\Own w.heap.size wr (.slice (some ⟨g,0,none⟩) A.length b) (iter s (λe=>tg P e k) R)/\Own C.heap.size wr t (iter s (λe=>tg P e k) T))
   case atStart=>exact⟨0,by omega,G,hO,B⟩
   case round=>
    clear G hO B;obtain⟨s,hs,G,hO,B⟩:=hrel
    have J:Vec P.orders (iter s (λe=>tg P e k) R)/\Vec P.orders (iter s (λe=>tg P e k) T):=
     ⟨iter_inv (Vec P.orders) _ (λy hy=>tg_vec hP y k hy (by omega)) _ _ H.out,iter_inv (Vec P.orders) _ (λy hy=>tg_vec hP y k hy (by omega)) _ _ ah.out⟩
    have X:=Lib.hid J;have hc:=hO.cell k (by rw[J.1.1];omega);clear J;by_cases D:s=left_ (gt P.orders k) (gt R k)
    ·have Y:gt (iter s (λe=>tg P e k) R) k=0:=by
      by_cases K:gt R k=0
      ·have:s=0:=by rw[D];unfold left_;rw[if_pos K]
       rw[this];exact K
      ·rw[(iter_tg hP R k (by omega) H.out K s (by omega)).2,if_pos D]
     rw[Y] at hc;have Z:Own w.heap.size wr (.slice (some ⟨g,0,none⟩) A.length b) (invTo P A (k+1)).1:=by rw[S.out,<-D];exact hO
     have ab:Own C.heap.size wr t (invTo P A (k+1)).2:=by rw[S.out,<-D];exact B
     have ai:=Lib.hid Z;have aj:=Lib.hid ab;clear Z ab hO B D Y;go_wp2;go_roundw
     case rel=>exact⟨k+1,by go_num,by omega,G,ai.out,aj.out⟩
     case measure=>simp[intOf];omega
    ·have Y:gt (iter s (λe=>tg P e k) R) k≠0:=by
      by_cases K:gt R k=0
      ·exfalso;apply D
       have:left_ (gt P.orders k) (gt R k)=0:=by unfold left_;rw[if_pos K]
       omega
      ·rw[(iter_tg hP R k (by omega) H.out K s (by omega)).2,if_neg D];omega
     have ak:(gt (iter s (λe=>tg P e k) R) k != 0)=true:=by simpa using Y
     have HM:=Lib.hid D;clear D Y;go_wp2_with fail
     refine Calls.mono (timesGenerator_ok P hP w.heap.size wr p _ _ k (hp.mono (off_of hO (Nat.le_refl _) G)) hO X.out.1 (by omega)) ?_;rintro e3 w3 ⟨v3,rfl,ac,rfl,hO3⟩;have ad:=mut_ext G hO (Nat.le_refl _) ac
     have z:Own C.heap.size w3 t (iter s (λe=>tg P e k) T):=B.ext ac (by
      cases hb:t.ownBlock with
      | none=>exact .inl rfl
      | some q=>exact .inr (λh=>by have h:some q=some g:=h;cases h;have:=(B.lt _ hb).1;omega))
     go_wp2_with fail
     refine Calls.mono (timesGenerator_ok P hP C.heap.size w3 p t _ k (hp.mono (off_of z F ad)) z X.out.2 (by omega)) ?_;rintro e4 w4 ⟨v4,rfl,hg4,rfl,hT4⟩;have am:=mut_ext ad z F hg4
     have an:=hO3.ext hg4 (by
      cases hb:t.ownBlock with
      | none=>exact .inr (by simp[Value.ownBlock])
      | some q=>exact .inr (λh=>by have h:some g=some q:=h;cases h;have:=(z.lt _ hb).1;omega))
     clear hc ak hO B hO3 z;go_wp2;go_roundg (gk-1)
     case measure=>have:=HM.out;omega
     case rel=>exact⟨s+1,by have:=HM.out;omega,am,an,hT4⟩
  ·have ao:k=A.length:=by omega
   subst ao;go_wp2;go_ret;exact⟨_,rfl,G,B.weak F⟩
theorem iInv_vec {P:Pr}(hP:Valid P) (a:List Int) (ha:Vec P.orders a):Vec P.orders (iInv P a):=(invTo_vec hP a ha a.length (by rw[ha.1];omega)).2
def iConj (P:Pr) (a b:List Int):List Int:=tv P (iInv P b) (tv P a b)
theorem conjugate_ok (P:Pr) (hP:Valid P) (w:World) (p a b:Value) (A B:List Int) (j z k:Nat->Prop) (l:PresP j w p P) (ha:Ints z w a A) (C:Ints k w b B) (u:Vec P.orders A) (hB:Vec P.orders B) :
  Calls Tryz.prog 161 #[p,a,b] w (Ret w λw' v=>Own w.heap.size w' v (iConj P A B)):=by
 have D:=hP.n6;have E:(iInv P B).length<=6:=by rw[(iInv_vec hP B hB).1];omega
 have F:(tv P A B).length<=6:=by rw[(tv_vec hP A B u hB).1];omega
 go_enter Tryz.func161,Tryz.ntmps161;go_wp2_with fail
 refine Calls.mono (invert_ok P hP w p b B j k l C hB) ?_;rintro K G ⟨r,rfl,e,H⟩;go_wp2_with fail
 refine Calls.mono (multiply_ok P hP G p a b A B j z k (l.ext e) (ha.ext e) (C.ext e) u hB) ?_;rintro L I ⟨m,rfl,i,J⟩;go_wp2_with fail
 refine Calls.mono (multiply_ok P hP I p r m _ _ j Any Any (l.ext (grown_trans e i)) ((H.ext0 i).ints (by omega)) (J.ints (by omega)) (iInv_vec hP B hB) (tv_vec hP A B u hB)) ?_;rintro M N ⟨q,rfl,y,hQ⟩;go_wp2;go_ret;exact⟨_,rfl,grown_trans (grown_trans e i) y,hQ.weak (by have:=e.size;have:=i.size;omega)⟩
def iImg (P:Pr) (i:Nat) (x:List Int):List Int:=rImgTo (tv P) (gt P.conj i) i x (List.replicate x.length 0) (gt P.conj i).length
theorem iImgTo_vec {P:Pr}(hP:Valid P) (i:Nat) (a:i<P.orders.length) (x out:List Int) (b:Vec P.orders out) (k:Nat) (hk:k<=(gt P.conj i).length) :
  Vec P.orders (rImgTo (tv P) (gt P.conj i) i x out k):=by
 have e:=hP.cv i a;induction k with
 | zero=>exact b
 | succ k j=>
  unfold rImgTo;exact iter_inv (Vec P.orders) _ (λy hy=>tv_vec hP _ _ hy (e.2 k (by omega)).1) _ _ (j (by omega))
theorem imageBy_ok (P:Pr) (hP:Valid P) (w:World) (p x:Value) (i:Nat) (X:List Int) (S T:Nat->Prop) (B:i<P.orders.length) (C:PresP S w p P) (hx:Ints T w x X) (D:Vec P.orders X) :
  Calls Tryz.prog 266 #[p,.int .i64 i,x] w (Ret w λw' v=>Own w.heap.size w' v (iImg P i X)):=by
 have U:=hP.n6;have V:X.length<=P.orders.length/\P.orders.length<=X.length:=by rw[D.1];omega
 obtain⟨pb,po,rfl⟩:=C.shape;obtain⟨ax,capx,rfl,_,_⟩:=hx.shape;have E:i<P.conj.length:=by rw[hP.cl];omega
 have e:=(hP.cv i B).1;have W:(gt P.conj i).length+i+1<=P.orders.length:=by omega
 have Y:=Lib.hid e;clear e;obtain⟨ac,capc,hcc0,hci0⟩:=C.conjAt;obtain⟨bc,oc,ac2,capc2,rfl,_,_,hc20,hi20⟩:=Rows3.at hci0 i E;go_enter Tryz.func266,Tryz.ntmps266;go_wp2_with (at_make;refine wp_make_ints rfl _ _ rfl w.heap.size X.length w.heap.size rfl _ rfl rfl rfl (by omega) (Nat.le_refl _) ?_;intro w1 j b _;have F:=b.cell hcc0 (by simp);have G:=b.cell hc20 (by simp))
 clear F G hci0 hcc0 hc20;generalize Value.slice (some ⟨w.heap.size,0,none⟩) X.length X.length=t at *;go_loopw [21] (λii wr=>∃k:Nat,ii=.int .i64 k/\k<=(gt P.conj i).length/\Ext w wr/\Own w.heap.size wr t (rImgTo (tv P) (gt P.conj i) i X (List.replicate X.length 0) k)) (λii _=>(gt P.conj i).length-(intOf ii).toNat)
 case atStart=>exact⟨0,rfl,by omega,b,j⟩
 case round=>
  clear j;obtain⟨k,rfl,hk,a,hO⟩:=hrel;by_cases H:k<(gt P.conj i).length
  ·have l:=iImgTo_vec hP i B X _ (zeros_vec' hP D) k hk
   have Z:=Lib.hid l;clear l;have q:=((hP.cv i B).2 k (by omega)).1;have r:=Lib.hid q;clear q;have aa:((i:Int)+1+k).toNat=i+1+k:=by omega
   have ab:(i:Int)+1+k<X.length:=by omega
   obtain⟨bx,ox,rfl,_,_,hcx⟩:=Ints.at (hx.ext a) (i+1+k) (by omega);have u:=D.2 (i+1+k) (by omega);have I:=hP.ord7 (i+1+k) (by omega);have ad:0<=gt X (i+1+k):=u.1;have ae:gt X (i+1+k)<=7:=by omega
   clear u I;obtain⟨bd,od,ad2,capd2,rfl,_,_,hcd0,hid⟩:=Rows2.at hi20 k H;have J:=a.cell hcd0 (by simp);go_wp2;go_loopw [33] (λK z=>∃m:Nat,K=.int .i64 m/\m<=(gt X (i+1+k)).toNat/\Ext w z/\Own w.heap.size z t (iter m (λout=>tv P out (gt (gt P.conj i) k)) (rImgTo (tv P) (gt P.conj i) i X (List.replicate X.length 0) k))) (λK _=>(gt X (i+1+k)).toNat-(intOf K).toNat)
   case atStart=>exact⟨0,rfl,by omega,a,hO⟩
   case round=>
    clear a hO hcx J hcd0;obtain⟨m,rfl,hm,a,hO⟩:=hrel;by_cases R:(m:Int)<gt X (i+1+k)
    ·have A:Vec P.orders (iter m (λout=>tv P out (gt (gt P.conj i) k)) (rImgTo (tv P) (gt P.conj i) i X (List.replicate X.length 0) k)):=iter_inv (Vec P.orders) _ (λy hy=>tv_vec hP y _ hy r.out) _ _ Z.out
     have L:=Lib.hid A;clear A;go_wp2_with fail
     refine Calls.mono (timesVector_ok P hP w.heap.size wr _ t _ _ _ (C.mono (off_of hO (Nat.le_refl _) a)) hO L.out (hid.mono (off_of hO (Nat.le_refl _) a)) r.out) ?_;rintro e3 w3 ⟨v3,rfl,M,rfl,hO3⟩;have N:=mut_ext a hO (Nat.le_refl _) M;go_wp2;go_roundw
     case rel=>exact⟨m+1,by go_num,by omega,N,hO3⟩
     case measure=>simp[intOf];omega
    ·have O:m=(gt X (i+1+k)).toNat:=by omega
     subst O;go_wp2;go_roundw
     case rel=>exact⟨k+1,by go_num,by omega,a,hO⟩
     case measure=>simp[intOf];omega
  ·have Q:k=(gt P.conj i).length:=by omega
   subst Q;go_wp2;go_ret;exact⟨_,rfl,a,hO⟩
def rRepF (m:List Int->List Int->List Int):Nat->List Int->List Int->Nat->List Int
 | 0,out,_,_=>out
 | f+1,out,base,k=>if k=0 then out else rRepF m f (if k%2=1 then m out base else out) (m base base) (k/2)
def rRep (m:List Int->List Int->List Int) (out base:List Int) (k:Nat):List Int:=rRepF m k out base k
theorem rRepF_eq (m:List Int->List Int->List Int):∀(f g:Nat) (out base:List Int) (k:Nat),k<=f->k<=g->rRepF m f out base k=rRepF m g out base k:=by
 intro f;induction f with
 | zero=>
  intro g out base k a b;have:k=0:=by omega
  subst this;cases g<;>simp[rRepF]
 | succ f e=>
  intro g out base k a b;cases g with
  | zero=>
   have:k=0:=by omega
   subst this;simp[rRepF]
  | succ g=>
   simp only[rRepF];split
   ·rfl
   ·exact e g _ _ _ (by omega) (by omega)
theorem rRep_step (m:List Int->List Int->List Int) (out base:List Int) (k:Nat) (hk:0<k):rRep m out base k=rRep m (if k%2=1 then m out base else out) (m base base) (k/2):=by
 unfold rRep;obtain⟨j,rfl⟩:∃j,k=j+1:=⟨k-1,by omega⟩;show(if j+1=0 then out else rRepF m j _ _ ((j+1)/2))=_
 rw[if_neg (by omega)];exact rRepF_eq m _ _ _ _ _ (by omega) (Nat.le_refl _)
theorem l08Repeat_ok (P:Pr) (hP:Valid P) (w:World) (pv x:Value) (i f:Nat) (I:i+f=P.orders.length) (X:List Int) (k:Int) (Sp Sx:Nat->Prop) (hp:PresV Sp w pv P) (hx:Ints Sx w x X) (hX:Vec P.orders X) (aj:0<=k) (hk:k<=1000000000) :
  Calls Tryz.prog 278 #[pv,.int .i64 i,x,.int .i64 k] w (Ret w λw' v=>Own w.heap.size w' v (rRep (rAt P f i) (zeros P.orders.length) X k.toNat)):=by
 obtain⟨vo,vp,vc,rfl,h3⟩:=hp;have ak:=hP.n6;have z:=PresP.box h3 28;have A:Ext w (w.alloc (.cells #[vo,vp,vc] 28)):=World.grownBy_alloc _ _ _;have J:=hx.ext A;have al:X.length<=P.orders.length/\P.orders.length<=X.length:=by rw[hX.1];omega
 have K:(w.alloc (.cells #[vo,vp,vc] 28)).heap.size=w.heap.size+1:=by simp
 have HS:=Lib.hid K;clear K hx;go_enter Tryz.func278,Tryz.ntmps278;obtain⟨ao,capo,hco,hoi⟩:=z.ordAt;go_wp2_with (at_make;refine wp_make_ints rfl _ _ rfl (w.heap.size+1) P.orders.length (w.heap.size+1) (by simp) _ rfl rfl rfl (by omega) (by simp) ?_;intro S T q ac)
 clear hco hoi;have L:=z.ext q;have M:=J.ext q;have r:Ext w S:=grown_trans A q;obtain⟨ax,capx,rfl,_,_⟩:=M.shape;clear z J q A;generalize u:rRep (rAt P f i) (zeros P.orders.length) X k.toNat=res at *;have y:=Lib.hid u;clear u;have am:w.heap.size<=S.heap.size:=r.size;go_loopw [3,9,10] (λkv ov bv wr=>∃(m:Nat) (O B:List Int),kv=.int .i64 m/\m<=k.toNat/\Ext S wr/\Own w.heap.size wr ov O/\Ints Any wr bv B/\Vec P.orders O/\Vec P.orders B/\rRep (rAt P f i) O B m=res) (λkv _ _ _=>(intOf kv).toNat)
 case atStart=>exact⟨k.toNat,_,X,by congr 1;omega,Nat.le_refl _,Ext.refl _,T.weak (by omega),Ints.sub M (λ_ _ _=>trivial),zeros_vec hP,hX,y.out⟩
 case round=>
  obtain⟨m,O,B,rfl,hm,N,hO,hB,C,hvB,hr⟩:=hrel;have D:=Lib.hid C;have b:=Lib.hid hvB;have U:=Lib.hid hr;clear hr;obtain⟨aq,vp9,vc9,_,_,hc0,hc1,hc2,h39⟩:=(L.ext N).at;obtain⟨ab,capb,rfl,_,_⟩:=hB.shape;have V:=hO.ints (by rw[C.1];omega);have Q:=hvB.1;clear C hvB;have ar:=Lib.hid Q;clear Q;by_cases R:0<m
  ·by_cases j:m%2=1
   ·have W:(((m:Int).tmod 2) == 1)=true:=by
     rw[Int.tmod_eq_emod_of_nonneg (by omega)];simp;omega
    have E:(((m:Int)%2) == 1)=true:=by simp;omega
    have F:=Lib.hid j;clear j;go_wp2_with fail
    refine Calls.mono (l08At_ok P hP f wr _ _ _ i O B Any Any Any I ⟨_,_,_,rfl,h39⟩ V hB D.out b.out) ?_;rintro e2 w2 ⟨v2,rfl,e,Y⟩;have ad:=e.cell hc0 (by simp);have ae:=e.cell hc1 (by simp);have af:=e.cell hc2 (by simp);go_wp2_with fail
    refine Calls.mono (l08At_ok P hP f w2 _ _ _ i B B Any Any Any I ⟨_,_,_,rfl,h39.ext e⟩ (hB.ext e) (hB.ext e) b.out b.out) ?_;rintro e3 w3 ⟨v3,rfl,l,hO3⟩;have a:=rAt_vec hP f i B B I b.out b.out;have G:=hO3.ints (by rw[a.1];omega);have H:=Lib.hid a;clear a W E;have p:=(Y.ext0 l).weak (base':=w.heap.size) (by have:=N.size;omega);go_wp2;go_roundw
    case rel=>exact⟨m/2,_,_,by first|rfl|(congr 1;omega)|congr 1,by omega,grown_trans (grown_trans N e) l,p,G,rAt_vec hP f i O B I D.out b.out,H.out,by rw[<-U.out,rRep_step _ O B m R,if_pos F.out]⟩
    case measure=>simp[intOf];omega
   ·have W:(((m:Int).tmod 2) == 1)=false:=by
     rw[Int.tmod_eq_emod_of_nonneg (by omega)];simp;omega
    have E:(((m:Int)%2) == 1)=false:=by simp;omega
    have F:=Lib.hid j;clear j;go_wp2_with fail
    refine Calls.mono (l08At_ok P hP f wr _ _ _ i B B Any Any Any I ⟨_,_,_,rfl,h39⟩ hB hB b.out b.out) ?_;rintro e3 w3 ⟨v3,rfl,l,hO3⟩;have a:=rAt_vec hP f i B B I b.out b.out;have G:=hO3.ints (by rw[a.1];omega);have H:=Lib.hid a;clear a W E;have p:=hO.ext0 l;go_wp2;go_roundw
    case rel=>exact⟨m/2,_,_,by first|rfl|(congr 1;omega)|congr 1,by omega,grown_trans N l,p,G,D.out,H.out,by rw[<-U.out,rRep_step _ O B m R,if_neg F.out]⟩
    case measure=>simp[intOf];omega
  ·have Z:m=0:=by omega
   subst Z;have HO:Hid (Own w.heap.size wr u9 res):=by rw[<-U.out];exact hO
   go_wp2;go_ret;exact⟨_,rfl,grown_trans r N,by show Own _ _ _ _;rw[y.out];exact HO.out⟩
def ICond1 (P:Pr) (i J:Nat):Prop:=iPow P (gt (gt P.conj i) (J-i-1)) (gt P.orders J)=iImg P i (gt P.powers J)
def ICond2 (P:Pr) (i J K:Nat):Prop:=iConj P (gt (gt P.conj i) (K-i-1)) (gt (gt P.conj i) (J-i-1))=iImg P i (gt (gt P.conj J) (K-J-1))
def ICond3 (P:Pr) (i:Nat):Prop:=iImg P i (gt P.powers i)=gt P.powers i
def ICond4 (P:Pr) (i J:Nat):Prop:=iter (gt P.orders i).toNat (λx=>iImg P i x) (unitV P.orders.length J)=iConj P (unitV P.orders.length J) (gt P.powers i)
structure ILevel (P:Pr) (i:Nat):Prop where
 c1:∀J,i<J->J<P.orders.length->ICond1 P i J
 c2:∀J K,i<J->J<K->K<P.orders.length->ICond2 P i J K
 c3:ICond3 P i
 c4:∀J,i<J->J<P.orders.length->ICond4 P i J
theorem frozen_ext {w w':World}{a:Addr}(b:Ext w w') (h:w.frozen? a=false) (e:a.block<w.heap.size):w'.frozen? a=false:=by
 rw[World.frozen?_of_block (w:=w) (b.block a.block e (by simp))];exact h
theorem ext_set4 {w p:World}{l:Nat}(q:Ext w p) (r:w.heap.size<=l) (a b c d:Value) :
  Ext w ((((p.setCell ⟨l,0,none⟩ a).setCell ⟨l,1,none⟩ b).setCell ⟨l,2,none⟩ c).setCell ⟨l,3,none⟩ d):=by
 have h1:∀(W:World) (k:Nat) (v:Value),W.grownBy (W.setCell ⟨l,k,none⟩ v) (some l):=λW k v=>
  ⟨rfl,rfl,rfl,by simp[World.setCell],λj _ m=>Below.heap_setCell _ _ _ _ (by intro e;exact m (by rw[e]))⟩
 have i:∀j,some l=some j->j<w.heap.size->none=some j:=λj m u=>by cases m;omega
 exact grown_own (grown_own (grown_own (grown_own q (h1 _ _ _) i) (h1 _ _ _) i) (h1 _ _ _) i) (h1 _ _ _) i
def fault0:Value := .agg #[.int .i64 0,.int .i64 0,.int .i64 0,.int .i64 0]
def FaultR (e:Prop) (v:Value):Prop:=(e/\v=fault0)\/(¬e/\∃a b c d:Int,a≠0/\v=.agg #[.int .i64 a,.int .i64 b,.int .i64 c,.int .i64 d])
theorem iImg_vec {P:Pr}(hP:Valid P) (i:Nat) (a:i<P.orders.length) (x:List Int) (hx:Vec P.orders x):Vec P.orders (iImg P i x):=
 iImgTo_vec hP i a x _ (zeros_vec' hP hx) _ (Nat.le_refl _)
theorem iConj_vec {P:Pr}(hP:Valid P) (a b:List Int) (ha:Vec P.orders a) (e:Vec P.orders b):Vec P.orders (iConj P a b):=
 tv_vec hP _ _ (iInv_vec hP b e) (tv_vec hP a b ha e)
theorem unitV_vec {P:Pr}(hP:Valid P) (j:Nat):Vec P.orders (unitV P.orders.length j):=by
 refine⟨by simp[unitV],λi a => ?_⟩;have:=hP.ord7 i a;by_cases h:j=i
 ·subst h;unfold unitV;rw[gt_set_eq _ _ _ (by simpa using a)];omega
 ·unfold unitV;rw[gt_set_ne _ _ _ _ h,gt_replicate];omega
theorem levelFault_ok (P:Pr) (hP:Valid P) (w:World) (p:Value) (i:Nat) (Sp:Nat->Prop) (hp:PresP Sp w p P) (N:i<P.orders.length) :
  Calls Tryz.prog 223 #[p,.int .i64 i] w (Ret w λ_ v=>FaultR (ILevel P i) v):=by
 have ct:=hP.n6;obtain⟨pb,po,rfl⟩:=hp.shape;have W:Ext w (w.alloc (.cells #[.int .i64 0,.int .i64 0,.int .i64 0,.int .i64 0] 190)):=World.grownBy_alloc _ _ _;have M:=hp.ext W;obtain⟨ao,capo,hco,hoi⟩:=M.ordAt;go_enter Tryz.func223,Tryz.ntmps223;go_wp2;clear hco hoi;have r0:(w.alloc (.cells #[.int .i64 0,.int .i64 0,.int .i64 0,.int .i64 0] 190)).cell? ⟨w.heap.size,0,none⟩=some (.int .i64 0):=by rw[World.cell?_alloc_at _ _ _ _ rfl];rfl
 have r1:(w.alloc (.cells #[.int .i64 0,.int .i64 0,.int .i64 0,.int .i64 0] 190)).cell? ⟨w.heap.size,1,none⟩=some (.int .i64 0):=by rw[World.cell?_alloc_at _ _ _ _ rfl];rfl
 have r2:(w.alloc (.cells #[.int .i64 0,.int .i64 0,.int .i64 0,.int .i64 0] 190)).cell? ⟨w.heap.size,2,none⟩=some (.int .i64 0):=by rw[World.cell?_alloc_at _ _ _ _ rfl];rfl
 have r3:(w.alloc (.cells #[.int .i64 0,.int .i64 0,.int .i64 0,.int .i64 0] 190)).cell? ⟨w.heap.size,3,none⟩=some (.int .i64 0):=by rw[World.cell?_alloc_at _ _ _ _ rfl];rfl
 have rf:∀k,(w.alloc (.cells #[.int .i64 0,.int .i64 0,.int .i64 0,.int .i64 0] 190)).frozen? ⟨w.heap.size,k,none⟩=false:=λk=>World.frozen?_alloc_at _ _ _ _ rfl;have rs:w.heap.size<(w.alloc (.cells #[.int .i64 0,.int .i64 0,.int .i64 0,.int .i64 0] 190)).heap.size:=by simp
 generalize w.alloc (.cells #[.int .i64 0,.int .i64 0,.int .i64 0,.int .i64 0] 190)=w0 at *;have G:=Lib.hid (And.intro r0 (And.intro r1 (And.intro r2 (And.intro r3 rf))));clear r0 r1 r2 r3 rf;have aQ:=(hP.pv i N).1;have aj:=Lib.hid aQ;clear aQ;have aR:=hP.cl;have aS:=hP.pl;have aT:i<P.conj.length:=by omega
 have bz:i<P.powers.length:=by omega
 have aU:=hP.cv i N;have H:=Lib.hid aU;clear aU;have aV:=Lib.hid aR;have aW:=Lib.hid aS;clear aR aS;go_loopw [7] (λZ wr=>∃J:Nat,Z=.int .i64 J/\i+1<=J/\J<=P.orders.length/\Ext w0 wr/\∀m,i<m->m<J->ICond1 P i m) (λZ _=>P.orders.length-(intOf Z).toNat)
 case atStart=>exact⟨i+1,by go_num,by omega,by omega,Ext.refl _,λm h1 h2=>by omega⟩
 case round =>
  obtain⟨J,rfl,hJ1,hJ2,e,hc1⟩:=hrel;have aE:=Lib.hid hc1;clear hc1;by_cases q:J<P.orders.length
  ·--<P1
   have l:=M.ext e;obtain⟨ao,capo,hco,hoi⟩:=l.ordAt;obtain⟨bo,oo,rfl,_,_,hcoi⟩:=Ints.at hoi J q;obtain⟨ap,capp,ak,hpi⟩:=l.powAt;obtain⟨bp,op,aF,O,rfl,_,_,T,U⟩:=Rows2.at hpi J (by have:=aW.out;omega);obtain⟨ac,capc,hcc,hci⟩:=l.conjAt;obtain⟨bc,oc,ac2,Q,rfl,_,_,hcci,hcii⟩:=Rows3.at hci i aT;obtain⟨bd,od,aG,R,rfl,_,_,hcd,hid⟩:=Rows2.at hcii (J-i-1) (by rw[H.out.1];omega);have e1:∀w',Ext wr w'->w'.cell? ⟨pb,po,none⟩=some (.slice (some ⟨bo,oo,none⟩) P.orders.length capo):=λw' h=>h.cell hco (by simp);have e2:∀w',Ext wr w'->w'.cell? ⟨pb,po+1,none⟩=some (.slice (some ⟨bp,op,none⟩) P.powers.length capp):=λw' h=>h.cell ak (by simp);have e3:∀w',Ext wr w'->w'.cell? ⟨pb,po+2,none⟩=some (.slice (some ⟨bc,oc,none⟩) P.conj.length capc):=λw' h=>h.cell hcc (by simp);have e4:∀w',Ext wr w'->w'.cell? ⟨bo,oo+J,none⟩=some (.int .i64 (gt P.orders J)):=λw' h=>h.cell hcoi (by simp);have e5:∀w',Ext wr w'->w'.cell? ⟨bp,op+J,none⟩=some (.slice aF (gt P.powers J).length O):=λw' h=>h.cell T (by simp);have e6:∀w',Ext wr w'->w'.cell? ⟨bc,oc+i,none⟩=some (.slice (some ⟨bd,od,none⟩) (gt P.conj i).length Q):=λw' h=>h.cell hcci (by simp);have e7:∀w',Ext wr w'->w'.cell? ⟨bd,od+(J-i-1),none⟩=some (.slice aG (gt (gt P.conj i) (J-i-1)).length R):=λw' h=>h.cell hcd (by simp);have b1:(0:Int)<=(J:Int)-i-1:=by omega
   have b2:(J:Int)-i-1<(gt P.conj i).length:=by rw[H.out.1];omega
   have b3:(i:Int)<P.conj.length:=by omega
   have b4:(J:Int)<P.powers.length:=by have:=aW.out;omega
   have b5:(J:Int)<P.orders.length:=by omega
   have b6:(0:Int)<=J:=by omega
   have b7:((J:Int)-i-1).toNat=J-i-1:=by omega
   have b8:(1:Int)<=(J:Int)-i:=by omega
   have s1:IntKind.i64.wrap ((J:Int)-i)=(J:Int)-i:=IntWalk.i64_in _ (by omega);have s2:IntKind.i64.wrap ((J:Int)-i-1)=(J:Int)-i-1:=IntWalk.i64_in _ (by omega);have aa:=(H.out.2 (J-i-1) (by omega)).1;have ab:=(hP.pv J q).1;have a4:=hP.ord7 J q;have L:=Lib.hid (And.intro aa (And.intro ab a4));clear aa ab a4;have ad:=(iPow_vec hP _ (gt P.orders J) L.out.1).1;have ae:=(iImg_vec hP i N _ L.out.2.1).1;have HL:=Lib.hid (And.intro ad ae);clear ad ae;clear hco hcoi ak T hcc hcci hcd hoi hpi hci hcii;have u:=e.cell G.out.1 (by simp);have z:=e.cell G.out.2.1 (by simp);have A:=e.cell G.out.2.2.1 (by simp);have B:=e.cell G.out.2.2.2.1 (by simp);have C:=λk=>frozen_ext e (G.out.2.2.2.2 k) rs;have j:w.heap.size<wr.heap.size:=Nat.lt_of_lt_of_le rs e.size;have b:=Lib.hid (And.intro u (And.intro z (And.intro A (And.intro B C))));clear u z A B C;go_wp2;cases Y:eqB (iPow P (gt (gt P.conj i) (J-i-1)) (gt P.orders J)) (iImg P i (gt P.powers J)) with
   | true=>
    have HQ:=Lib.hid Y
    go_region_held3 (λw'=>Ext wr w') (first|exact grown_drew _ _|assumption)
     (first
      | (go_at_call 196;refine Calls.mono (Calls.rel (w0:=wr) (by assumption) (power_ok P hP _ _ _ _ _ Any Any (PresP.sub (PresP.ext l (by assumption)) (λ_ _ _=>trivial)) (Ints.sub (Ints.ext hid (by assumption)) (λ_ _ _=>trivial)) L.out.1 (by have:=L.out.2.2;omega))) ?_;rintro eA wA ⟨vA,rfl,I,hsA,r⟩)
      | (go_at_call 266;refine Calls.mono (Calls.rel2 (w0:=wr) (by assumption) (imageBy_ok P hP _ _ _ i _ Any Any N (PresP.sub (PresP.ext l (by assumption)) (λ_ _ _=>trivial)) (Ints.sub (Ints.ext U (by assumption)) (λ_ _ _=>trivial)) L.out.2.1)) ?_;rintro eF wF ⟨vF,rfl,hgF,D,hsF,hOF⟩;have E:=(r.ext0 D).ints (by rw[HL.out.1];omega);have F:=hOF.ints (by rw[HL.out.2];omega))
      | (go_at_call 147;refine Calls.mono (Calls.rel (w0:=wr) (by assumption) (sEqual_ok _ _ _ _ _ Any Any E F)) ?_;rintro eB wB ⟨vB,rfl,a,hsB,rfl⟩))
    clear e1 e2 e3 e4 e5 e6 e7 s1 s2 b1 b2 b7 b8;go_wp2;go_roundw
    case rel=>exact⟨J+1,by go_num,by omega,by omega,grown_trans e a,λm h1 h2=>by
     rcases Nat.lt_or_ge m J with X|X
     ·exact aE.out m h1 X
     ·have:m=J:=by omega
      rw[this];exact eqB_true.1 HQ.out⟩
    case measure=>simp[intOf];omega
   | false=>
    have HQ:=Lib.hid Y
    go_region_held3 (λw'=>Ext wr w') (first|exact grown_drew _ _|assumption)
     (first
      | (go_at_call 196;refine Calls.mono (Calls.rel (w0:=wr) (by assumption) (power_ok P hP _ _ _ _ _ Any Any (PresP.sub (PresP.ext l (by assumption)) (λ_ _ _=>trivial)) (Ints.sub (Ints.ext hid (by assumption)) (λ_ _ _=>trivial)) L.out.1 (by have:=L.out.2.2;omega))) ?_;rintro eA wA ⟨vA,rfl,I,hsA,r⟩)
      | (go_at_call 266;refine Calls.mono (Calls.rel2 (w0:=wr) (by assumption) (imageBy_ok P hP _ _ _ i _ Any Any N (PresP.sub (PresP.ext l (by assumption)) (λ_ _ _=>trivial)) (Ints.sub (Ints.ext U (by assumption)) (λ_ _ _=>trivial)) L.out.2.1)) ?_;rintro eF wF ⟨vF,rfl,hgF,D,hsF,hOF⟩;have E:=(r.ext0 D).ints (by rw[HL.out.1];omega);have F:=hOF.ints (by rw[HL.out.2];omega))
      | (go_at_call 147;refine Calls.mono (Calls.rel (w0:=wr) (by assumption) (sEqual_ok _ _ _ _ _ Any Any E F)) ?_;rintro eB wB ⟨vB,rfl,a,hsB,rfl⟩))
    clear e1 e2 e3 e4 e5 e6 e7 s1 s2 b1 b2 b7 b8;have c0:=a.cell b.out.1 (by simp);have c1:=a.cell b.out.2.1 (by simp);have c2:=a.cell b.out.2.2.1 (by simp);have c3:=a.cell b.out.2.2.2.1 (by simp);have am:=frozen_ext a (b.out.2.2.2.2 0) j;have an:=frozen_ext a (b.out.2.2.2.2 1) j;have aq:=frozen_ext a (b.out.2.2.2.2 2) j;have ar:=frozen_ext a (b.out.2.2.2.2 3) j;go_wp2;refine bodyPost_ret (v := .agg #[.int .i64 1,.int .i64 i,.int .i64 J,.int .i64 0]) (by simp[results,Tryz.results223,go_sem,c0,c1,c2,c3]) rfl ⟨_,rfl,ext_set4 (grown_trans W (grown_trans e a)) (Nat.le_refl _) _ _ _ _,.inr ⟨λh=>eqB_false.1 HQ.out (h.c1 J (by omega) q),_,_,_,_,by decide,rfl⟩⟩
  -->P1
  ·have ay : ∀m,i<m->m<P.orders.length->ICond1 P i m:=λm h1 h2=>aE.out m h1 (by omega)
   have bF:=Lib.hid ay;clear ay aE;go_wp2;clear q;go_loopw [8] (λZ wr=>∃J:Nat,Z=.int .i64 J/\i+1<=J/\J<=P.orders.length/\Ext w0 wr/\∀m n,i<m->m<J->m<n->n<P.orders.length->ICond2 P i m n) (λZ _=>P.orders.length-(intOf Z).toNat)
   case atStart=>exact⟨i+1,by go_num,by omega,by omega,e,λm n h1 h2=>by omega⟩
   case round =>
    clear e hJ1 hJ2;obtain⟨J,rfl,hJ1,hJ2,e,hc2⟩:=hrel;have aI:=Lib.hid hc2;clear hc2;by_cases q:J<P.orders.length
    ·--<P2
     have bG:(J:Int)<P.orders.length:=by omega
     go_wp2;go_loopw [9] (λkv wr=>∃K:Nat,kv=.int .i64 K/\J+1<=K/\K<=P.orders.length/\Ext w0 wr/\∀n,J<n->n<K->ICond2 P i J n) (λkv _=>P.orders.length-(intOf kv).toNat)
     case atStart=>exact⟨J+1,by go_num,by omega,by omega,e,λn h1 h2=>by omega⟩
     case round=>
      clear e;obtain⟨K,rfl,hK1,hK2,e,hc3⟩:=hrel;have a9:=Lib.hid hc3;clear hc3;by_cases a':K<P.orders.length
      ·have l:=M.ext e
       obtain⟨ac,capc,hcc,hci⟩:=l.conjAt;obtain⟨bc,oc,ac2,Q,rfl,_,_,hcci,hcii⟩:=Rows3.at hci i aT;obtain⟨bd,od,aG,R,rfl,_,_,hcd,hid⟩:=Rows2.at hcii (J-i-1) (by rw[H.out.1];omega);obtain⟨au,od2,bH,aJ,hbd2,_,_,hcdK,az⟩:=Rows2.at hcii (K-i-1) (by rw[H.out.1];omega);obtain⟨rfl,rfl⟩:au=bd/\od2=od:=by cases hbd2;exact⟨rfl,rfl⟩
       have V:=(hP.cv J q);obtain⟨av,oc5,ac5,aK,hbc5,_,_,hccJ,hciJ⟩:=Rows3.at hci J (by have:=aV.out;omega);obtain⟨rfl,rfl⟩:av=bc/\oc5=oc:=by cases hbc5;exact⟨rfl,rfl⟩
       obtain⟨ba,od6,bI,aL,rfl,_,_,hcdJ,aA⟩:=Rows2.at hciJ (K-J-1) (by rw[V.1];omega);clear hbd2 hbc5;have e3:∀w',Ext wr w'->w'.cell? ⟨pb,po+2,none⟩=some (.slice (some ⟨av,oc5,none⟩) P.conj.length capc):=λw' h=>h.cell hcc (by simp);have e6:∀w',Ext wr w'->w'.cell? ⟨av,oc5+i,none⟩=some (.slice (some ⟨au,od2,none⟩) (gt P.conj i).length Q):=λw' h=>h.cell hcci (by simp);have e7:∀w',Ext wr w'->w'.cell? ⟨au,od2+(J-i-1),none⟩=some (.slice aG (gt (gt P.conj i) (J-i-1)).length R):=λw' h=>h.cell hcd (by simp);have e8:∀w',Ext wr w'->w'.cell? ⟨au,od2+(K-i-1),none⟩=some (.slice bH (gt (gt P.conj i) (K-i-1)).length aJ):=λw' h=>h.cell hcdK (by simp);have e9:∀w',Ext wr w'->w'.cell? ⟨av,oc5+J,none⟩=some (.slice (some ⟨ba,od6,none⟩) (gt P.conj J).length aK):=λw' h=>h.cell hccJ (by simp);have bb:∀w',Ext wr w'->w'.cell? ⟨ba,od6+(K-J-1),none⟩=some (.slice bI (gt (gt P.conj J) (K-J-1)).length aL):=λw' h=>h.cell hcdJ (by simp);have b1:(0:Int)<=(J:Int)-i-1:=by omega
       have b2:(J:Int)-i-1<(gt P.conj i).length:=by rw[H.out.1];omega
       have b3:(i:Int)<P.conj.length:=by omega
       have b4:(J:Int)<P.conj.length:=by have:=aV.out;omega
       have b7:((J:Int)-i-1).toNat=J-i-1:=by omega
       have b8:(1:Int)<=(J:Int)-i:=by omega
       have k1:(0:Int)<=(K:Int)-i-1:=by omega
       have k2:(K:Int)-i-1<(gt P.conj i).length:=by rw[H.out.1];omega
       have k7:((K:Int)-i-1).toNat=K-i-1:=by omega
       have k8:(1:Int)<=(K:Int)-i:=by omega
       have m1:(0:Int)<=(K:Int)-J-1:=by omega
       have m2:(K:Int)-J-1<(gt P.conj J).length:=by rw[V.1];omega
       have m7:((K:Int)-J-1).toNat=K-J-1:=by omega
       have m8:(1:Int)<=(K:Int)-J:=by omega
       have b5:(K:Int)<P.orders.length:=by omega
       have s1:IntKind.i64.wrap ((J:Int)-i)=(J:Int)-i:=IntWalk.i64_in _ (by omega);have s2:IntKind.i64.wrap ((J:Int)-i-1)=(J:Int)-i-1:=IntWalk.i64_in _ (by omega);have s3:IntKind.i64.wrap ((K:Int)-i)=(K:Int)-i:=IntWalk.i64_in _ (by omega);have s4:IntKind.i64.wrap ((K:Int)-i-1)=(K:Int)-i-1:=IntWalk.i64_in _ (by omega);have s5:IntKind.i64.wrap ((K:Int)-J)=(K:Int)-J:=IntWalk.i64_in _ (by omega);have s6:IntKind.i64.wrap ((K:Int)-J-1)=(K:Int)-J-1:=IntWalk.i64_in _ (by omega);have be:=(H.out.2 (J-i-1) (by omega)).1;have bf:=(H.out.2 (K-i-1) (by omega)).1;have aB:=(V.2 (K-J-1) (by omega)).1;have L:=Lib.hid (And.intro bf (And.intro be aB));clear be bf aB V;have ad:=(iConj_vec hP _ _ L.out.1 L.out.2.1).1;have ae:=(iImg_vec hP i N _ L.out.2.2).1;have HL:=Lib.hid (And.intro ad ae);clear ad ae;clear hcc hcci hcd hcdK hccJ hcdJ hci hcii hciJ;have u:=e.cell G.out.1 (by simp);have z:=e.cell G.out.2.1 (by simp);have A:=e.cell G.out.2.2.1 (by simp);have B:=e.cell G.out.2.2.2.1 (by simp);have C:=λk=>frozen_ext e (G.out.2.2.2.2 k) rs;have j:w.heap.size<wr.heap.size:=Nat.lt_of_lt_of_le rs e.size;have b:=Lib.hid (And.intro u (And.intro z (And.intro A (And.intro B C))));clear u z A B C;go_wp2;cases Y:eqB (iConj P (gt (gt P.conj i) (K-i-1)) (gt (gt P.conj i) (J-i-1))) (iImg P i (gt (gt P.conj J) (K-J-1))) with
       | true=>
        have HQ:=Lib.hid Y
        go_region_held3 (λw'=>Ext wr w') (first|exact grown_drew _ _|assumption)
         (first
          | (go_at_call 161;refine Calls.mono (Calls.rel (w0:=wr) (by assumption) (conjugate_ok P hP _ _ _ _ _ _ Any Any Any (PresP.sub (PresP.ext l (by assumption)) (λ_ _ _=>trivial)) (Ints.sub (Ints.ext az (by assumption)) (λ_ _ _=>trivial)) (Ints.sub (Ints.ext hid (by assumption)) (λ_ _ _=>trivial)) L.out.1 L.out.2.1)) ?_;rintro eA wA ⟨vA,rfl,I,hsA,r⟩)
          | (go_at_call 266;refine Calls.mono (Calls.rel2 (w0:=wr) (by assumption) (imageBy_ok P hP _ _ _ i _ Any Any N (PresP.sub (PresP.ext l (by assumption)) (λ_ _ _=>trivial)) (Ints.sub (Ints.ext aA (by assumption)) (λ_ _ _=>trivial)) L.out.2.2)) ?_;rintro eF wF ⟨vF,rfl,hgF,D,hsF,hOF⟩;have E:=(r.ext0 D).ints (by rw[HL.out.1];omega);have F:=hOF.ints (by rw[HL.out.2];omega))
          | (go_at_call 147;refine Calls.mono (Calls.rel (w0:=wr) (by assumption) (sEqual_ok _ _ _ _ _ Any Any E F)) ?_;rintro eB wB ⟨vB,rfl,a,hsB,rfl⟩))
        clear e3 e6 e7 e8 e9 bb s1 s2 s3 s4 s5 s6 b1 b2 b7 b8 k1 k2 k7 k8 m1 m2 m7 m8;go_wp2;go_roundw
        case rel=>exact⟨K+1,by go_num,by omega,by omega,grown_trans e a,λn h1 h2=>by
         rcases Nat.lt_or_ge n K with X|X
         ·exact a9.out n h1 X
         ·have:n=K:=by omega
          rw[this];exact eqB_true.1 HQ.out⟩
        case measure=>simp[intOf];omega
       | false=>
        have HQ:=Lib.hid Y
        go_region_held3 (λw'=>Ext wr w') (first|exact grown_drew _ _|assumption)
         (first
          | (go_at_call 161;refine Calls.mono (Calls.rel (w0:=wr) (by assumption) (conjugate_ok P hP _ _ _ _ _ _ Any Any Any (PresP.sub (PresP.ext l (by assumption)) (λ_ _ _=>trivial)) (Ints.sub (Ints.ext az (by assumption)) (λ_ _ _=>trivial)) (Ints.sub (Ints.ext hid (by assumption)) (λ_ _ _=>trivial)) L.out.1 L.out.2.1)) ?_;rintro eA wA ⟨vA,rfl,I,hsA,r⟩)
          | (go_at_call 266;refine Calls.mono (Calls.rel2 (w0:=wr) (by assumption) (imageBy_ok P hP _ _ _ i _ Any Any N (PresP.sub (PresP.ext l (by assumption)) (λ_ _ _=>trivial)) (Ints.sub (Ints.ext aA (by assumption)) (λ_ _ _=>trivial)) L.out.2.2)) ?_;rintro eF wF ⟨vF,rfl,hgF,D,hsF,hOF⟩;have E:=(r.ext0 D).ints (by rw[HL.out.1];omega);have F:=hOF.ints (by rw[HL.out.2];omega))
          | (go_at_call 147;refine Calls.mono (Calls.rel (w0:=wr) (by assumption) (sEqual_ok _ _ _ _ _ Any Any E F)) ?_;rintro eB wB ⟨vB,rfl,a,hsB,rfl⟩))
        clear e3 e6 e7 e8 e9 bb s1 s2 s3 s4 s5 s6 b1 b2 b7 b8 k1 k2 k7 k8 m1 m2 m7 m8;have c0:=a.cell b.out.1 (by simp);have c1:=a.cell b.out.2.1 (by simp);have c2:=a.cell b.out.2.2.1 (by simp);have c3:=a.cell b.out.2.2.2.1 (by simp);have am:=frozen_ext a (b.out.2.2.2.2 0) j;have an:=frozen_ext a (b.out.2.2.2.2 1) j;have aq:=frozen_ext a (b.out.2.2.2.2 2) j;have ar:=frozen_ext a (b.out.2.2.2.2 3) j;go_wp2;refine bodyPost_ret (v := .agg #[.int .i64 2,.int .i64 i,.int .i64 J,.int .i64 K]) (by simp[results,Tryz.results223,go_sem,c0,c1,c2,c3]) rfl ⟨_,rfl,ext_set4 (grown_trans W (grown_trans e a)) (Nat.le_refl _) _ _ _ _,.inr ⟨λh=>eqB_false.1 HQ.out (h.c2 J K (by omega) (by omega) a'),_,_,_,_,by decide,rfl⟩⟩
      ·have cA:K=P.orders.length:=by omega
       go_wp2;go_roundw
       case rel=>exact⟨J+1,by go_num,by omega,by omega,e,λm n h1 h2 X h4=>by
         rcases Nat.lt_or_ge m J with h5|h5
         ·exact aI.out m n h1 h5 X h4
         ·have:m=J:=by omega
          subst this;exact a9.out n X (by omega)⟩
       case measure=>simp[intOf];omega
    -->P2
    ·have ag:∀m n,i<m->m<n->n<P.orders.length->ICond2 P i m n:=λm n h1 h2 X=>aI.out m n h1 (by omega) h2 X
     have bJ:=Lib.hid ag;clear ag aI;obtain⟨cC,capp0,hcp0,hpi0⟩:=M.powAt;obtain⟨bp,op,aF,O,rfl,_,_,hcpi0,S⟩:=Rows2.at hpi0 i bz;have ak:=e.cell hcp0 (by simp);have T:=e.cell hcpi0 (by simp);have bg:=(iImg_vec hP i N _ aj.out).1;have bK:=Lib.hid bg;clear bg hpi0;have u:=e.cell G.out.1 (by simp);have z:=e.cell G.out.2.1 (by simp);have A:=e.cell G.out.2.2.1 (by simp);have B:=e.cell G.out.2.2.2.1 (by simp);have C:=λk=>frozen_ext e (G.out.2.2.2.2 k) rs;have j:w.heap.size<wr.heap.size:=Nat.lt_of_lt_of_le rs e.size;have b:=Lib.hid (And.intro u (And.intro z (And.intro A (And.intro B C))));clear u z A B C;go_wp2_with fail
     refine Calls.mono (imageBy_ok P hP wr _ _ i _ Any Any N (PresP.sub (M.ext e) (λ_ _ _=>trivial)) (Ints.sub (Ints.ext S e) (λ_ _ _=>trivial)) aj.out) ?_;rintro eA wA ⟨vA,rfl,I,r⟩;go_wp2_with fail
     refine Calls.mono (sEqual_ok _ _ _ _ wA Any Any (r.ints (by rw[bK.out];omega)) (Ints.sub (Ints.ext S (grown_trans e I)) (λ_ _ _=>trivial))) ?_;rintro eB wB ⟨vB,rfl,hgAB,rfl⟩;have a:Ext wr wB:=grown_trans I hgAB;cases Y:eqB (iImg P i (gt P.powers i)) (gt P.powers i) with
     | false=>
      have HQ:=Lib.hid Y;have c0:=a.cell b.out.1 (by simp);have c1:=a.cell b.out.2.1 (by simp);have c2:=a.cell b.out.2.2.1 (by simp);have c3:=a.cell b.out.2.2.2.1 (by simp);have am:=frozen_ext a (b.out.2.2.2.2 0) j;have an:=frozen_ext a (b.out.2.2.2.2 1) j;have aq:=frozen_ext a (b.out.2.2.2.2 2) j;have ar:=frozen_ext a (b.out.2.2.2.2 3) j;go_wp2;refine bodyPost_ret (v := .agg #[.int .i64 3,.int .i64 i,.int .i64 0,.int .i64 0]) (by simp[results,Tryz.results223,go_sem,c0,c1,c2,c3]) rfl ⟨_,rfl,ext_set4 (grown_trans W (grown_trans e a)) (Nat.le_refl _) _ _ _ _,.inr ⟨λh=>eqB_false.1 HQ.out h.c3,_,_,_,_,by decide,rfl⟩⟩
     | true =>
      have HQ:=Lib.hid (eqB_true.1 Y);have bh:=grown_trans e a;clear ak T;go_wp2;clear Y;have U:Ints Sp w0 (.slice aF (gt P.powers i).length O) (gt P.powers i):=S;go_loopw [11] (λZ wr=>∃J:Nat,Z=.int .i64 J/\i+1<=J/\J<=P.orders.length/\Ext w0 wr/\∀m,i<m->m<J->ICond4 P i m) (λZ _=>P.orders.length-(intOf Z).toNat)
      case atStart=>exact⟨i+1,by go_num,by omega,by omega,bh,λm h1 h2=>by omega⟩
      case round=>
       clear e I a bh r hJ1 hJ2 b j hgAB q;obtain⟨J,rfl,hJ1,hJ2,e,hc4⟩:=hrel;have bi:=Lib.hid hc4;clear hc4;have u:=e.cell G.out.1 (by simp);have z:=e.cell G.out.2.1 (by simp);have A:=e.cell G.out.2.2.1 (by simp);have B:=e.cell G.out.2.2.2.1 (by simp);have C:=λk=>frozen_ext e (G.out.2.2.2.2 k) rs;have j:w.heap.size<wr.heap.size:=Nat.lt_of_lt_of_le rs e.size;have b:=Lib.hid (And.intro u (And.intro z (And.intro A (And.intro B C))));clear u z A B C;by_cases q:J<P.orders.length
       ·have bG:(J:Int)<P.orders.length:=by omega
        go_wp2_with fail
        refine Calls.mono (unitVector_ok P.orders.length J wr q (by omega)) ?_;rintro eU wU ⟨vU,rfl,bj,hOU⟩;obtain⟨cD,capo5,hco,hoi⟩:=(M.ext (grown_trans e bj)).ordAt;obtain⟨bo,oo,rfl,_,_,hcoi⟩:=Ints.at hoi i N;have bL:=hOU.ints (by rw[(unitV_vec hP J).1];omega);have aC:=hP.ord7 i N;have cE:0<=gt P.orders i:=by omega
        have cF:gt P.orders i<=7:=aC.2;clear aC;go_wp2;clear hco hcoi hoi;obtain⟨wo,rfl⟩:∃wo:World,wo=wr:=⟨_,rfl⟩;go_loopw [12,160] (λxv mv w2=>∃m:Nat,mv=.int .i64 m/\m<=(gt P.orders i).toNat/\Ext wo w2/\Ints Any w2 xv (iter m (λx=>iImg P i x) (unitV P.orders.length J))) (λ_ mv _=>(gt P.orders i).toNat-(intOf mv).toNat)
        case atStart=>exact⟨0,rfl,by omega,bj,bL⟩
        case round=>
         obtain⟨m,rfl,hm,ah,hX⟩:=hrel;have bk:Vec P.orders (iter m (λx=>iImg P i x) (unitV P.orders.length J)):=iter_inv (Vec P.orders) _ (λy hy=>iImg_vec hP i N y hy) _ _ (unitV_vec hP J);have aM:=Lib.hid bk;clear bk;by_cases cr:(m:Int)<gt P.orders i
         ·go_wp2_with fail
          refine Calls.mono (imageBy_ok P hP wr _ _ i _ Any Any N (PresP.sub (M.ext (grown_trans e ah)) (λ_ _ _=>trivial)) hX aM.out) ?_;rintro eA wA ⟨vA,rfl,I,r⟩;have bl:=iImg_vec hP i N _ aM.out;have bm:=r.ints (by rw[bl.1];omega);clear bl;go_wp2;go_roundw
          case rel=>exact⟨m+1,by go_num,by omega,grown_trans ah I,bm⟩
          case measure=>simp[intOf];omega
         ·have bn:m=(gt P.orders i).toNat:=by omega
          have bq:=(unitV_vec hP J).1;have br:=aM.out.1;have bs:=(iConj_vec hP _ _ (unitV_vec hP J) aj.out).1;have aN:=Lib.hid (And.intro bq (And.intro br bs));clear bq br bs;have bN:Ints Any wr u12 (iter (gt P.orders i).toNat (λx=>iImg P i x) (unitV P.orders.length J)):=by rw[<-bn];exact hX
          have aD:(iter (gt P.orders i).toNat (λx=>iImg P i x) (unitV P.orders.length J)).length=P.orders.length:=by rw[<-bn];exact aN.out.2.1
          have cs:=Lib.hid aD;clear aD hX;go_wp2_with fail
          refine Calls.mono (unitVector_ok P.orders.length J wr q (by omega)) ?_;rintro eV wV ⟨vV,rfl,aw,bO⟩;go_wp2_with fail
          refine Calls.mono (conjugate_ok P hP wV _ _ _ (unitV P.orders.length J) (gt P.powers i) Any Any Any (PresP.sub (M.ext (grown_trans e (grown_trans ah aw))) (λ_ _ _=>trivial)) (bO.ints (by rw[aN.out.1];omega)) (Ints.sub (Ints.ext U (grown_trans e (grown_trans ah aw))) (λ_ _ _=>trivial)) (unitV_vec hP J) aj.out) ?_;rintro eC wC ⟨vC,rfl,bt,bP⟩;go_wp2_with fail
          refine Calls.mono (sEqual_ok _ _ _ _ wC Any Any (bN.ext (grown_trans aw bt)) (bP.ints (by rw[aN.out.2.2];omega))) ?_;rintro eB wB ⟨vB,rfl,bu,rfl⟩;have a:Ext wo wB:=grown_trans ah (grown_trans aw (grown_trans bt bu));cases Y:eqB (iter (gt P.orders i).toNat (λx=>iImg P i x) (unitV P.orders.length J)) (iConj P (unitV P.orders.length J) (gt P.powers i)) with
          | true=>
           have aO:=Lib.hid Y;go_wp2;go_roundw
           case rel=>exact⟨J+1,by go_num,by omega,by omega,grown_trans e a,λm h1 h2=>by
            rcases Nat.lt_or_ge m J with X|X
            ·exact bi.out m h1 X
            ·have:m=J:=by omega
             rw[this];exact eqB_true.1 aO.out⟩
           case measure=>simp[intOf];omega
          | false=>
           have aO:=Lib.hid Y;have c0:=a.cell b.out.1 (by simp);have c1:=a.cell b.out.2.1 (by simp);have c2:=a.cell b.out.2.2.1 (by simp);have c3:=a.cell b.out.2.2.2.1 (by simp);have am:=frozen_ext a (b.out.2.2.2.2 0) j;have an:=frozen_ext a (b.out.2.2.2.2 1) j;have aq:=frozen_ext a (b.out.2.2.2.2 2) j;have ar:=frozen_ext a (b.out.2.2.2.2 3) j;go_wp2;refine bodyPost_ret (v := .agg #[.int .i64 4,.int .i64 i,.int .i64 J,.int .i64 0]) (by simp[results,Tryz.results223,go_sem,c0,c1,c2,c3]) rfl ⟨_,rfl,ext_set4 (grown_trans W (grown_trans e a)) (Nat.le_refl _) _ _ _ _,.inr ⟨λh=>eqB_false.1 aO.out (h.c4 J (by omega) q),_,_,_,_,by decide,rfl⟩⟩
       ·have bQ:J=P.orders.length:=by omega
        subst bQ;have c0:=b.out.1;have c1:=b.out.2.1;have c2:=b.out.2.2.1;have c3:=b.out.2.2.2.1;have am:=b.out.2.2.2.2 0;have an:=b.out.2.2.2.2 1;have aq:=b.out.2.2.2.2 2;have ar:=b.out.2.2.2.2 3;go_wp2;refine bodyPost_ret (v := .agg #[.int .i64 0,.int .i64 0,.int .i64 0,.int .i64 0]) (by simp[results,Tryz.results223,go_sem,c0,c1,c2,c3]) rfl ⟨_,rfl,ext_set4 (grown_trans W e) (Nat.le_refl _) _ _ _ _,.inl ⟨⟨bF.out,bJ.out,HQ.out,bi.out⟩,rfl⟩⟩
def RCond1 (P:Pr) (f i J:Nat):Prop:=rRep (rAt P f (i+1)) (zeros P.orders.length) (gt (gt P.conj i) (J-i-1)) (gt P.orders J).toNat=rImage P f i (gt P.powers J)
def RCond2 (P:Pr) (f i J K:Nat):Prop:=rAt P f (i+1) (gt (gt P.conj i) (K-i-1)) (gt (gt P.conj i) (J-i-1))=rAt P f (i+1) (gt (gt P.conj i) (J-i-1)) (rImage P f i (gt (gt P.conj J) (K-J-1)))
def RCond3 (P:Pr) (f i:Nat):Prop:=rImage P f i (gt P.powers i)=gt P.powers i
def RCond4 (P:Pr) (f i J:Nat):Prop:=rAt P f (i+1) (gt P.powers i) (iter (gt P.orders i).toNat (λx=>rImage P f i x) (unitV P.orders.length J))=rAt P f (i+1) (unitV P.orders.length J) (gt P.powers i)
structure RLevel (P:Pr) (f i:Nat):Prop where
 c1:∀J,i<J->J<P.orders.length->RCond1 P f i J
 c2:∀J K,i<J->J<K->K<P.orders.length->RCond2 P f i J K
 c3:RCond3 P f i
 c4:∀J,i<J->J<P.orders.length->RCond4 P f i J
theorem rImage_vec {P:Pr}(hP:Valid P) (f i:Nat) (a:i+(f+1)=P.orders.length) (x:List Int):Vec P.orders (rImage P f i x):=
 rImgTo_vec hP f i a (rAt_vec hP f) _ _ (zeros_vec hP) f (Nat.le_refl _)
theorem rRepF_vec {P:Pr}(hP:Valid P) (f i:Nat) (j:i+f=P.orders.length):∀(g:Nat) (o b:List Int) (k:Nat),Vec P.orders o->Vec P.orders b->Vec P.orders (rRepF (rAt P f i) g o b k):=by
 intro g;induction g with
 | zero=>intro o b k a _;exact a
 | succ g l=>
  intro o b k a e;simp only[rRepF];split
  ·exact a
  ·refine l _ _ _ ?_ (rAt_vec hP f i _ _ j e e)
   split
   ·exact rAt_vec hP f i _ _ j a e
   ·exact a
theorem l08Level_ok (P:Pr) (hP:Valid P) (w:World) (pv:Value) (i f:Nat) (Sp:Nat->Prop) (bN:PresV Sp w pv P) (O:i+(f+1)=P.orders.length) :
  Calls Tryz.prog 236 #[pv,.int .i64 i] w (Ret w λ_ v=>FaultR (RLevel P f i) v):=by
 have hi:i<P.orders.length:=by omega
 have cs:=hP.n6;obtain⟨vo,vp,vc,rfl,Z⟩:=bN;have a8:=PresP.box Z 28;have T:Ext w ((w.alloc (.cells #[vo,vp,vc] 28)).alloc (.cells #[.int .i64 0,.int .i64 0,.int .i64 0,.int .i64 0] 190)):=grown_trans (World.grownBy_alloc _ _ _) (World.grownBy_alloc _ _ _);have ai:=a8.ext (World.grownBy_alloc (w.alloc (.cells #[vo,vp,vc] 28)) (.cells #[.int .i64 0,.int .i64 0,.int .i64 0,.int .i64 0] 190) none);obtain⟨ao,capo,hco,hoi⟩:=ai.ordAt;go_enter Tryz.func236,Tryz.ntmps236;go_wp2;clear hco hoi;have ag:(w.alloc (.cells #[vo,vp,vc] 28)).heap.size=w.heap.size+1:=by simp
 have r0:((w.alloc (.cells #[vo,vp,vc] 28)).alloc (.cells #[.int .i64 0,.int .i64 0,.int .i64 0,.int .i64 0] 190)).cell? ⟨w.heap.size+1,0,none⟩=some (.int .i64 0):=by rw[World.cell?_alloc_at _ _ _ _ ag.symm];rfl
 have r1:((w.alloc (.cells #[vo,vp,vc] 28)).alloc (.cells #[.int .i64 0,.int .i64 0,.int .i64 0,.int .i64 0] 190)).cell? ⟨w.heap.size+1,1,none⟩=some (.int .i64 0):=by rw[World.cell?_alloc_at _ _ _ _ ag.symm];rfl
 have r2:((w.alloc (.cells #[vo,vp,vc] 28)).alloc (.cells #[.int .i64 0,.int .i64 0,.int .i64 0,.int .i64 0] 190)).cell? ⟨w.heap.size+1,2,none⟩=some (.int .i64 0):=by rw[World.cell?_alloc_at _ _ _ _ ag.symm];rfl
 have r3:((w.alloc (.cells #[vo,vp,vc] 28)).alloc (.cells #[.int .i64 0,.int .i64 0,.int .i64 0,.int .i64 0] 190)).cell? ⟨w.heap.size+1,3,none⟩=some (.int .i64 0):=by rw[World.cell?_alloc_at _ _ _ _ ag.symm];rfl
 have rf:∀k,((w.alloc (.cells #[vo,vp,vc] 28)).alloc (.cells #[.int .i64 0,.int .i64 0,.int .i64 0,.int .i64 0] 190)).frozen? ⟨w.heap.size+1,k,none⟩=false:=λk=>World.frozen?_alloc_at _ _ _ _ ag.symm;have rs:w.heap.size+1<((w.alloc (.cells #[vo,vp,vc] 28)).alloc (.cells #[.int .i64 0,.int .i64 0,.int .i64 0,.int .i64 0] 190)).heap.size:=by simp
 clear ag a8;generalize (w.alloc (.cells #[vo,vp,vc] 28)).alloc (.cells #[.int .i64 0,.int .i64 0,.int .i64 0,.int .i64 0] 190)=w0 at *;have Q:=Lib.hid (And.intro r0 (And.intro r1 (And.intro r2 (And.intro r3 rf))));clear r0 r1 r2 r3 rf;have a9:=(hP.pv i hi).1;have aa:=Lib.hid a9;clear a9;have a':=hP.cl;have ba:=hP.pl;have bb:i<P.conj.length:=by omega
 have bO:i<P.powers.length:=by omega
 have be:=hP.cv i hi;have S:=Lib.hid be;clear be;have bf:=Lib.hid a';have bg:=Lib.hid ba;clear a' ba;go_loopw [7] (λjv wr=>∃J:Nat,jv=.int .i64 J/\i+1<=J/\J<=P.orders.length/\Ext w0 wr/\∀m,i<m->m<J->RCond1 P f i m) (λjv _=>P.orders.length-(intOf jv).toNat)
 case atStart=>exact⟨i+1,by go_num,by omega,by omega,Ext.refl _,λm h1 h2=>by omega⟩
 case round =>
  obtain⟨J,rfl,hJ1,hJ2,j,hc1⟩:=hrel;have aQ:=Lib.hid hc1;clear hc1;by_cases A:J<P.orders.length
  ·--<P1
   have bh:(J:Int)<P.orders.length:=by omega
   obtain⟨ak,vp5,vc5,_,_,hb1,B,C,e⟩:=(ai.ext j).at;obtain⟨ao,capo,rfl,_,_⟩:=e.o.shape;obtain⟨bo,oo,rfl,_,_,hcoi⟩:=Ints.at e.o J A;obtain⟨ap,capp,rfl,_,_⟩:=Sl.shape e.p;obtain⟨bp,op,al,D,rfl,_,_,hcpi,R⟩:=Rows2.at e.p J (by have:=bg.out;omega);obtain⟨ac,capc,rfl,_,_⟩:=Sl.shape e.c;obtain⟨bc,oc,ac2,am,rfl,_,_,hcci,hcii⟩:=Rows3.at e.c i bb;obtain⟨bd,od,aR,ab,rfl,_,_,hcd,hid⟩:=Rows2.at hcii (J-i-1) (by rw[S.out.1];omega);have e1:∀w',Ext wr w'->w'.cell? ⟨w.heap.size,0,none⟩=some (.slice (some ⟨bo,oo,none⟩) P.orders.length capo):=λw' h=>h.cell hb1 (by simp);have e2:∀w',Ext wr w'->w'.cell? ⟨w.heap.size,1,none⟩=some (.slice (some ⟨bp,op,none⟩) P.powers.length capp):=λw' h=>h.cell (by simpa using B) (by simp);have e3:∀w',Ext wr w'->w'.cell? ⟨w.heap.size,2,none⟩=some (.slice (some ⟨bc,oc,none⟩) P.conj.length capc):=λw' h=>h.cell (by simpa using C) (by simp);have e4:∀w',Ext wr w'->w'.cell? ⟨bo,oo+J,none⟩=some (.int .i64 (gt P.orders J)):=λw' h=>h.cell hcoi (by simp);have e5:∀w',Ext wr w'->w'.cell? ⟨bp,op+J,none⟩=some (.slice al (gt P.powers J).length D):=λw' h=>h.cell hcpi (by simp);have e6:∀w',Ext wr w'->w'.cell? ⟨bc,oc+i,none⟩=some (.slice (some ⟨bd,od,none⟩) (gt P.conj i).length am):=λw' h=>h.cell hcci (by simp);have e7:∀w',Ext wr w'->w'.cell? ⟨bd,od+(J-i-1),none⟩=some (.slice aR (gt (gt P.conj i) (J-i-1)).length ab):=λw' h=>h.cell hcd (by simp);have b1:(0:Int)<=(J:Int)-i-1:=by omega
   have b2:(J:Int)-i-1<(gt P.conj i).length:=by rw[S.out.1];omega
   have b3:(i:Int)<P.conj.length:=by omega
   have b4:(J:Int)<P.powers.length:=by have:=bg.out;omega
   have b6:(0:Int)<=J:=by omega
   have b7:((J:Int)-i-1).toNat=J-i-1:=by omega
   have b8:(1:Int)<=(J:Int)-i:=by omega
   have s1:IntKind.i64.wrap ((J:Int)-i)=(J:Int)-i:=IntWalk.i64_in _ (by omega);have s2:IntKind.i64.wrap ((J:Int)-i-1)=(J:Int)-i-1:=IntWalk.i64_in _ (by omega);have s3:IntKind.i64.wrap ((i:Int)+1)=(i:Int)+1:=IntWalk.i64_in _ (by omega);have an:=(S.out.2 (J-i-1) (by omega)).1;have aq:=(hP.pv J A).1;have bl:=hP.ord7 J A;have U:=Lib.hid (And.intro an (And.intro aq bl));clear an aq bl;have V:(rRep (rAt P f (i+1)) (zeros P.orders.length) (gt (gt P.conj i) (J-i-1)) (gt P.orders J).toNat).length=P.orders.length:=(rRepF_vec hP f (i+1) (by omega) _ _ _ _ (zeros_vec hP) U.out.1).1;have W:=(rImage_vec hP f i O (gt P.powers J)).1;have X:=Lib.hid (And.intro V W);clear V W;clear hb1 B C hcoi hcpi hcci hcd hcii;have F:=j.cell Q.out.1 (by simp);have G:=j.cell Q.out.2.1 (by simp);have H:=j.cell Q.out.2.2.1 (by simp);have I:=j.cell Q.out.2.2.2.1 (by simp);have L:=λk=>frozen_ext j (Q.out.2.2.2.2 k) rs;have l:w.heap.size+1<wr.heap.size:=Nat.lt_of_lt_of_le rs j.size;have b:=Lib.hid (And.intro F (And.intro G (And.intro H (And.intro I L))));clear F G H I L;go_wp2
   go_region_held3 (λw'=>Ext wr w') (first|exact grown_drew _ _|assumption)
    (first
     | (go_at_call 278;refine Calls.mono (Calls.rel (w0:=wr) (by assumption) (l08Repeat_ok P hP _ _ _ (i+1) f (by omega) _ _ Any Any ⟨_,_,_,rfl,Pres3.ext e (by assumption)⟩ (Ints.ext hid (by assumption)) U.out.1 (by have:=U.out.2.2;omega) (by have:=U.out.2.2;omega))) ?_;rintro eA Y ⟨vA,rfl,q,hsA,u⟩))
   clear s1 s2 s3 b1 b2 b7 b8 e6 e7 e4;have f1:∀w',Ext Y w'->w'.cell? ⟨w.heap.size,0,none⟩=some (.slice (some ⟨bo,oo,none⟩) P.orders.length capo):=λw' h=>e1 w' (grown_trans q h);have f2:∀w',Ext Y w'->w'.cell? ⟨w.heap.size,1,none⟩=some (.slice (some ⟨bp,op,none⟩) P.powers.length capp):=λw' h=>e2 w' (grown_trans q h);have f3:∀w',Ext Y w'->w'.cell? ⟨w.heap.size,2,none⟩=some (.slice (some ⟨bc,oc,none⟩) P.conj.length capc):=λw' h=>e3 w' (grown_trans q h);have f5:∀w',Ext Y w'->w'.cell? ⟨bp,op+J,none⟩=some (.slice al (gt P.powers J).length D):=λw' h=>e5 w' (grown_trans q h);clear e1 e2 e3 e5;go_wp2;cases hq:eqB (rRep (rAt P f (i+1)) (zeros P.orders.length) (gt (gt P.conj i) (J-i-1)) (gt P.orders J).toNat) (rImage P f i (gt P.powers J)) with
   | true=>
    have HQ:=Lib.hid hq
    go_region_held3 (λw'=>Ext Y w') (first|exact grown_drew _ _|assumption)
     (first
      | (go_at_call 237;refine Calls.mono (Calls.rel2 (w0:=Y) (by assumption) (l08Image_of P hP f (l08At_ok P hP f) _ _ _ i _ Any Any O ⟨_,_,_,rfl,Pres3.ext (Pres3.ext e q) (by assumption)⟩ (Ints.ext (Ints.ext R q) (by assumption)) U.out.2.1)) ?_;rintro eF wF ⟨vF,rfl,z,hgF2,hsF,hOF⟩;have r:=(u.ext0 z).ints (by rw[X.out.1];omega);have au:=hOF.ints (by rw[X.out.2];omega))
      | (go_at_call 275;refine Calls.mono (Calls.rel (w0:=Y) (by assumption) (l01Same_ok _ _ _ _ _ Any Any r au)) ?_;rintro eB wB ⟨vB,rfl,hgAB,hsB,rfl⟩))
    clear f1 f2 f3 f5;have a:Ext wr wB:=grown_trans q hgAB;go_wp2;go_roundw
    case rel=>exact⟨J+1,by go_num,by omega,by omega,grown_trans j a,λm h1 h2=>by
     rcases Nat.lt_or_ge m J with Z|Z
     ·exact aQ.out m h1 Z
     ·have:m=J:=by omega
      rw[this];exact eqB_true.1 HQ.out⟩
    case measure=>simp[intOf];omega
   | false=>
    have HQ:=Lib.hid hq
    go_region_held3 (λw'=>Ext Y w') (first|exact grown_drew _ _|assumption)
     (first
      | (go_at_call 237;refine Calls.mono (Calls.rel2 (w0:=Y) (by assumption) (l08Image_of P hP f (l08At_ok P hP f) _ _ _ i _ Any Any O ⟨_,_,_,rfl,Pres3.ext (Pres3.ext e q) (by assumption)⟩ (Ints.ext (Ints.ext R q) (by assumption)) U.out.2.1)) ?_;rintro eF wF ⟨vF,rfl,z,hgF2,hsF,hOF⟩;have r:=(u.ext0 z).ints (by rw[X.out.1];omega);have au:=hOF.ints (by rw[X.out.2];omega))
      | (go_at_call 275;refine Calls.mono (Calls.rel (w0:=Y) (by assumption) (l01Same_ok _ _ _ _ _ Any Any r au)) ?_;rintro eB wB ⟨vB,rfl,hgAB,hsB,rfl⟩))
    clear f1 f2 f3 f5;have a:Ext wr wB:=grown_trans q hgAB;have c0:=a.cell b.out.1 (by simp);have c1:=a.cell b.out.2.1 (by simp);have c2:=a.cell b.out.2.2.1 (by simp);have c3:=a.cell b.out.2.2.2.1 (by simp);have az:=frozen_ext a (b.out.2.2.2.2 0) l;have aA:=frozen_ext a (b.out.2.2.2.2 1) l;have aB:=frozen_ext a (b.out.2.2.2.2 2) l;have aC:=frozen_ext a (b.out.2.2.2.2 3) l;go_wp2;refine bodyPost_ret (v := .agg #[.int .i64 1,.int .i64 i,.int .i64 J,.int .i64 0]) (by simp[results,Tryz.results236,go_sem,c0,c1,c2,c3]) rfl ⟨_,rfl,ext_set4 (grown_trans T (grown_trans j a)) (by omega) _ _ _ _,.inr ⟨λh=>eqB_false.1 HQ.out (h.c1 J (by omega) A),_,_,_,_,by decide,rfl⟩⟩
  -->P1
  ·have aM : ∀m,i<m->m<P.orders.length->RCond1 P f i m:=λm h1 h2=>aQ.out m h1 (by omega)
   have bT:=Lib.hid aM;clear aM aQ;go_wp2;clear A;go_loopw [9] (λjv wr=>∃J:Nat,jv=.int .i64 J/\i+1<=J/\J<=P.orders.length/\Ext w0 wr/\∀m n,i<m->m<J->m<n->n<P.orders.length->RCond2 P f i m n) (λjv _=>P.orders.length-(intOf jv).toNat)
   case atStart=>exact⟨i+1,by go_num,by omega,by omega,j,λm n h1 h2=>by omega⟩
   case round =>
    clear j hJ1 hJ2;obtain⟨J,rfl,hJ1,hJ2,j,hc2⟩:=hrel;have aS:=Lib.hid hc2;clear hc2;by_cases A:J<P.orders.length
    ·--<P2
     have bh:(J:Int)<P.orders.length:=by omega
     go_wp2;go_loopw [10] (λkv wr=>∃K:Nat,kv=.int .i64 K/\J+1<=K/\K<=P.orders.length/\Ext w0 wr/\∀n,J<n->n<K->RCond2 P f i J n) (λkv _=>P.orders.length-(intOf kv).toNat)
     case atStart=>exact⟨J+1,by go_num,by omega,by omega,j,λn h1 h2=>by omega⟩
     case round=>
      clear j;obtain⟨K,rfl,hK1,hK2,j,hc3⟩:=hrel;have bm:=Lib.hid hc3;clear hc3;by_cases bn:K<P.orders.length
      ·obtain ⟨ak,vp5,vc5,_,_,hb1,B,C,e⟩:=(ai.ext j).at
       obtain⟨ac,capc,rfl,_,_⟩:=Sl.shape e.c;obtain⟨bc,oc,ac2,am,rfl,_,_,hcci,hcii⟩:=Rows3.at e.c i bb;obtain⟨bd,od,aR,ab,rfl,_,_,hcd,hid⟩:=Rows2.at hcii (J-i-1) (by rw[S.out.1];omega);obtain⟨bU,od2,bV,aT,hbd2,_,_,hcdK,hidK⟩:=Rows2.at hcii (K-i-1) (by rw[S.out.1];omega);obtain⟨rfl,rfl⟩:bU=bd/\od2=od:=by cases hbd2;exact⟨rfl,rfl⟩
       have af:=(hP.cv J A);obtain⟨aD,oc5,ac5,aU,hbc5,_,_,hccJ,hciJ⟩:=Rows3.at e.c J (by have:=bf.out;omega);obtain⟨rfl,rfl⟩:aD=bc/\oc5=oc:=by cases hbc5;exact⟨rfl,rfl⟩
       obtain⟨bq,od6,bW,aV,rfl,_,_,hcdJ,aN⟩:=Rows2.at hciJ (K-J-1) (by rw[af.1];omega);clear hbd2 hbc5;have e1:∀w',Ext wr w'->w'.cell? ⟨w.heap.size,0,none⟩=some ak:=λw' h=>h.cell hb1 (by simp);have e2:∀w',Ext wr w'->w'.cell? ⟨w.heap.size,1,none⟩=some vp5:=λw' h=>h.cell (by simpa using B) (by simp);have e3:∀w',Ext wr w'->w'.cell? ⟨w.heap.size,2,none⟩=some (.slice (some ⟨aD,oc5,none⟩) P.conj.length capc):=λw' h=>h.cell (by simpa using C) (by simp);have br:=e3 wr (Ext.refl _);have e9:∀w',Ext wr w'->w'.cell? ⟨aD,oc5+J,none⟩=some (.slice (some ⟨bq,od6,none⟩) (gt P.conj J).length aU):=λw' h=>h.cell hccJ (by simp);have aE:∀w',Ext wr w'->w'.cell? ⟨bq,od6+(K-J-1),none⟩=some (.slice bW (gt (gt P.conj J) (K-J-1)).length aV):=λw' h=>h.cell hcdJ (by simp);have b1:(0:Int)<=(J:Int)-i-1:=by omega
       have b2:(J:Int)-i-1<(gt P.conj i).length:=by rw[S.out.1];omega
       have b3:(i:Int)<P.conj.length:=by omega
       have b4:(J:Int)<P.conj.length:=by have:=bf.out;omega
       have b7:((J:Int)-i-1).toNat=J-i-1:=by omega
       have b8:(1:Int)<=(J:Int)-i:=by omega
       have k1:(0:Int)<=(K:Int)-i-1:=by omega
       have k2:(K:Int)-i-1<(gt P.conj i).length:=by rw[S.out.1];omega
       have k7:((K:Int)-i-1).toNat=K-i-1:=by omega
       have k8:(1:Int)<=(K:Int)-i:=by omega
       have m1:(0:Int)<=(K:Int)-J-1:=by omega
       have m2:(K:Int)-J-1<(gt P.conj J).length:=by rw[af.1];omega
       have m7:((K:Int)-J-1).toNat=K-J-1:=by omega
       have m8:(1:Int)<=(K:Int)-J:=by omega
       have b5:(K:Int)<P.orders.length:=by omega
       have s1:IntKind.i64.wrap ((J:Int)-i)=(J:Int)-i:=IntWalk.i64_in _ (by omega);have s2:IntKind.i64.wrap ((J:Int)-i-1)=(J:Int)-i-1:=IntWalk.i64_in _ (by omega);have s3:IntKind.i64.wrap ((K:Int)-i)=(K:Int)-i:=IntWalk.i64_in _ (by omega);have s4:IntKind.i64.wrap ((K:Int)-i-1)=(K:Int)-i-1:=IntWalk.i64_in _ (by omega);have s5:IntKind.i64.wrap ((K:Int)-J)=(K:Int)-J:=IntWalk.i64_in _ (by omega);have s6:IntKind.i64.wrap ((K:Int)-J-1)=(K:Int)-J-1:=IntWalk.i64_in _ (by omega);have s7:IntKind.i64.wrap ((i:Int)+1)=(i:Int)+1:=IntWalk.i64_in _ (by omega);have bs:=(S.out.2 (J-i-1) (by omega)).1;have bt:=(S.out.2 (K-i-1) (by omega)).1;have aO:=(af.2 (K-J-1) (by omega)).1;have U:=Lib.hid (And.intro bt (And.intro bs aO));clear bs bt aO af;have aW:=rImage_vec hP f i O (gt (gt P.conj J) (K-J-1));have V:=(rAt_vec hP f (i+1) _ _ (by omega) U.out.1 U.out.2.1).1;have W:=(rAt_vec hP f (i+1) _ _ (by omega) U.out.2.1 aW).1;have X:=Lib.hid (And.intro V (And.intro W aW));clear V W aW;have F:=j.cell Q.out.1 (by simp);have G:=j.cell Q.out.2.1 (by simp);have H:=j.cell Q.out.2.2.1 (by simp);have I:=j.cell Q.out.2.2.2.1 (by simp);have L:=λk=>frozen_ext j (Q.out.2.2.2.2 k) rs;have l:w.heap.size+1<wr.heap.size:=Nat.lt_of_lt_of_le rs j.size;have b:=Lib.hid (And.intro F (And.intro G (And.intro H (And.intro I L))));clear F G H I L;have E:=Lib.hid (And.intro e1 (And.intro e2 (And.intro e3 (And.intro e9 aE))));clear e1 e2 e3 e9 aE;clear hb1 B C;go_wp2;go_quiet (fail)
       rename_i nq _;have aX:Ext wr (wr.drewN nq):=grown_drewN _ _ _;clear hcci hcd hcdK hccJ hcdJ hcii hciJ br;obtain⟨wq,aY⟩:∃wq:World,wq=wr.drewN nq:=⟨_,rfl⟩;rw[<-aY] at aX;rw[<-aY];clear aY;obtain⟨e1,e2,e3,e9,aE⟩:=E.out;go_wp2
       go_region_held3 (λw'=>Ext wr w') (first|exact grown_trans aX (grown_drew _ _)|exact aX|exact grown_drew _ _|assumption)
        (first
         | (go_at_call 237;refine Calls.mono (Calls.rel (w0:=wr) (by assumption) (l08Image_of P hP f (l08At_ok P hP f) _ _ _ i _ Any Any O ⟨_,_,_,rfl,Pres3.ext e (by assumption)⟩ (Ints.ext aN (by assumption)) U.out.2.2)) ?_;rintro eF wF ⟨vF,rfl,z,hgF2,hOF⟩))
       have bu:=hOF.ints (by rw[X.out.2.2.1];omega);have bv:Ints Any wF (.slice bV (gt (gt P.conj i) (K-i-1)).length aT) _:=Ints.ext hidK z;have aF:Ints Any wF (.slice aR (gt (gt P.conj i) (J-i-1)).length ab) _:=Ints.ext hid z;have aG:=Pres3.ext e z;have f1:∀w',Ext wF w'->w'.cell? ⟨w.heap.size,0,none⟩=some ak:=λw' h=>e1 w' (grown_trans z h);have f2:∀w',Ext wF w'->w'.cell? ⟨w.heap.size,1,none⟩=some vp5:=λw' h=>e2 w' (grown_trans z h);have f3:∀w',Ext wF w'->w'.cell? ⟨w.heap.size,2,none⟩=some (.slice (some ⟨aD,oc5,none⟩) P.conj.length capc):=λw' h=>e3 w' (grown_trans z h);clear e1 e2 e3 e9 aE E s1 s2 s3 s4 s5 s6 b1 b2 b7 b8 k1 k2 k7 k8 m1 m2 m7 m8 aN hidK hid e hOF;go_wp2;cases hq:eqB (rAt P f (i+1) (gt (gt P.conj i) (K-i-1)) (gt (gt P.conj i) (J-i-1))) (rAt P f (i+1) (gt (gt P.conj i) (J-i-1)) (rImage P f i (gt (gt P.conj J) (K-J-1)))) with
       | true=>
        have HQ:=Lib.hid hq
        go_region_held3 (λw'=>Ext wF w') (first|exact grown_drew _ _|assumption)
         (first
          | (go_at_call_of 192 (vF);refine Calls.mono (Calls.rel2 (w0:=wF) (by assumption) (l08At_ok P hP f _ _ _ _ (i+1) _ _ Any Any Any (by omega) ⟨_,_,_,rfl,Pres3.ext aG (by assumption)⟩ (Ints.ext aF (by assumption)) (Ints.ext bu (by assumption)) U.out.2.1 X.out.2.2)) ?_;rintro eG wG ⟨vG,rfl,hgG,M,hsG,hOG⟩;have r:=(u.ext0 M).ints (by rw[X.out.1];omega);have N:=hOG.ints (by rw[X.out.2.1];omega))
          | (go_at_call 192;refine Calls.mono (Calls.rel (w0:=wF) (by assumption) (l08At_ok P hP f _ _ _ _ (i+1) _ _ Any Any Any (by omega) ⟨_,_,_,rfl,Pres3.ext aG (by assumption)⟩ (Ints.ext bv (by assumption)) (Ints.ext aF (by assumption)) U.out.1 U.out.2.1)) ?_;rintro eA Y ⟨vA,rfl,q,hsA,u⟩)
          | (go_at_call 275;refine Calls.mono (Calls.rel (w0:=wF) (by assumption) (l01Same_ok _ _ _ _ _ Any Any r N)) ?_;rintro eB wB ⟨vB,rfl,hgFB,hsB,rfl⟩))
        clear f1 f2 f3;have a:Ext wr wB:=grown_trans z hgFB;go_wp2;go_roundw
        case rel=>exact⟨K+1,by go_num,by omega,by omega,grown_trans j a,λn h1 h2=>by
         rcases Nat.lt_or_ge n K with Z|Z
         ·exact bm.out n h1 Z
         ·have:n=K:=by omega
          rw[this];exact eqB_true.1 HQ.out⟩
        case measure=>simp[intOf];omega
       | false=>
        have HQ:=Lib.hid hq
        go_region_held3 (λw'=>Ext wF w') (first|exact grown_drew _ _|assumption)
         (first
          | (go_at_call_of 192 (vF);refine Calls.mono (Calls.rel2 (w0:=wF) (by assumption) (l08At_ok P hP f _ _ _ _ (i+1) _ _ Any Any Any (by omega) ⟨_,_,_,rfl,Pres3.ext aG (by assumption)⟩ (Ints.ext aF (by assumption)) (Ints.ext bu (by assumption)) U.out.2.1 X.out.2.2)) ?_;rintro eG wG ⟨vG,rfl,hgG,M,hsG,hOG⟩;have r:=(u.ext0 M).ints (by rw[X.out.1];omega);have N:=hOG.ints (by rw[X.out.2.1];omega))
          | (go_at_call 192;refine Calls.mono (Calls.rel (w0:=wF) (by assumption) (l08At_ok P hP f _ _ _ _ (i+1) _ _ Any Any Any (by omega) ⟨_,_,_,rfl,Pres3.ext aG (by assumption)⟩ (Ints.ext bv (by assumption)) (Ints.ext aF (by assumption)) U.out.1 U.out.2.1)) ?_;rintro eA Y ⟨vA,rfl,q,hsA,u⟩)
          | (go_at_call 275;refine Calls.mono (Calls.rel (w0:=wF) (by assumption) (l01Same_ok _ _ _ _ _ Any Any r N)) ?_;rintro eB wB ⟨vB,rfl,hgFB,hsB,rfl⟩))
        clear f1 f2 f3;have a:Ext wr wB:=grown_trans z hgFB;have c0:=a.cell b.out.1 (by simp);have c1:=a.cell b.out.2.1 (by simp);have c2:=a.cell b.out.2.2.1 (by simp);have c3:=a.cell b.out.2.2.2.1 (by simp);have az:=frozen_ext a (b.out.2.2.2.2 0) l;have aA:=frozen_ext a (b.out.2.2.2.2 1) l;have aB:=frozen_ext a (b.out.2.2.2.2 2) l;have aC:=frozen_ext a (b.out.2.2.2.2 3) l;go_wp2;refine bodyPost_ret (v := .agg #[.int .i64 2,.int .i64 i,.int .i64 J,.int .i64 K]) (by simp[results,Tryz.results236,go_sem,c0,c1,c2,c3]) rfl ⟨_,rfl,ext_set4 (grown_trans T (grown_trans j a)) (by omega) _ _ _ _,.inr ⟨λh=>eqB_false.1 HQ.out (h.c2 J K (by omega) (by omega) bn),_,_,_,_,by decide,rfl⟩⟩
      ·have cM:K=P.orders.length:=by omega
       go_wp2;go_roundw
       case rel=>exact⟨J+1,by go_num,by omega,by omega,j,λm n h1 h2 Z h4=>by
         rcases Nat.lt_or_ge m J with h5|h5
         ·exact aS.out m n h1 h5 Z h4
         ·have:m=J:=by omega
          subst this;exact bm.out n Z (by omega)⟩
       case measure=>simp[intOf];omega
    -->P2
    ·have av:∀m n,i<m->m<n->n<P.orders.length->RCond2 P f i m n:=λm n h1 h2 Z=>aS.out m n h1 (by omega) h2 Z
     have b0:=Lib.hid av;clear av aS;obtain⟨ak,vp5,vc5,_,_,hb1,B,C,e⟩:=(ai.ext j).at;obtain⟨ap,capp,rfl,_,_⟩:=Sl.shape e.p;obtain⟨bp,op,al,D,rfl,_,_,hcpi,R⟩:=Rows2.at e.p i bO;have bw:=(rImage_vec hP f i O (gt P.powers i)).1;have b9:=Lib.hid bw;clear bw;have F:=j.cell Q.out.1 (by simp);have G:=j.cell Q.out.2.1 (by simp);have H:=j.cell Q.out.2.2.1 (by simp);have I:=j.cell Q.out.2.2.2.1 (by simp);have L:=λk=>frozen_ext j (Q.out.2.2.2.2 k) rs;have l:w.heap.size+1<wr.heap.size:=Nat.lt_of_lt_of_le rs j.size;have b:=Lib.hid (And.intro F (And.intro G (And.intro H (And.intro I L))));clear F G H I L;go_wp2_with fail
     refine Calls.mono (l08Image_of P hP f (l08At_ok P hP f) wr _ _ i _ Any Any O ⟨_,_,_,rfl,e⟩ R aa.out) ?_;rintro eA Y ⟨vA,rfl,q,u⟩;go_wp2_with fail
     refine Calls.mono (l01Same_ok _ _ _ _ Y Any Any (u.ints (by rw[b9.out];omega)) (Ints.ext R q)) ?_;rintro eB wB ⟨vB,rfl,hgAB,rfl⟩;have a:Ext wr wB:=grown_trans q hgAB;have aw:Ints Any wB (.slice al (gt P.powers i).length D) (gt P.powers i):=Ints.ext R a;cases hq:eqB (rImage P f i (gt P.powers i)) (gt P.powers i) with
     | false=>
      have HQ:=Lib.hid hq;have c0:=a.cell b.out.1 (by simp);have c1:=a.cell b.out.2.1 (by simp);have c2:=a.cell b.out.2.2.1 (by simp);have c3:=a.cell b.out.2.2.2.1 (by simp);have az:=frozen_ext a (b.out.2.2.2.2 0) l;have aA:=frozen_ext a (b.out.2.2.2.2 1) l;have aB:=frozen_ext a (b.out.2.2.2.2 2) l;have aC:=frozen_ext a (b.out.2.2.2.2 3) l;go_wp2;refine bodyPost_ret (v := .agg #[.int .i64 3,.int .i64 i,.int .i64 0,.int .i64 0]) (by simp[results,Tryz.results236,go_sem,c0,c1,c2,c3]) rfl ⟨_,rfl,ext_set4 (grown_trans T (grown_trans j a)) (by omega) _ _ _ _,.inr ⟨λh=>eqB_false.1 HQ.out h.c3,_,_,_,_,by decide,rfl⟩⟩
     | true =>
      --<P4
      have HQ:=Lib.hid (eqB_true.1 hq);have bx:=grown_trans j a;clear hcpi hb1 B C e;go_wp2;clear hq;obtain⟨wz,rfl⟩:∃wz:World,wz=wB:=⟨_,rfl⟩;go_loopw [15] (λjv wr=>∃J:Nat,jv=.int .i64 J/\i+1<=J/\J<=P.orders.length/\Ext w0 wr/\Ext wz wr/\∀m,i<m->m<J->RCond4 P f i m) (λjv _=>P.orders.length-(intOf jv).toNat)
      case atStart=>exact⟨i+1,by go_num,by omega,by omega,bx,Ext.refl _,λm h1 h2=>by omega⟩
      case round=>
       clear j q a bx u hJ1 hJ2 b l hgAB A;obtain⟨J,rfl,hJ1,hJ2,j,bz,hc4⟩:=hrel;have bA:=Lib.hid hc4;clear hc4;have F:=j.cell Q.out.1 (by simp);have G:=j.cell Q.out.2.1 (by simp);have H:=j.cell Q.out.2.2.1 (by simp);have I:=j.cell Q.out.2.2.2.1 (by simp);have L:=λk=>frozen_ext j (Q.out.2.2.2.2 k) rs;have l:w.heap.size+1<wr.heap.size:=Nat.lt_of_lt_of_le rs j.size;have b:=Lib.hid (And.intro F (And.intro G (And.intro H (And.intro I L))));clear F G H I L;by_cases A:J<P.orders.length
       ·have bh:(J:Int)<P.orders.length:=by omega
        go_wp2_with fail
        refine Calls.mono (l07Unit_ok P.orders.length J wr A (by omega)) ?_;rintro eU wU ⟨vU,rfl,hgU,hOU⟩;have aZ:=hOU.ints (by rw[(unitV_vec hP J).1];omega);have aP:=hP.ord7 i hi;have cP:0<=gt P.orders i:=by omega
        have cQ:gt P.orders i<=7:=aP.2;clear aP;go_wp2;obtain⟨wo,rfl⟩:∃wo:World,wo=wr:=⟨_,rfl⟩;go_loopw [17,18] (λxv mv w2=>∃m:Nat,mv=.int .i64 m/\m<=(gt P.orders i).toNat/\Ext wU w2/\Ints Any w2 xv (iter m (λx=>rImage P f i x) (unitV P.orders.length J))) (λ_ mv _=>(gt P.orders i).toNat-(intOf mv).toNat)
        case atStart=>exact⟨0,rfl,by omega,Ext.refl _,aZ⟩
        case round=>
         obtain⟨m,rfl,hm,hg2,hX⟩:=hrel;have aH:=grown_trans hgU hg2;have cc:=grown_trans j aH;have bB:Vec P.orders (iter m (λx=>rImage P f i x) (unitV P.orders.length J)):=iter_inv (Vec P.orders) _ (λy hy=>rImage_vec hP f i O y) _ _ (unitV_vec hP J);have a0:=Lib.hid bB;clear bB;obtain⟨ak,vp5,vc5,_,_,hb1,B,C,e⟩:=(ai.ext cc).at;obtain⟨cS,capo5,rfl,_,_⟩:=e.o.shape;obtain⟨bo,oo,rfl,_,_,hcoi⟩:=Ints.at e.o i hi;by_cases cq:(m:Int)<gt P.orders i
         ·go_wp2_with fail
          refine Calls.mono (l08Image_of P hP f (l08At_ok P hP f) wr _ _ i _ Any Any O ⟨_,_,_,rfl,e⟩ hX a0.out) ?_;rintro eA Y ⟨vA,rfl,q,u⟩;have bC:=rImage_vec hP f i O (iter m (λx=>rImage P f i x) (unitV P.orders.length J));have bD:=u.ints (by rw[bC.1];omega);clear bC hb1 B C hcoi;go_wp2;go_roundw
          case rel=>exact⟨m+1,by go_num,by omega,grown_trans hg2 q,bD⟩
          case measure=>simp[intOf];omega
         ·have bE:m=(gt P.orders i).toNat:=by omega
          have a1:=a0.out;have bF:Ints Any wr u17 (iter (gt P.orders i).toNat (λx=>rImage P f i x) (unitV P.orders.length J)):=by rw[<-bE];exact hX
          rw[bE] at a1;have a2:=Lib.hid a1;clear a1 hX a0;have V:=(rAt_vec hP f (i+1) _ _ (by omega) aa.out a2.out).1;have W:=(rAt_vec hP f (i+1) _ _ (by omega) (unitV_vec hP J) aa.out).1;have X:=Lib.hid (And.intro V W);clear V W;have s3:IntKind.i64.wrap ((i:Int)+1)=(i:Int)+1:=IntWalk.i64_in _ (by omega);have aI:Ints Any wr (.slice al (gt P.powers i).length D) (gt P.powers i):=Ints.ext aw (grown_trans bz aH);have bG:Ints Any wr vU (unitV P.orders.length J):=aZ.ext hg2;have f1:∀w',Ext wr w'->w'.cell? ⟨w.heap.size,0,none⟩=some (.slice (some ⟨bo,oo,none⟩) P.orders.length capo5):=λw' h=>h.cell hb1 (by simp);have f2:∀w',Ext wr w'->w'.cell? ⟨w.heap.size,1,none⟩=some vp5:=λw' h=>h.cell (by simpa using B) (by simp);have f3:∀w',Ext wr w'->w'.cell? ⟨w.heap.size,2,none⟩=some vc5:=λw' h=>h.cell (by simpa using C) (by simp);clear aw aZ hOU;go_wp2;clear hb1 B C hcoi;cases hq:eqB (rAt P f (i+1) (gt P.powers i) (iter (gt P.orders i).toNat (λx=>rImage P f i x) (unitV P.orders.length J))) (rAt P f (i+1) (unitV P.orders.length J) (gt P.powers i)) with
          | true=>
           have a3:=Lib.hid hq
           go_region_held3 (λw'=>Ext wr w') (first|exact grown_drew _ _|assumption)
            (first
             | (go_at_call_of 192 (vU);refine Calls.mono (Calls.rel2 (w0:=wr) (by assumption) (l08At_ok P hP f _ _ _ _ (i+1) _ _ Any Any Any (by omega) ⟨_,_,_,rfl,Pres3.ext e (by assumption)⟩ (Ints.ext bG (by assumption)) (Ints.ext aI (by assumption)) (unitV_vec hP J) aa.out)) ?_;rintro eG wG ⟨vG,rfl,hgG,M,hsG,hOG⟩;have r:=(u.ext0 M).ints (by rw[X.out.1];omega);have N:=hOG.ints (by rw[X.out.2];omega))
             | (go_at_call 192;refine Calls.mono (Calls.rel (w0:=wr) (by assumption) (l08At_ok P hP f _ _ _ _ (i+1) _ _ Any Any Any (by omega) ⟨_,_,_,rfl,Pres3.ext e (by assumption)⟩ (Ints.ext aI (by assumption)) (Ints.ext bF (by assumption)) aa.out a2.out)) ?_;rintro eA Y ⟨vA,rfl,q,hsA,u⟩)
             | (go_at_call 275;refine Calls.mono (Calls.rel (w0:=wr) (by assumption) (l01Same_ok _ _ _ _ _ Any Any r N)) ?_;rintro eB wB ⟨vB,rfl,hgFB,hsB,rfl⟩))
           clear f1 f2 f3;have a:Ext wo wB:=grown_trans aH hgFB;go_wp2;go_roundw
           case rel=>exact⟨J+1,by go_num,by omega,by omega,grown_trans j a,grown_trans bz a,λm h1 h2=>by
            rcases Nat.lt_or_ge m J with Z|Z
            ·exact bA.out m h1 Z
            ·have:m=J:=by omega
             rw[this];exact eqB_true.1 a3.out⟩
           case measure=>simp[intOf];omega
          | false=>
           have a3:=Lib.hid hq
           go_region_held3 (λw'=>Ext wr w') (first|exact grown_drew _ _|assumption)
            (first
             | (go_at_call_of 192 (vU);refine Calls.mono (Calls.rel2 (w0:=wr) (by assumption) (l08At_ok P hP f _ _ _ _ (i+1) _ _ Any Any Any (by omega) ⟨_,_,_,rfl,Pres3.ext e (by assumption)⟩ (Ints.ext bG (by assumption)) (Ints.ext aI (by assumption)) (unitV_vec hP J) aa.out)) ?_;rintro eG wG ⟨vG,rfl,hgG,M,hsG,hOG⟩;have r:=(u.ext0 M).ints (by rw[X.out.1];omega);have N:=hOG.ints (by rw[X.out.2];omega))
             | (go_at_call 192;refine Calls.mono (Calls.rel (w0:=wr) (by assumption) (l08At_ok P hP f _ _ _ _ (i+1) _ _ Any Any Any (by omega) ⟨_,_,_,rfl,Pres3.ext e (by assumption)⟩ (Ints.ext aI (by assumption)) (Ints.ext bF (by assumption)) aa.out a2.out)) ?_;rintro eA Y ⟨vA,rfl,q,hsA,u⟩)
             | (go_at_call 275;refine Calls.mono (Calls.rel (w0:=wr) (by assumption) (l01Same_ok _ _ _ _ _ Any Any r N)) ?_;rintro eB wB ⟨vB,rfl,hgFB,hsB,rfl⟩))
           clear f1 f2 f3;have a:Ext wo wB:=grown_trans aH hgFB;have c0:=a.cell b.out.1 (by simp);have c1:=a.cell b.out.2.1 (by simp);have c2:=a.cell b.out.2.2.1 (by simp);have c3:=a.cell b.out.2.2.2.1 (by simp);have az:=frozen_ext a (b.out.2.2.2.2 0) l;have aA:=frozen_ext a (b.out.2.2.2.2 1) l;have aB:=frozen_ext a (b.out.2.2.2.2 2) l;have aC:=frozen_ext a (b.out.2.2.2.2 3) l;go_wp2;refine bodyPost_ret (v := .agg #[.int .i64 4,.int .i64 i,.int .i64 J,.int .i64 0]) (by simp[results,Tryz.results236,go_sem,c0,c1,c2,c3]) rfl ⟨_,rfl,ext_set4 (grown_trans T (grown_trans j a)) (by omega) _ _ _ _,.inr ⟨λh=>eqB_false.1 a3.out (h.c4 J (by omega) A),_,_,_,_,by decide,rfl⟩⟩
       ·have cd:J=P.orders.length:=by omega
        subst cd;have c0:=b.out.1;have c1:=b.out.2.1;have c2:=b.out.2.2.1;have c3:=b.out.2.2.2.1;have az:=b.out.2.2.2.2 0;have aA:=b.out.2.2.2.2 1;have aB:=b.out.2.2.2.2 2;have aC:=b.out.2.2.2.2 3;go_wp2;refine bodyPost_ret (v := .agg #[.int .i64 0,.int .i64 0,.int .i64 0,.int .i64 0]) (by simp[results,Tryz.results236,go_sem,c0,c1,c2,c3]) rfl ⟨_,rfl,ext_set4 (grown_trans T j) (by omega) _ _ _ _,.inl ⟨⟨bT.out,b0.out,HQ.out,bA.out⟩,rfl⟩⟩
      -->P4
def IAll (P:Pr):Prop:=∀k,k<P.orders.length->ILevel P k
def RAll (P:Pr):Prop:=∀k,k<P.orders.length->RLevel P (P.orders.length-1-k) k
open Classical in
noncomputable def iconsB (P:Pr):Bool:=decide (Valid P/\IAll P)
open Classical in
noncomputable def rconsB (P:Pr):Bool:=decide (Valid P/\RAll P)
theorem l08Fault_ok (P:Pr) (hP:Valid P) (w:World) (pv:Value) (Sp:Nat->Prop) (H:PresV Sp w pv P) :
  Calls Tryz.prog 191 #[pv] w (Ret w λ_ v=>FaultR (RAll P) v):=by
 have ad:=hP.n6;obtain⟨vo,vp,vc,rfl,G⟩:=H;have r:=PresP.box G 28;have l:Ext w ((w.alloc (.cells #[vo,vp,vc] 28)).alloc (.cells #[.int .i64 0,.int .i64 0,.int .i64 0,.int .i64 0] 190)):=grown_trans (World.grownBy_alloc _ _ _) (World.grownBy_alloc _ _ _);have u:=r.ext (World.grownBy_alloc (w.alloc (.cells #[vo,vp,vc] 28)) (.cells #[.int .i64 0,.int .i64 0,.int .i64 0,.int .i64 0] 190) none);obtain⟨ao,capo,hco,hoi⟩:=u.ordAt;go_enter Tryz.func191,Tryz.ntmps191;go_wp2;clear hco hoi;have b:(w.alloc (.cells #[vo,vp,vc] 28)).heap.size=w.heap.size+1:=by simp
 have R:((w.alloc (.cells #[vo,vp,vc] 28)).alloc (.cells #[.int .i64 0,.int .i64 0,.int .i64 0,.int .i64 0] 190)).cell? ⟨w.heap.size+1,0,none⟩=some (.int .i64 0):=by rw[World.cell?_alloc_at _ _ _ _ b.symm];rfl
 have S:((w.alloc (.cells #[vo,vp,vc] 28)).alloc (.cells #[.int .i64 0,.int .i64 0,.int .i64 0,.int .i64 0] 190)).cell? ⟨w.heap.size+1,1,none⟩=some (.int .i64 0):=by rw[World.cell?_alloc_at _ _ _ _ b.symm];rfl
 have T:((w.alloc (.cells #[vo,vp,vc] 28)).alloc (.cells #[.int .i64 0,.int .i64 0,.int .i64 0,.int .i64 0] 190)).cell? ⟨w.heap.size+1,2,none⟩=some (.int .i64 0):=by rw[World.cell?_alloc_at _ _ _ _ b.symm];rfl
 have U:((w.alloc (.cells #[vo,vp,vc] 28)).alloc (.cells #[.int .i64 0,.int .i64 0,.int .i64 0,.int .i64 0] 190)).cell? ⟨w.heap.size+1,3,none⟩=some (.int .i64 0):=by rw[World.cell?_alloc_at _ _ _ _ b.symm];rfl
 have V:∀k,((w.alloc (.cells #[vo,vp,vc] 28)).alloc (.cells #[.int .i64 0,.int .i64 0,.int .i64 0,.int .i64 0] 190)).frozen? ⟨w.heap.size+1,k,none⟩=false:=λk=>World.frozen?_alloc_at _ _ _ _ b.symm;have W:w.heap.size+1<((w.alloc (.cells #[vo,vp,vc] 28)).alloc (.cells #[.int .i64 0,.int .i64 0,.int .i64 0,.int .i64 0] 190)).heap.size:=by simp
 clear b r;generalize (w.alloc (.cells #[vo,vp,vc] 28)).alloc (.cells #[.int .i64 0,.int .i64 0,.int .i64 0,.int .i64 0] 190)=w0 at *;have y:=Lib.hid (And.intro R (And.intro S (And.intro T (And.intro U V))));clear R S T U V;go_loopw [3] (λI wr=>∃c:Nat,I=.int .i64 ((c:Int)-1)/\c<=P.orders.length/\Ext w0 wr/\∀m,c<=m->m<P.orders.length->RLevel P (P.orders.length-1-m) m) (λI _=>(intOf I+1).toNat)
 case atStart=>exact⟨P.orders.length,by go_num,by omega,Ext.refl _,λm h1 X=>by omega⟩
 case round=>
  obtain⟨c,rfl,hc,e,hlev⟩:=hrel;have z:=Lib.hid hlev;clear hlev;have A:=e.cell y.out.1 (by simp);have B:=e.cell y.out.2.1 (by simp);have C:=e.cell y.out.2.2.1 (by simp);have D:=e.cell y.out.2.2.2.1 (by simp);have E:=λk=>frozen_ext e (y.out.2.2.2.2 k) W;have i:w.heap.size+1<wr.heap.size:=Nat.lt_of_lt_of_le W e.size;have a:=Lib.hid (And.intro A (And.intro B (And.intro C (And.intro D E))));clear A B C D E;by_cases Y:1<=c
  ·obtain ⟨c1,rfl⟩:∃c1,c=c1+1:=⟨c-1,by omega⟩
   have Z:((c1+1:Nat):Int)-1=c1:=by omega
   rw[Z];obtain⟨ae,vp5,vc5,_,_,hb1,hb2,hb3,h3r⟩:=(u.ext e).at;simp at hb2 hb3
   go_wp2_with fail
   refine Calls.mono (l08Level_ok P hP wr _ c1 (P.orders.length-1-c1) _ ⟨_,_,_,rfl,h3r⟩ (by omega)) ?_;rintro eA wA ⟨vA,rfl,p,J⟩;clear hb1 hb2 hb3 Z;have gA:=grown_trans p (World.grownBy_alloc wA (.cells #[.int .i64 0,.int .i64 0,.int .i64 0,.int .i64 0] 190) none);rcases J with⟨q,hv⟩|⟨F,k0,k1,k2,k3,hk,rfl⟩
   ·unfold fault0 at hv
    subst hv;go_wp2;go_roundw
    case rel=>exact⟨c1,by go_num,by omega,grown_trans e (grown_trans p (World.grownBy_alloc _ _ _)),λm h1 X=>by
     rcases Nat.lt_or_ge c1 m with G|G
     ·exact z.out m G X
     ·have:m=c1:=by omega
      rw[this];exact q⟩
    case measure=>simp[intOf]
   ·have j:Ext wr (wA.alloc (.cells #[.int .i64 k0,.int .i64 k1,.int .i64 k2,.int .i64 k3] 190)):=grown_trans p (World.grownBy_alloc _ _ _)
    have c0:=j.cell a.out.1 (by simp);have K:=j.cell a.out.2.1 (by simp);have c2:=j.cell a.out.2.2.1 (by simp);have c3:=j.cell a.out.2.2.2.1 (by simp);have L:=frozen_ext j (a.out.2.2.2.2 0) i;have M:=frozen_ext j (a.out.2.2.2.2 1) i;have N:=frozen_ext j (a.out.2.2.2.2 2) i;have O:=frozen_ext j (a.out.2.2.2.2 3) i;go_wp2;refine bodyPost_ret (v := .agg #[.int .i64 k0,.int .i64 k1,.int .i64 k2,.int .i64 k3]) (by simp[results,Tryz.results191,go_sem,c0,K,c2,c3]) rfl ⟨_,rfl,ext_set4 (grown_trans l (grown_trans e j)) (by omega) _ _ _ _,.inr ⟨λh=>F (h c1 (by omega)),_,_,_,_,hk,rfl⟩⟩
  ·have Q:c=0:=by omega
   subst Q;have c0:=a.out.1;have c1:=a.out.2.1;have c2:=a.out.2.2.1;have c3:=a.out.2.2.2.1;have L:=a.out.2.2.2.2 0;have M:=a.out.2.2.2.2 1;have N:=a.out.2.2.2.2 2;have O:=a.out.2.2.2.2 3;go_wp2;refine bodyPost_ret (v := .agg #[.int .i64 0,.int .i64 0,.int .i64 0,.int .i64 0]) (by simp[results,Tryz.results191,go_sem,c0,c1,c2,c3]) rfl ⟨_,rfl,ext_set4 (grown_trans l e) (by omega) _ _ _ _,.inl ⟨λm h=>z.out m (by omega) h,rfl⟩⟩
open Classical in
theorem faultR_of {e:Prop}{v:Value}(h:FaultR e v):∃a b c d:Int,v=.agg #[.int .i64 a,.int .i64 b,.int .i64 c,.int .i64 d]/\(a == 0)=decide e:=by
 rcases h with⟨i,rfl⟩|⟨j,a,b,c,d,ha,rfl⟩
 ·exact⟨0,0,0,0,rfl,by simp[i]⟩
 ·exact⟨a,b,c,d,rfl,by simp[j,ha]⟩
open Classical in
theorem l08Consistent_ok (P:Pr) (hP:Valid P) (w:World) (pv:Value) (j:Nat->Prop) (e:PresV j w pv P) :
  Calls Tryz.prog 124 #[pv] w (Ret w λ_ v=>v=.bool (decide (RAll P))):=by
 obtain⟨vo,vp,vc,rfl,h3⟩:=e;have k:=PresP.box h3 28;have i:Ext w (w.alloc (.cells #[vo,vp,vc] 28)):=World.grownBy_alloc _ _ _;go_enter Tryz.func124,Tryz.ntmps124;go_wp2_with fail
 refine Calls.mono (l08Fault_ok P hP _ _ _ ⟨_,_,_,rfl,Pres3.ext h3 (World.grownBy_alloc _ _ _)⟩) ?_;rintro m p ⟨q,rfl,hgA,hFA⟩;obtain⟨a,b,c,d,rfl,hab⟩:=faultR_of hFA;have l:∀w:World,(Instr.field 190 (.agg #[.int .i64 a,.int .i64 b,.int .i64 c,.int .i64 d]) 0).run Tryz.prog w=.ok (.int .i64 a) w:=λ_=>by kernel_rfl
 go_wp2;exact bodyPost_ret (v := .bool (decide (RAll P))) (by simp[results,Tryz.results124,go_sem]) rfl ⟨_,rfl,grown_trans i hgA,rfl⟩
open Classical in
theorem l08Group_ok (P:Pr) (w:World) (pv:Value) (l:Nat->Prop) (i:PresV l w pv P) :
  Calls Tryz.prog 61 #[pv] w (Ret w λ_ v=>v=.bool (rconsB P)):=by
 obtain⟨vo,vp,vc,rfl,h3⟩:=i;have j:=PresP.box h3 28;have b:Ext w (w.alloc (.cells #[vo,vp,vc] 28)):=World.grownBy_alloc _ _ _;go_enter Tryz.func61,Tryz.ntmps61;go_wp2_with fail
 refine Calls.mono (sIsPresentation_ok _ _ P _ ⟨_,_,_,rfl,Pres3.ext h3 (World.grownBy_alloc _ _ _)⟩) ?_;rintro p q ⟨r,rfl,a,rfl⟩;obtain⟨m,vp5,vc5,_,_,hb1,hb2,hb3,h3r⟩:=(j.ext a).at;simp at hb2 hb3
 by_cases e:Valid P
 ·have h1:validB P=true:=by simp[validB,e]
  rw[h1];go_wp2_with fail
  refine Calls.mono (l08Consistent_ok P e _ _ _ ⟨_,_,_,rfl,h3r⟩) ?_;rintro u y ⟨z,rfl,k,rfl⟩;go_wp2;exact bodyPost_ret (v := .bool (rconsB P)) (by simp[results,Tryz.results61,go_sem,rconsB,e]) rfl ⟨_,rfl,grown_trans b (grown_trans a k),rfl⟩
 ·have h1:validB P=false:=by simp[validB,e]
  rw[h1];go_wp2;exact bodyPost_ret (v := .bool (rconsB P)) (by simp[results,Tryz.results61,go_sem,rconsB,e]) rfl ⟨_,rfl,grown_trans b a,rfl⟩
def IFrom (P:Pr) (c:Nat):Prop:=c<=P.orders.length/\(∀m,c<=m->m<P.orders.length->ILevel P m)/\(0<c->¬ILevel P (c-1))
open Classical in
theorem consistentFrom_ok (P:Pr) (hP:Valid P) (w:World) (p:Value) (z:Nat->Prop) (j:PresP z w p P) :
  Calls Tryz.prog 165 #[p] w (Ret w λ_ v=>∃c:Nat,v=.int .i64 c/\IFrom P c):=by
 have A:=hP.n6;obtain⟨pb,po,rfl,_⟩:=j.shape;obtain⟨B,capo,hco,hoi⟩:=j.ordAt;go_enter Tryz.func165,Tryz.ntmps165;go_wp2;clear hco hoi;go_loopw [3] (λk wr=>∃c:Nat,k=.int .i64 (c:Int)/\c<=P.orders.length/\Ext w wr/\∀m,c<=m->m<P.orders.length->ILevel P m) (λk _=>(intOf k).toNat)
 case atStart=>exact⟨P.orders.length,by go_num,by omega,Ext.refl _,λm h1 r=>by omega⟩
 case round=>
  obtain⟨c,rfl,hc,i,hlev⟩:=hrel;have a:=Lib.hid hlev;clear hlev;by_cases u:1<=c
  ·obtain ⟨c1,rfl⟩:∃c1,c=c1+1:=⟨c-1,by omega⟩
   go_wp2_with fail
   refine Calls.mono (levelFault_ok P hP wr _ c1 _ (j.ext i) (by omega)) ?_;rintro C D ⟨E,rfl,hgA,l⟩;rcases l with⟨b,hv⟩|⟨e,k0,k1,k2,k3,hk,rfl⟩
   ·unfold fault0 at hv
    subst hv;go_wp2;go_roundw
    case rel=>exact⟨c1,by go_num,by omega,grown_trans i hgA,λm h1 r=>by
     rcases Nat.lt_or_ge c1 m with y|y
     ·exact a.out m y r
     ·have:m=c1:=by omega
      rw[this];exact b⟩
    case measure=>simp[intOf]
   ·go_wp2
    exact bodyPost_ret (v := .int .i64 ((c1+1:Nat):Int)) (by simp[results,Tryz.results165,go_sem]) rfl ⟨_,rfl,grown_trans i hgA,c1+1,rfl,hc,a.out,λ_=>by simpa using e⟩
  ·have q:c=0:=by omega
   subst q;go_wp2;exact bodyPost_ret (v := .int .i64 ((0:Nat):Int)) (by simp[results,Tryz.results165,go_sem]) rfl ⟨_,rfl,i,0,rfl,by omega,a.out,λh=>by omega⟩
open Classical in
theorem isConsistent_ok (P:Pr) (w:World) (pv:Value) (m:Nat->Prop) (i:PresV m w pv P) :
  Calls Tryz.prog 86 #[pv] w (Ret w λ_ v=>v=.bool (iconsB P)):=by
 obtain⟨vo,vp,vc,rfl,h3⟩:=i;have j:=PresP.box h3 28;have b:Ext w (w.alloc (.cells #[vo,vp,vc] 28)):=World.grownBy_alloc _ _ _;go_enter Tryz.func86,Tryz.ntmps86;go_wp2_with fail
 refine Calls.mono (isPresentation_ok _ _ P _ ⟨_,_,_,rfl,Pres3.ext h3 (World.grownBy_alloc _ _ _)⟩) ?_;rintro r u ⟨y,rfl,a,rfl⟩;by_cases e:Valid P
 ·have h1:validB P=true:=by simp[validB,e]
  rw[h1];go_wp2_with fail
  refine Calls.mono (consistentFrom_ok P e _ _ _ (j.ext a)) ?_;rintro z A ⟨B,rfl,l,c,rfl,hc⟩
  have p:((c:Int) == 0)=iconsB P:=by
   obtain⟨q,hc2,hc3⟩:=hc;cases c with
   | zero=>simp[iconsB,e];exact λk hk=>hc2 k (Nat.zero_le _) hk
   | succ c=>
    have:iconsB P=false:=by
     simp only[iconsB,decide_eq_false_iff_not];rintro⟨_,h⟩;exact hc3 (by omega) (h c (by omega))
    rw[this];simp;omega
  go_wp2;exact bodyPost_ret (v := .bool (iconsB P)) (by simp[results,Tryz.results86,go_sem]) rfl ⟨_,rfl,grown_trans b (grown_trans a l),rfl⟩
 ·have h1:validB P=false:=by simp[validB,e]
  rw[h1];go_wp2;exact bodyPost_ret (v := .bool (iconsB P)) (by simp[results,Tryz.results86,go_sem,iconsB,e]) rfl ⟨_,rfl,grown_trans b a,rfl⟩
end Go.Proofs.YtoakmefajbbggaaGreat
