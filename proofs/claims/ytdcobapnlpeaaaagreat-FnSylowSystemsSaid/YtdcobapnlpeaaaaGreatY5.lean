/- Merged from templates. -/
import Derived.Test.YtdcobapnlpeaaaaGreatY3
import Derived.Test.YtdcobapnlpeaaaaGreatY4
set_option maxRecDepth 100000
set_option maxHeartbeats 8000000
namespace Go.Proofs.YtdcobapnlpeaaaaGreat
open Go.RowKit
def RCond1 (P:Pr) (f i J:Nat):Prop:=rRep (rAt P f (i+1)) (zeros P.orders.length) (gt (gt P.conj i) (J-i-1)) (gt P.orders J).toNat=rImage P f i (gt P.powers J)
def RCond2 (P:Pr) (f i J K:Nat):Prop:=rAt P f (i+1) (gt (gt P.conj i) (K-i-1)) (gt (gt P.conj i) (J-i-1))=rAt P f (i+1) (gt (gt P.conj i) (J-i-1)) (rImage P f i (gt (gt P.conj J) (K-J-1)))
def RCond3 (P:Pr) (f i:Nat):Prop:=rImage P f i (gt P.powers i)=gt P.powers i
def RCond4 (P:Pr) (f i J:Nat):Prop:=rAt P f (i+1) (gt P.powers i) (iter (gt P.orders i).toNat (λx=>rImage P f i x) (unitV P.orders.length J))=rAt P f (i+1) (unitV P.orders.length J) (gt P.powers i)
structure RLevel (P:Pr) (f i:Nat):Prop where
 c1:∀J,i<J->J<P.orders.length->RCond1 P f i J
 c2:∀J K,i<J->J<K->K<P.orders.length->RCond2 P f i J K
 c3:RCond3 P f i
 c4:∀J,i<J->J<P.orders.length->RCond4 P f i J
theorem rImage_vec {P:Pr}(hP:Valid P) (f i:Nat) (a:i+(f+1)=P.orders.length) (x:List Int):Vec P.orders (rImage P f i x):=
 rImgTo_vec hP f i a (rAt_vec hP f) _ _ (zeros_vec hP) f (Nat.le_refl _)
theorem rRepF_vec {P:Pr}(hP:Valid P) (f i:Nat) (j:i+f=P.orders.length):∀(g:Nat) (o b:List Int) (k:Nat),Vec P.orders o->Vec P.orders b->Vec P.orders (rRepF (rAt P f i) g o b k):=by
 intro g;induction g with
 | zero=>intro o b k a _;exact a
 | succ g l=>
  intro o b k a e;simp only[rRepF];split
  ·exact a
  ·refine l _ _ _ ?_ (rAt_vec hP f i _ _ j e e)
   split
   ·exact rAt_vec hP f i _ _ j a e
   ·exact a
theorem l08Level_ok (P:Pr) (hP:Valid P) (w:World) (pv:Value) (i f:Nat) (Sp:Nat->Prop) (bN:PresV Sp w pv P) (N:i+(f+1)=P.orders.length) :
  Calls Tryz.prog 323 #[pv,.int .i64 i] w (Ret w λ_ v=>FaultR (RLevel P f i) v):=by
 have hi:i<P.orders.length:=by omega
 have cr:=hP.n6;obtain⟨vo,vp,vc,rfl,Y⟩:=bN;have a8:=PresP.box Y 28;have S:Ext w ((w.alloc (.cells #[vo,vp,vc] 28)).alloc (.cells #[.int .i64 0,.int .i64 0,.int .i64 0,.int .i64 0] 230)):=grown_trans (World.grownBy_alloc _ _ _) (World.grownBy_alloc _ _ _);have ah:=a8.ext (World.grownBy_alloc (w.alloc (.cells #[vo,vp,vc] 28)) (.cells #[.int .i64 0,.int .i64 0,.int .i64 0,.int .i64 0] 230) none);obtain⟨ao,capo,dL,hoi⟩:=ah.ordAt;go_enter Tryz.func323,Tryz.ntmps323;go_wp2;clear dL hoi;have af:(w.alloc (.cells #[vo,vp,vc] 28)).heap.size=w.heap.size+1:=by simp
 have r0:((w.alloc (.cells #[vo,vp,vc] 28)).alloc (.cells #[.int .i64 0,.int .i64 0,.int .i64 0,.int .i64 0] 230)).cell? ⟨w.heap.size+1,0,none⟩=some (.int .i64 0):=by rw[World.cell?_alloc_at _ _ _ _ af.symm];rfl
 have r1:((w.alloc (.cells #[vo,vp,vc] 28)).alloc (.cells #[.int .i64 0,.int .i64 0,.int .i64 0,.int .i64 0] 230)).cell? ⟨w.heap.size+1,1,none⟩=some (.int .i64 0):=by rw[World.cell?_alloc_at _ _ _ _ af.symm];rfl
 have r2:((w.alloc (.cells #[vo,vp,vc] 28)).alloc (.cells #[.int .i64 0,.int .i64 0,.int .i64 0,.int .i64 0] 230)).cell? ⟨w.heap.size+1,2,none⟩=some (.int .i64 0):=by rw[World.cell?_alloc_at _ _ _ _ af.symm];rfl
 have r3:((w.alloc (.cells #[vo,vp,vc] 28)).alloc (.cells #[.int .i64 0,.int .i64 0,.int .i64 0,.int .i64 0] 230)).cell? ⟨w.heap.size+1,3,none⟩=some (.int .i64 0):=by rw[World.cell?_alloc_at _ _ _ _ af.symm];rfl
 have rf:∀k,((w.alloc (.cells #[vo,vp,vc] 28)).alloc (.cells #[.int .i64 0,.int .i64 0,.int .i64 0,.int .i64 0] 230)).frozen? ⟨w.heap.size+1,k,none⟩=false:=λk=>World.frozen?_alloc_at _ _ _ _ af.symm;have rs:w.heap.size+1<((w.alloc (.cells #[vo,vp,vc] 28)).alloc (.cells #[.int .i64 0,.int .i64 0,.int .i64 0,.int .i64 0] 230)).heap.size:=by simp
 clear af a8;generalize (w.alloc (.cells #[vo,vp,vc] 28)).alloc (.cells #[.int .i64 0,.int .i64 0,.int .i64 0,.int .i64 0] 230)=w0 at *;have O:=Lib.hid (And.intro r0 (And.intro r1 (And.intro r2 (And.intro r3 rf))));clear r0 r1 r2 r3 rf;have a9:=(hP.pv i hi).1;have Z:=Lib.hid a9;clear a9;have a':=hP.cl;have ba:=hP.pl;have bb:i<P.conj.length:=by omega
 have bO:i<P.powers.length:=by omega
 have be:=hP.cv i hi;have R:=Lib.hid be;clear be;have bf:=Lib.hid a';have bg:=Lib.hid ba;clear a' ba;go_loopw [7] (λjv wr=>∃J:Nat,jv=.int .i64 J/\i+1<=J/\J<=P.orders.length/\Ext w0 wr/\∀m,i<m->m<J->RCond1 P f i m) (λjv _=>P.orders.length-(intOf jv).toNat)
 case atStart=>exact⟨i+1,by go_num,by omega,by omega,Ext.refl _,λm h1 h2=>by omega⟩
 case round =>
  obtain⟨J,rfl,hJ1,hJ2,g,hc1⟩:=hrel;have aQ:=Lib.hid hc1;clear hc1;by_cases z:J<P.orders.length
  ·--<P1
   have bh:(J:Int)<P.orders.length:=by omega
   obtain⟨aj,j4,lN,_,_,hb1,A,B,e⟩:=(ah.ext g).at;obtain⟨ao,capo,rfl,_,_⟩:=e.o.shape;obtain⟨bo,oo,rfl,_,_,gW⟩:=Ints.at e.o J z;obtain⟨ap,capp,rfl,_,_⟩:=Sl.shape e.p;obtain⟨bp,op,ak,C,rfl,_,_,jr,Q⟩:=Rows2.at e.p J (by have:=bg.out;omega);obtain⟨ac,capc,rfl,_,_⟩:=Sl.shape e.c;obtain⟨bc,oc,kR,al,rfl,_,_,jt,iK⟩:=Rows3.at e.c i bb;obtain⟨bd,od,aR,aa,rfl,_,_,hcd,ax⟩:=Rows2.at iK (J-i-1) (by rw[R.out.1];omega);have e1:∀w',Ext wr w'->w'.cell? ⟨w.heap.size,0,none⟩=some (.slice (some ⟨bo,oo,none⟩) P.orders.length capo):=λw' h=>h.cell hb1 (by simp);have e2:∀w',Ext wr w'->w'.cell? ⟨w.heap.size,1,none⟩=some (.slice (some ⟨bp,op,none⟩) P.powers.length capp):=λw' h=>h.cell (by simpa using A) (by simp);have e3:∀w',Ext wr w'->w'.cell? ⟨w.heap.size,2,none⟩=some (.slice (some ⟨bc,oc,none⟩) P.conj.length capc):=λw' h=>h.cell (by simpa using B) (by simp);have e4:∀w',Ext wr w'->w'.cell? ⟨bo,oo+J,none⟩=some (.int .i64 (gt P.orders J)):=λw' h=>h.cell gW (by simp);have e5:∀w',Ext wr w'->w'.cell? ⟨bp,op+J,none⟩=some (.slice ak (gt P.powers J).length C):=λw' h=>h.cell jr (by simp);have e6:∀w',Ext wr w'->w'.cell? ⟨bc,oc+i,none⟩=some (.slice (some ⟨bd,od,none⟩) (gt P.conj i).length al):=λw' h=>h.cell jt (by simp);have e7:∀w',Ext wr w'->w'.cell? ⟨bd,od+(J-i-1),none⟩=some (.slice aR (gt (gt P.conj i) (J-i-1)).length aa):=λw' h=>h.cell hcd (by simp);have b1:(0:Int)<=(J:Int)-i-1:=by omega
   have b2:(J:Int)-i-1<(gt P.conj i).length:=by rw[R.out.1];omega
   have b3:(i:Int)<P.conj.length:=by omega
   have b4:(J:Int)<P.powers.length:=by have:=bg.out;omega
   have b6:(0:Int)<=J:=by omega
   have b7:((J:Int)-i-1).toNat=J-i-1:=by omega
   have b8:(1:Int)<=(J:Int)-i:=by omega
   have s1:IntKind.i64.wrap ((J:Int)-i)=(J:Int)-i:=IntWalk.i64_in _ (by omega);have s2:IntKind.i64.wrap ((J:Int)-i-1)=(J:Int)-i-1:=IntWalk.i64_in _ (by omega);have s3:IntKind.i64.wrap ((i:Int)+1)=(i:Int)+1:=IntWalk.i64_in _ (by omega);have am:=(R.out.2 (J-i-1) (by omega)).1;have an:=(hP.pv J z).1;have bl:=hP.ord7 J z;have T:=Lib.hid (And.intro am (And.intro an bl));clear am an bl;have U:(rRep (rAt P f (i+1)) (zeros P.orders.length) (gt (gt P.conj i) (J-i-1)) (gt P.orders J).toNat).length=P.orders.length:=(rRepF_vec hP f (i+1) (by omega) _ _ _ _ (zeros_vec hP) T.out.1).1;have V:=(rImage_vec hP f i N (gt P.powers J)).1;have W:=Lib.hid (And.intro U V);clear U V;clear hb1 A B gW jr jt hcd iK;have D:=g.cell O.out.1 (by simp);have F:=g.cell O.out.2.1 (by simp);have G:=g.cell O.out.2.2.1 (by simp);have H:=g.cell O.out.2.2.2.1 (by simp);have I:=λk=>frozen_ext g (O.out.2.2.2.2 k) rs;have j:w.heap.size+1<wr.heap.size:=Nat.lt_of_lt_of_le rs g.size;have b:=Lib.hid (And.intro D (And.intro F (And.intro G (And.intro H I))));clear D F G H I;go_wp2
   go_region_held3 (λw'=>Ext wr w') (first|exact grown_drew _ _|assumption)
    (first
     | (go_at_call 210;refine Calls.mono (Calls.rel (w0:=wr) (by assumption) (l08Repeat_ok P hP _ _ _ (i+1) f (by omega) _ _ Any Any ⟨_,_,_,rfl,Pres3.ext e (by assumption)⟩ (Ints.ext ax (by assumption)) T.out.1 (by have:=T.out.2.2;omega) (by have:=T.out.2.2;omega))) ?_;rintro eA X ⟨vA,rfl,l,eW,r⟩))
   clear s1 s2 s3 b1 b2 b7 b8 e6 e7 e4;have f1:∀w',Ext X w'->w'.cell? ⟨w.heap.size,0,none⟩=some (.slice (some ⟨bo,oo,none⟩) P.orders.length capo):=λw' h=>e1 w' (grown_trans l h);have f2:∀w',Ext X w'->w'.cell? ⟨w.heap.size,1,none⟩=some (.slice (some ⟨bp,op,none⟩) P.powers.length capp):=λw' h=>e2 w' (grown_trans l h);have f3:∀w',Ext X w'->w'.cell? ⟨w.heap.size,2,none⟩=some (.slice (some ⟨bc,oc,none⟩) P.conj.length capc):=λw' h=>e3 w' (grown_trans l h);have f5:∀w',Ext X w'->w'.cell? ⟨bp,op+J,none⟩=some (.slice ak (gt P.powers J).length C):=λw' h=>e5 w' (grown_trans l h);clear e1 e2 e3 e5;go_wp2;cases hq:eqB (rRep (rAt P f (i+1)) (zeros P.orders.length) (gt (gt P.conj i) (J-i-1)) (gt P.orders J).toNat) (rImage P f i (gt P.powers J)) with
   | true=>
    have HQ:=Lib.hid hq
    go_region_held3 (λw'=>Ext X w') (first|exact grown_drew _ _|assumption)
     (first
      | (go_at_call 315;refine Calls.mono (Calls.rel2 (w0:=X) (by assumption) (l08Image_of P hP f (l08At_ok P hP f) _ _ _ i _ Any Any N ⟨_,_,_,rfl,Pres3.ext (Pres3.ext e l) (by assumption)⟩ (Ints.ext (Ints.ext Q l) (by assumption)) T.out.2.1)) ?_;rintro eF wF ⟨vF,rfl,u,xE,iL,fP⟩;have q:=(r.ext0 u).ints (by rw[W.out.1];omega);have ar:=fP.ints (by rw[W.out.2];omega))
      | (go_at_call 153;refine Calls.mono (Calls.rel (w0:=X) (by assumption) (l01Same_ok _ _ _ _ _ Any Any q ar)) ?_;rintro eB wB ⟨vB,rfl,jL,hsB,rfl⟩))
    clear f1 f2 f3 f5;have a:Ext wr wB:=grown_trans l jL;go_wp2;go_roundw
    case rel=>exact⟨J+1,by go_num,by omega,by omega,grown_trans g a,λm h1 h2=>by
     rcases Nat.lt_or_ge m J with Y|Y
     ·exact aQ.out m h1 Y
     ·have:m=J:=by omega
      rw[this];exact eqB_true.1 HQ.out⟩
    case measure=>simp[intOf];omega
   | false=>
    have HQ:=Lib.hid hq
    go_region_held3 (λw'=>Ext X w') (first|exact grown_drew _ _|assumption)
     (first
      | (go_at_call 315;refine Calls.mono (Calls.rel2 (w0:=X) (by assumption) (l08Image_of P hP f (l08At_ok P hP f) _ _ _ i _ Any Any N ⟨_,_,_,rfl,Pres3.ext (Pres3.ext e l) (by assumption)⟩ (Ints.ext (Ints.ext Q l) (by assumption)) T.out.2.1)) ?_;rintro eF wF ⟨vF,rfl,u,xE,iL,fP⟩;have q:=(r.ext0 u).ints (by rw[W.out.1];omega);have ar:=fP.ints (by rw[W.out.2];omega))
      | (go_at_call 153;refine Calls.mono (Calls.rel (w0:=X) (by assumption) (l01Same_ok _ _ _ _ _ Any Any q ar)) ?_;rintro eB wB ⟨vB,rfl,jL,hsB,rfl⟩))
    clear f1 f2 f3 f5;have a:Ext wr wB:=grown_trans l jL;have c0:=a.cell b.out.1 (by simp);have c1:=a.cell b.out.2.1 (by simp);have c2:=a.cell b.out.2.2.1 (by simp);have c3:=a.cell b.out.2.2.2.1 (by simp);have az:=frozen_ext a (b.out.2.2.2.2 0) j;have aA:=frozen_ext a (b.out.2.2.2.2 1) j;have aB:=frozen_ext a (b.out.2.2.2.2 2) j;have aC:=frozen_ext a (b.out.2.2.2.2 3) j;go_wp2;refine bodyPost_ret (v := .agg #[.int .i64 1,.int .i64 i,.int .i64 J,.int .i64 0]) (by simp[results,Tryz.results323,go_sem,c0,c1,c2,c3]) rfl ⟨_,rfl,ext_set4 (grown_trans S (grown_trans g a)) (by omega) _ _ _ _,.inr ⟨λh=>eqB_false.1 HQ.out (h.c1 J (by omega) z),_,_,_,_,by decide,rfl⟩⟩
  -->P1
  ·have aM : ∀m,i<m->m<P.orders.length->RCond1 P f i m:=λm h1 h2=>aQ.out m h1 (by omega)
   have bT:=Lib.hid aM;clear aM aQ;go_wp2;clear z;go_loopw [9] (λjv wr=>∃J:Nat,jv=.int .i64 J/\i+1<=J/\J<=P.orders.length/\Ext w0 wr/\∀m n,i<m->m<J->m<n->n<P.orders.length->RCond2 P f i m n) (λjv _=>P.orders.length-(intOf jv).toNat)
   case atStart=>exact⟨i+1,by go_num,by omega,by omega,g,λm n h1 h2=>by omega⟩
   case round =>
    clear g hJ1 hJ2;obtain⟨J,rfl,hJ1,hJ2,g,hc2⟩:=hrel;have aS:=Lib.hid hc2;clear hc2;by_cases z:J<P.orders.length
    ·--<P2
     have bh:(J:Int)<P.orders.length:=by omega
     go_wp2;go_loopw [10] (λkv wr=>∃K:Nat,kv=.int .i64 K/\J+1<=K/\K<=P.orders.length/\Ext w0 wr/\∀n,J<n->n<K->RCond2 P f i J n) (λkv _=>P.orders.length-(intOf kv).toNat)
     case atStart=>exact⟨J+1,by go_num,by omega,by omega,g,λn h1 h2=>by omega⟩
     case round=>
      clear g;obtain⟨K,rfl,hK1,hK2,g,hc3⟩:=hrel;have bm:=Lib.hid hc3;clear hc3;by_cases bn:K<P.orders.length
      ·obtain ⟨aj,j4,lN,_,_,hb1,A,B,e⟩:=(ah.ext g).at
       obtain⟨ac,capc,rfl,_,_⟩:=Sl.shape e.c;obtain⟨bc,oc,kR,al,rfl,_,_,jt,iK⟩:=Rows3.at e.c i bb;obtain⟨bd,od,aR,aa,rfl,_,_,hcd,ax⟩:=Rows2.at iK (J-i-1) (by rw[R.out.1];omega);obtain⟨bU,lM,bV,aT,mS,_,_,pH,xF⟩:=Rows2.at iK (K-i-1) (by rw[R.out.1];omega);obtain⟨rfl,rfl⟩:bU=bd/\lM=od:=by cases mS;exact⟨rfl,rfl⟩
       have ae:=(hP.cv J z);obtain⟨aD,jK,De,aU,mU,_,_,mV,mW⟩:=Rows3.at e.c J (by have:=bf.out;omega);obtain⟨rfl,rfl⟩:aD=bc/\jK=oc:=by cases mU;exact⟨rfl,rfl⟩
       obtain⟨bq,mX,bW,aV,rfl,_,_,mY,aN⟩:=Rows2.at mW (K-J-1) (by rw[ae.1];omega);clear mS mU;have e1:∀w',Ext wr w'->w'.cell? ⟨w.heap.size,0,none⟩=some aj:=λw' h=>h.cell hb1 (by simp);have e2:∀w',Ext wr w'->w'.cell? ⟨w.heap.size,1,none⟩=some j4:=λw' h=>h.cell (by simpa using A) (by simp);have e3:∀w',Ext wr w'->w'.cell? ⟨w.heap.size,2,none⟩=some (.slice (some ⟨aD,jK,none⟩) P.conj.length capc):=λw' h=>h.cell (by simpa using B) (by simp);have br:=e3 wr (Ext.refl _);have e9:∀w',Ext wr w'->w'.cell? ⟨aD,jK+J,none⟩=some (.slice (some ⟨bq,mX,none⟩) (gt P.conj J).length aU):=λw' h=>h.cell mV (by simp);have aE:∀w',Ext wr w'->w'.cell? ⟨bq,mX+(K-J-1),none⟩=some (.slice bW (gt (gt P.conj J) (K-J-1)).length aV):=λw' h=>h.cell mY (by simp);have b1:(0:Int)<=(J:Int)-i-1:=by omega
       have b2:(J:Int)-i-1<(gt P.conj i).length:=by rw[R.out.1];omega
       have b3:(i:Int)<P.conj.length:=by omega
       have b4:(J:Int)<P.conj.length:=by have:=bf.out;omega
       have b7:((J:Int)-i-1).toNat=J-i-1:=by omega
       have b8:(1:Int)<=(J:Int)-i:=by omega
       have k1:(0:Int)<=(K:Int)-i-1:=by omega
       have k2:(K:Int)-i-1<(gt P.conj i).length:=by rw[R.out.1];omega
       have k7:((K:Int)-i-1).toNat=K-i-1:=by omega
       have k8:(1:Int)<=(K:Int)-i:=by omega
       have m1:(0:Int)<=(K:Int)-J-1:=by omega
       have m2:(K:Int)-J-1<(gt P.conj J).length:=by rw[ae.1];omega
       have m7:((K:Int)-J-1).toNat=K-J-1:=by omega
       have m8:(1:Int)<=(K:Int)-J:=by omega
       have b5:(K:Int)<P.orders.length:=by omega
       have s1:IntKind.i64.wrap ((J:Int)-i)=(J:Int)-i:=IntWalk.i64_in _ (by omega);have s2:IntKind.i64.wrap ((J:Int)-i-1)=(J:Int)-i-1:=IntWalk.i64_in _ (by omega);have s3:IntKind.i64.wrap ((K:Int)-i)=(K:Int)-i:=IntWalk.i64_in _ (by omega);have s4:IntKind.i64.wrap ((K:Int)-i-1)=(K:Int)-i-1:=IntWalk.i64_in _ (by omega);have s5:IntKind.i64.wrap ((K:Int)-J)=(K:Int)-J:=IntWalk.i64_in _ (by omega);have s6:IntKind.i64.wrap ((K:Int)-J-1)=(K:Int)-J-1:=IntWalk.i64_in _ (by omega);have s7:IntKind.i64.wrap ((i:Int)+1)=(i:Int)+1:=IntWalk.i64_in _ (by omega);have bs:=(R.out.2 (J-i-1) (by omega)).1;have bt:=(R.out.2 (K-i-1) (by omega)).1;have aO:=(ae.2 (K-J-1) (by omega)).1;have T:=Lib.hid (And.intro bt (And.intro bs aO));clear bs bt aO ae;have aW:=rImage_vec hP f i N (gt (gt P.conj J) (K-J-1));have U:=(rAt_vec hP f (i+1) _ _ (by omega) T.out.1 T.out.2.1).1;have V:=(rAt_vec hP f (i+1) _ _ (by omega) T.out.2.1 aW).1;have W:=Lib.hid (And.intro U (And.intro V aW));clear U V aW;have D:=g.cell O.out.1 (by simp);have F:=g.cell O.out.2.1 (by simp);have G:=g.cell O.out.2.2.1 (by simp);have H:=g.cell O.out.2.2.2.1 (by simp);have I:=λk=>frozen_ext g (O.out.2.2.2.2 k) rs;have j:w.heap.size+1<wr.heap.size:=Nat.lt_of_lt_of_le rs g.size;have b:=Lib.hid (And.intro D (And.intro F (And.intro G (And.intro H I))));clear D F G H I;have E:=Lib.hid (And.intro e1 (And.intro e2 (And.intro e3 (And.intro e9 aE))));clear e1 e2 e3 e9 aE;clear hb1 A B;go_wp2;go_quiet (fail)
       rename_i nq _;have aX:Ext wr (wr.drewN nq):=grown_drewN _ _ _;clear jt hcd pH mV mY iK mW br;obtain⟨wq,aY⟩:∃wq:World,wq=wr.drewN nq:=⟨_,rfl⟩;rw[<-aY] at aX;rw[<-aY];clear aY;obtain⟨e1,e2,e3,e9,aE⟩:=E.out;go_wp2
       go_region_held3 (λw'=>Ext wr w') (first|exact grown_trans aX (grown_drew _ _)|exact aX|exact grown_drew _ _|assumption)
        (first
         | (go_at_call 315;refine Calls.mono (Calls.rel (w0:=wr) (by assumption) (l08Image_of P hP f (l08At_ok P hP f) _ _ _ i _ Any Any N ⟨_,_,_,rfl,Pres3.ext e (by assumption)⟩ (Ints.ext aN (by assumption)) T.out.2.2)) ?_;rintro eF wF ⟨vF,rfl,u,xE,fP⟩))
       have bu:=fP.ints (by rw[W.out.2.2.1];omega);have bv:Ints Any wF (.slice bV (gt (gt P.conj i) (K-i-1)).length aT) _:=Ints.ext xF u;have aF:Ints Any wF (.slice aR (gt (gt P.conj i) (J-i-1)).length aa) _:=Ints.ext ax u;have aG:=Pres3.ext e u;have f1:∀w',Ext wF w'->w'.cell? ⟨w.heap.size,0,none⟩=some aj:=λw' h=>e1 w' (grown_trans u h);have f2:∀w',Ext wF w'->w'.cell? ⟨w.heap.size,1,none⟩=some j4:=λw' h=>e2 w' (grown_trans u h);have f3:∀w',Ext wF w'->w'.cell? ⟨w.heap.size,2,none⟩=some (.slice (some ⟨aD,jK,none⟩) P.conj.length capc):=λw' h=>e3 w' (grown_trans u h);clear e1 e2 e3 e9 aE E s1 s2 s3 s4 s5 s6 b1 b2 b7 b8 k1 k2 k7 k8 m1 m2 m7 m8 aN xF ax e fP;go_wp2;cases hq:eqB (rAt P f (i+1) (gt (gt P.conj i) (K-i-1)) (gt (gt P.conj i) (J-i-1))) (rAt P f (i+1) (gt (gt P.conj i) (J-i-1)) (rImage P f i (gt (gt P.conj J) (K-J-1)))) with
       | true=>
        have HQ:=Lib.hid hq
        go_region_held3 (λw'=>Ext wF w') (first|exact grown_drew _ _|assumption)
         (first
          | (go_at_call_of 281 (vF);refine Calls.mono (Calls.rel2 (w0:=wF) (by assumption) (l08At_ok P hP f _ _ _ _ (i+1) _ _ Any Any Any (by omega) ⟨_,_,_,rfl,Pres3.ext aG (by assumption)⟩ (Ints.ext aF (by assumption)) (Ints.ext bu (by assumption)) T.out.2.1 W.out.2.2)) ?_;rintro eG wG ⟨vG,rfl,mZ,L,nL,kN⟩;have q:=(r.ext0 L).ints (by rw[W.out.1];omega);have M:=kN.ints (by rw[W.out.2.1];omega))
          | (go_at_call 281;refine Calls.mono (Calls.rel (w0:=wF) (by assumption) (l08At_ok P hP f _ _ _ _ (i+1) _ _ Any Any Any (by omega) ⟨_,_,_,rfl,Pres3.ext aG (by assumption)⟩ (Ints.ext bv (by assumption)) (Ints.ext aF (by assumption)) T.out.1 T.out.2.1)) ?_;rintro eA X ⟨vA,rfl,l,eW,r⟩)
          | (go_at_call 153;refine Calls.mono (Calls.rel (w0:=wF) (by assumption) (l01Same_ok _ _ _ _ _ Any Any q M)) ?_;rintro eB wB ⟨vB,rfl,kO,hsB,rfl⟩))
        clear f1 f2 f3;have a:Ext wr wB:=grown_trans u kO;go_wp2;go_roundw
        case rel=>exact⟨K+1,by go_num,by omega,by omega,grown_trans g a,λn h1 h2=>by
         rcases Nat.lt_or_ge n K with Y|Y
         ·exact bm.out n h1 Y
         ·have:n=K:=by omega
          rw[this];exact eqB_true.1 HQ.out⟩
        case measure=>simp[intOf];omega
       | false=>
        have HQ:=Lib.hid hq
        go_region_held3 (λw'=>Ext wF w') (first|exact grown_drew _ _|assumption)
         (first
          | (go_at_call_of 281 (vF);refine Calls.mono (Calls.rel2 (w0:=wF) (by assumption) (l08At_ok P hP f _ _ _ _ (i+1) _ _ Any Any Any (by omega) ⟨_,_,_,rfl,Pres3.ext aG (by assumption)⟩ (Ints.ext aF (by assumption)) (Ints.ext bu (by assumption)) T.out.2.1 W.out.2.2)) ?_;rintro eG wG ⟨vG,rfl,mZ,L,nL,kN⟩;have q:=(r.ext0 L).ints (by rw[W.out.1];omega);have M:=kN.ints (by rw[W.out.2.1];omega))
          | (go_at_call 281;refine Calls.mono (Calls.rel (w0:=wF) (by assumption) (l08At_ok P hP f _ _ _ _ (i+1) _ _ Any Any Any (by omega) ⟨_,_,_,rfl,Pres3.ext aG (by assumption)⟩ (Ints.ext bv (by assumption)) (Ints.ext aF (by assumption)) T.out.1 T.out.2.1)) ?_;rintro eA X ⟨vA,rfl,l,eW,r⟩)
          | (go_at_call 153;refine Calls.mono (Calls.rel (w0:=wF) (by assumption) (l01Same_ok _ _ _ _ _ Any Any q M)) ?_;rintro eB wB ⟨vB,rfl,kO,hsB,rfl⟩))
        clear f1 f2 f3;have a:Ext wr wB:=grown_trans u kO;have c0:=a.cell b.out.1 (by simp);have c1:=a.cell b.out.2.1 (by simp);have c2:=a.cell b.out.2.2.1 (by simp);have c3:=a.cell b.out.2.2.2.1 (by simp);have az:=frozen_ext a (b.out.2.2.2.2 0) j;have aA:=frozen_ext a (b.out.2.2.2.2 1) j;have aB:=frozen_ext a (b.out.2.2.2.2 2) j;have aC:=frozen_ext a (b.out.2.2.2.2 3) j;go_wp2;refine bodyPost_ret (v := .agg #[.int .i64 2,.int .i64 i,.int .i64 J,.int .i64 K]) (by simp[results,Tryz.results323,go_sem,c0,c1,c2,c3]) rfl ⟨_,rfl,ext_set4 (grown_trans S (grown_trans g a)) (by omega) _ _ _ _,.inr ⟨λh=>eqB_false.1 HQ.out (h.c2 J K (by omega) (by omega) bn),_,_,_,_,by decide,rfl⟩⟩
      ·have cL:K=P.orders.length:=by omega
       go_wp2;go_roundw
       case rel=>exact⟨J+1,by go_num,by omega,by omega,g,λm n h1 h2 Y h4=>by
         rcases Nat.lt_or_ge m J with h5|h5
         ·exact aS.out m n h1 h5 Y h4
         ·have:m=J:=by omega
          subst this;exact bm.out n Y (by omega)⟩
       case measure=>simp[intOf];omega
    -->P2
    ·have au:∀m n,i<m->m<n->n<P.orders.length->RCond2 P f i m n:=λm n h1 h2 Y=>aS.out m n h1 (by omega) h2 Y
     have b0:=Lib.hid au;clear au aS;obtain⟨aj,j4,lN,_,_,hb1,A,B,e⟩:=(ah.ext g).at;obtain⟨ap,capp,rfl,_,_⟩:=Sl.shape e.p;obtain⟨bp,op,ak,C,rfl,_,_,jr,Q⟩:=Rows2.at e.p i bO;have bw:=(rImage_vec hP f i N (gt P.powers i)).1;have b9:=Lib.hid bw;clear bw;have D:=g.cell O.out.1 (by simp);have F:=g.cell O.out.2.1 (by simp);have G:=g.cell O.out.2.2.1 (by simp);have H:=g.cell O.out.2.2.2.1 (by simp);have I:=λk=>frozen_ext g (O.out.2.2.2.2 k) rs;have j:w.heap.size+1<wr.heap.size:=Nat.lt_of_lt_of_le rs g.size;have b:=Lib.hid (And.intro D (And.intro F (And.intro G (And.intro H I))));clear D F G H I;go_wp2_with fail
     refine Calls.mono (l08Image_of P hP f (l08At_ok P hP f) wr _ _ i _ Any Any N ⟨_,_,_,rfl,e⟩ Q Z.out) ?_;rintro eA X ⟨vA,rfl,l,r⟩;go_wp2_with fail
     refine Calls.mono (l01Same_ok _ _ _ _ X Any Any (r.ints (by rw[b9.out];omega)) (Ints.ext Q l)) ?_;rintro eB wB ⟨vB,rfl,jL,rfl⟩;have a:Ext wr wB:=grown_trans l jL;have av:Ints Any wB (.slice ak (gt P.powers i).length C) (gt P.powers i):=Ints.ext Q a;cases hq:eqB (rImage P f i (gt P.powers i)) (gt P.powers i) with
     | false=>
      have HQ:=Lib.hid hq;have c0:=a.cell b.out.1 (by simp);have c1:=a.cell b.out.2.1 (by simp);have c2:=a.cell b.out.2.2.1 (by simp);have c3:=a.cell b.out.2.2.2.1 (by simp);have az:=frozen_ext a (b.out.2.2.2.2 0) j;have aA:=frozen_ext a (b.out.2.2.2.2 1) j;have aB:=frozen_ext a (b.out.2.2.2.2 2) j;have aC:=frozen_ext a (b.out.2.2.2.2 3) j;go_wp2;refine bodyPost_ret (v := .agg #[.int .i64 3,.int .i64 i,.int .i64 0,.int .i64 0]) (by simp[results,Tryz.results323,go_sem,c0,c1,c2,c3]) rfl ⟨_,rfl,ext_set4 (grown_trans S (grown_trans g a)) (by omega) _ _ _ _,.inr ⟨λh=>eqB_false.1 HQ.out h.c3,_,_,_,_,by decide,rfl⟩⟩
     | true =>
      --<P4
      have HQ:=Lib.hid (eqB_true.1 hq);have bx:=grown_trans g a;clear jr hb1 A B e;go_wp2;clear hq;obtain⟨wz,rfl⟩:∃wz:World,wz=wB:=⟨_,rfl⟩;go_loopw [15] (λjv wr=>∃J:Nat,jv=.int .i64 J/\i+1<=J/\J<=P.orders.length/\Ext w0 wr/\Ext wz wr/\∀m,i<m->m<J->RCond4 P f i m) (λjv _=>P.orders.length-(intOf jv).toNat)
      case atStart=>exact⟨i+1,by go_num,by omega,by omega,bx,Ext.refl _,λm h1 h2=>by omega⟩
      case round=>
       clear g l a bx r hJ1 hJ2 b j jL z;obtain⟨J,rfl,hJ1,hJ2,g,bz,jN⟩:=hrel;have bA:=Lib.hid jN;clear jN;have D:=g.cell O.out.1 (by simp);have F:=g.cell O.out.2.1 (by simp);have G:=g.cell O.out.2.2.1 (by simp);have H:=g.cell O.out.2.2.2.1 (by simp);have I:=λk=>frozen_ext g (O.out.2.2.2.2 k) rs;have j:w.heap.size+1<wr.heap.size:=Nat.lt_of_lt_of_le rs g.size;have b:=Lib.hid (And.intro D (And.intro F (And.intro G (And.intro H I))));clear D F G H I;by_cases z:J<P.orders.length
       ·have bh:(J:Int)<P.orders.length:=by omega
        go_wp2_with fail
        refine Calls.mono (l07Unit_ok P.orders.length J wr z (by omega)) ?_;rintro eU wU ⟨vU,rfl,Dh,pI⟩;have aZ:=pI.ints (by rw[(unitV_vec hP J).1];omega);have aP:=hP.ord7 i hi;have cO:0<=gt P.orders i:=by omega
        have cP:gt P.orders i<=7:=aP.2;clear aP;go_wp2;obtain⟨wo,rfl⟩:∃wo:World,wo=wr:=⟨_,rfl⟩;go_loopw [17,18] (λxv mv w2=>∃m:Nat,mv=.int .i64 m/\m<=(gt P.orders i).toNat/\Ext wU w2/\Ints Any w2 xv (iter m (λx=>rImage P f i x) (unitV P.orders.length J))) (λ_ mv _=>(gt P.orders i).toNat-(intOf mv).toNat)
        case atStart=>exact⟨0,rfl,by omega,Ext.refl _,aZ⟩
        case round=>
         obtain⟨m,rfl,hm,hg2,hX⟩:=hrel;have aH:=grown_trans Dh hg2;have cc:=grown_trans g aH;have bB:Vec P.orders (iter m (λx=>rImage P f i x) (unitV P.orders.length J)):=iter_inv (Vec P.orders) _ (λy hy=>rImage_vec hP f i N y) _ _ (unitV_vec hP J);have a0:=Lib.hid bB;clear bB;obtain⟨aj,j4,lN,_,_,hb1,A,B,e⟩:=(ah.ext cc).at;obtain⟨cR,capo5,rfl,_,_⟩:=e.o.shape;obtain⟨bo,oo,rfl,_,_,gW⟩:=Ints.at e.o i hi;by_cases cp:(m:Int)<gt P.orders i
         ·go_wp2_with fail
          refine Calls.mono (l08Image_of P hP f (l08At_ok P hP f) wr _ _ i _ Any Any N ⟨_,_,_,rfl,e⟩ hX a0.out) ?_;rintro eA X ⟨vA,rfl,l,r⟩;have bC:=rImage_vec hP f i N (iter m (λx=>rImage P f i x) (unitV P.orders.length J));have bD:=r.ints (by rw[bC.1];omega);clear bC hb1 A B gW;go_wp2;go_roundw
          case rel=>exact⟨m+1,by go_num,by omega,grown_trans hg2 l,bD⟩
          case measure=>simp[intOf];omega
         ·have bE:m=(gt P.orders i).toNat:=by omega
          have a1:=a0.out;have bF:Ints Any wr u17 (iter (gt P.orders i).toNat (λx=>rImage P f i x) (unitV P.orders.length J)):=by rw[<-bE];exact hX
          rw[bE] at a1;have a2:=Lib.hid a1;clear a1 hX a0;have U:=(rAt_vec hP f (i+1) _ _ (by omega) Z.out a2.out).1;have V:=(rAt_vec hP f (i+1) _ _ (by omega) (unitV_vec hP J) Z.out).1;have W:=Lib.hid (And.intro U V);clear U V;have s3:IntKind.i64.wrap ((i:Int)+1)=(i:Int)+1:=IntWalk.i64_in _ (by omega);have aI:Ints Any wr (.slice ak (gt P.powers i).length C) (gt P.powers i):=Ints.ext av (grown_trans bz aH);have bG:Ints Any wr vU (unitV P.orders.length J):=aZ.ext hg2;have f1:∀w',Ext wr w'->w'.cell? ⟨w.heap.size,0,none⟩=some (.slice (some ⟨bo,oo,none⟩) P.orders.length capo5):=λw' h=>h.cell hb1 (by simp);have f2:∀w',Ext wr w'->w'.cell? ⟨w.heap.size,1,none⟩=some j4:=λw' h=>h.cell (by simpa using A) (by simp);have f3:∀w',Ext wr w'->w'.cell? ⟨w.heap.size,2,none⟩=some lN:=λw' h=>h.cell (by simpa using B) (by simp);clear av aZ pI;go_wp2;clear hb1 A B gW;cases hq:eqB (rAt P f (i+1) (gt P.powers i) (iter (gt P.orders i).toNat (λx=>rImage P f i x) (unitV P.orders.length J))) (rAt P f (i+1) (unitV P.orders.length J) (gt P.powers i)) with
          | true=>
           have a3:=Lib.hid hq
           go_region_held3 (λw'=>Ext wr w') (first|exact grown_drew _ _|assumption)
            (first
             | (go_at_call_of 281 (vU);refine Calls.mono (Calls.rel2 (w0:=wr) (by assumption) (l08At_ok P hP f _ _ _ _ (i+1) _ _ Any Any Any (by omega) ⟨_,_,_,rfl,Pres3.ext e (by assumption)⟩ (Ints.ext bG (by assumption)) (Ints.ext aI (by assumption)) (unitV_vec hP J) Z.out)) ?_;rintro eG wG ⟨vG,rfl,mZ,L,nL,kN⟩;have q:=(r.ext0 L).ints (by rw[W.out.1];omega);have M:=kN.ints (by rw[W.out.2];omega))
             | (go_at_call 281;refine Calls.mono (Calls.rel (w0:=wr) (by assumption) (l08At_ok P hP f _ _ _ _ (i+1) _ _ Any Any Any (by omega) ⟨_,_,_,rfl,Pres3.ext e (by assumption)⟩ (Ints.ext aI (by assumption)) (Ints.ext bF (by assumption)) Z.out a2.out)) ?_;rintro eA X ⟨vA,rfl,l,eW,r⟩)
             | (go_at_call 153;refine Calls.mono (Calls.rel (w0:=wr) (by assumption) (l01Same_ok _ _ _ _ _ Any Any q M)) ?_;rintro eB wB ⟨vB,rfl,kO,hsB,rfl⟩))
           clear f1 f2 f3;have a:Ext wo wB:=grown_trans aH kO;go_wp2;go_roundw
           case rel=>exact⟨J+1,by go_num,by omega,by omega,grown_trans g a,grown_trans bz a,λm h1 h2=>by
            rcases Nat.lt_or_ge m J with Y|Y
            ·exact bA.out m h1 Y
            ·have:m=J:=by omega
             rw[this];exact eqB_true.1 a3.out⟩
           case measure=>simp[intOf];omega
          | false=>
           have a3:=Lib.hid hq
           go_region_held3 (λw'=>Ext wr w') (first|exact grown_drew _ _|assumption)
            (first
             | (go_at_call_of 281 (vU);refine Calls.mono (Calls.rel2 (w0:=wr) (by assumption) (l08At_ok P hP f _ _ _ _ (i+1) _ _ Any Any Any (by omega) ⟨_,_,_,rfl,Pres3.ext e (by assumption)⟩ (Ints.ext bG (by assumption)) (Ints.ext aI (by assumption)) (unitV_vec hP J) Z.out)) ?_;rintro eG wG ⟨vG,rfl,mZ,L,nL,kN⟩;have q:=(r.ext0 L).ints (by rw[W.out.1];omega);have M:=kN.ints (by rw[W.out.2];omega))
             | (go_at_call 281;refine Calls.mono (Calls.rel (w0:=wr) (by assumption) (l08At_ok P hP f _ _ _ _ (i+1) _ _ Any Any Any (by omega) ⟨_,_,_,rfl,Pres3.ext e (by assumption)⟩ (Ints.ext aI (by assumption)) (Ints.ext bF (by assumption)) Z.out a2.out)) ?_;rintro eA X ⟨vA,rfl,l,eW,r⟩)
             | (go_at_call 153;refine Calls.mono (Calls.rel (w0:=wr) (by assumption) (l01Same_ok _ _ _ _ _ Any Any q M)) ?_;rintro eB wB ⟨vB,rfl,kO,hsB,rfl⟩))
           clear f1 f2 f3;have a:Ext wo wB:=grown_trans aH kO;have c0:=a.cell b.out.1 (by simp);have c1:=a.cell b.out.2.1 (by simp);have c2:=a.cell b.out.2.2.1 (by simp);have c3:=a.cell b.out.2.2.2.1 (by simp);have az:=frozen_ext a (b.out.2.2.2.2 0) j;have aA:=frozen_ext a (b.out.2.2.2.2 1) j;have aB:=frozen_ext a (b.out.2.2.2.2 2) j;have aC:=frozen_ext a (b.out.2.2.2.2 3) j;go_wp2;refine bodyPost_ret (v := .agg #[.int .i64 4,.int .i64 i,.int .i64 J,.int .i64 0]) (by simp[results,Tryz.results323,go_sem,c0,c1,c2,c3]) rfl ⟨_,rfl,ext_set4 (grown_trans S (grown_trans g a)) (by omega) _ _ _ _,.inr ⟨λh=>eqB_false.1 a3.out (h.c4 J (by omega) z),_,_,_,_,by decide,rfl⟩⟩
       ·have cd:J=P.orders.length:=by omega
        subst cd;have c0:=b.out.1;have c1:=b.out.2.1;have c2:=b.out.2.2.1;have c3:=b.out.2.2.2.1;have az:=b.out.2.2.2.2 0;have aA:=b.out.2.2.2.2 1;have aB:=b.out.2.2.2.2 2;have aC:=b.out.2.2.2.2 3;go_wp2;refine bodyPost_ret (v := .agg #[.int .i64 0,.int .i64 0,.int .i64 0,.int .i64 0]) (by simp[results,Tryz.results323,go_sem,c0,c1,c2,c3]) rfl ⟨_,rfl,ext_set4 (grown_trans S g) (by omega) _ _ _ _,.inl ⟨⟨bT.out,b0.out,HQ.out,bA.out⟩,rfl⟩⟩
      -->P4
def IAll (P:Pr):Prop:=∀k,k<P.orders.length->ILevel P k
def RAll (P:Pr):Prop:=∀k,k<P.orders.length->RLevel P (P.orders.length-1-k) k
open Classical in
noncomputable def iconsB (P:Pr):Bool:=decide (Valid P/\IAll P)
open Classical in
noncomputable def rconsB (P:Pr):Bool:=decide (Valid P/\RAll P)
theorem l08Fault_ok (P:Pr) (hP:Valid P) (w:World) (pv:Value) (Sp:Nat->Prop) (F:PresV Sp w pv P) :
  Calls Tryz.prog 295 #[pv] w (Ret w λ_ v=>FaultR (RAll P) v):=by
 have ab:=hP.n6;obtain⟨vo,vp,vc,rfl,E⟩:=F;have p:=PresP.box E 28;have j:Ext w ((w.alloc (.cells #[vo,vp,vc] 28)).alloc (.cells #[.int .i64 0,.int .i64 0,.int .i64 0,.int .i64 0] 230)):=grown_trans (World.grownBy_alloc _ _ _) (World.grownBy_alloc _ _ _);have q:=p.ext (World.grownBy_alloc (w.alloc (.cells #[vo,vp,vc] 28)) (.cells #[.int .i64 0,.int .i64 0,.int .i64 0,.int .i64 0] 230) none);obtain⟨ao,capo,dL,hoi⟩:=q.ordAt;go_enter Tryz.func295,Tryz.ntmps295;go_wp2;clear dL hoi;have b:(w.alloc (.cells #[vo,vp,vc] 28)).heap.size=w.heap.size+1:=by simp
 have O:((w.alloc (.cells #[vo,vp,vc] 28)).alloc (.cells #[.int .i64 0,.int .i64 0,.int .i64 0,.int .i64 0] 230)).cell? ⟨w.heap.size+1,0,none⟩=some (.int .i64 0):=by rw[World.cell?_alloc_at _ _ _ _ b.symm];rfl
 have Q:((w.alloc (.cells #[vo,vp,vc] 28)).alloc (.cells #[.int .i64 0,.int .i64 0,.int .i64 0,.int .i64 0] 230)).cell? ⟨w.heap.size+1,1,none⟩=some (.int .i64 0):=by rw[World.cell?_alloc_at _ _ _ _ b.symm];rfl
 have R:((w.alloc (.cells #[vo,vp,vc] 28)).alloc (.cells #[.int .i64 0,.int .i64 0,.int .i64 0,.int .i64 0] 230)).cell? ⟨w.heap.size+1,2,none⟩=some (.int .i64 0):=by rw[World.cell?_alloc_at _ _ _ _ b.symm];rfl
 have S:((w.alloc (.cells #[vo,vp,vc] 28)).alloc (.cells #[.int .i64 0,.int .i64 0,.int .i64 0,.int .i64 0] 230)).cell? ⟨w.heap.size+1,3,none⟩=some (.int .i64 0):=by rw[World.cell?_alloc_at _ _ _ _ b.symm];rfl
 have T:∀k,((w.alloc (.cells #[vo,vp,vc] 28)).alloc (.cells #[.int .i64 0,.int .i64 0,.int .i64 0,.int .i64 0] 230)).frozen? ⟨w.heap.size+1,k,none⟩=false:=λk=>World.frozen?_alloc_at _ _ _ _ b.symm;have U:w.heap.size+1<((w.alloc (.cells #[vo,vp,vc] 28)).alloc (.cells #[.int .i64 0,.int .i64 0,.int .i64 0,.int .i64 0] 230)).heap.size:=by simp
 clear b p;generalize (w.alloc (.cells #[vo,vp,vc] 28)).alloc (.cells #[.int .i64 0,.int .i64 0,.int .i64 0,.int .i64 0] 230)=w0 at *;have r:=Lib.hid (And.intro O (And.intro Q (And.intro R (And.intro S T))));clear O Q R S T;go_loopw [3] (λG wr=>∃c:Nat,G=.int .i64 ((c:Int)-1)/\c<=P.orders.length/\Ext w0 wr/\∀m,c<=m->m<P.orders.length->RLevel P (P.orders.length-1-m) m) (λG _=>(intOf G+1).toNat)
 case atStart=>exact⟨P.orders.length,by go_num,by omega,Ext.refl _,λm h1 V=>by omega⟩
 case round=>
  obtain⟨c,rfl,hc,e,ng⟩:=hrel;have u:=Lib.hid ng;clear ng;have y:=e.cell r.out.1 (by simp);have z:=e.cell r.out.2.1 (by simp);have A:=e.cell r.out.2.2.1 (by simp);have B:=e.cell r.out.2.2.2.1 (by simp);have C:=λk=>frozen_ext e (r.out.2.2.2.2 k) U;have g:w.heap.size+1<wr.heap.size:=Nat.lt_of_lt_of_le U e.size;have a:=Lib.hid (And.intro y (And.intro z (And.intro A (And.intro B C))));clear y z A B C;by_cases W:1<=c
  ·obtain ⟨c1,rfl⟩:∃c1,c=c1+1:=⟨c-1,by omega⟩
   have X:((c1+1:Nat):Int)-1=c1:=by omega
   rw[X];obtain⟨ac,j4,lN,_,_,hb1,hb2,hb3,rN⟩:=(q.ext e).at;simp at hb2 hb3
   go_wp2_with fail
   refine Calls.mono (l08Level_ok P hP wr _ c1 (P.orders.length-1-c1) _ ⟨_,_,_,rfl,rN⟩ (by omega)) ?_;rintro eA Y ⟨vA,rfl,l,H⟩;clear hb1 hb2 hb3 X;have gA:=grown_trans l (World.grownBy_alloc Y (.cells #[.int .i64 0,.int .i64 0,.int .i64 0,.int .i64 0] 230) none);rcases H with⟨n,hv⟩|⟨D,Z,k1,k2,k3,hk,rfl⟩
   ·unfold fault0 at hv
    subst hv;go_wp2;go_roundw
    case rel=>exact⟨c1,by go_num,by omega,grown_trans e (grown_trans l (World.grownBy_alloc _ _ _)),λm h1 V=>by
     rcases Nat.lt_or_ge c1 m with E|E
     ·exact u.out m E V
     ·have:m=c1:=by omega
      rw[this];exact n⟩
    case measure=>simp[intOf]
   ·have i:Ext wr (Y.alloc (.cells #[.int .i64 Z,.int .i64 k1,.int .i64 k2,.int .i64 k3] 230)):=grown_trans l (World.grownBy_alloc _ _ _)
    have c0:=i.cell a.out.1 (by simp);have I:=i.cell a.out.2.1 (by simp);have c2:=i.cell a.out.2.2.1 (by simp);have c3:=i.cell a.out.2.2.2.1 (by simp);have J:=frozen_ext i (a.out.2.2.2.2 0) g;have K:=frozen_ext i (a.out.2.2.2.2 1) g;have L:=frozen_ext i (a.out.2.2.2.2 2) g;have M:=frozen_ext i (a.out.2.2.2.2 3) g;go_wp2;refine bodyPost_ret (v := .agg #[.int .i64 Z,.int .i64 k1,.int .i64 k2,.int .i64 k3]) (by simp[results,Tryz.results295,go_sem,c0,I,c2,c3]) rfl ⟨_,rfl,ext_set4 (grown_trans j (grown_trans e i)) (by omega) _ _ _ _,.inr ⟨λh=>D (h c1 (by omega)),_,_,_,_,hk,rfl⟩⟩
  ·have N:c=0:=by omega
   subst N;have c0:=a.out.1;have c1:=a.out.2.1;have c2:=a.out.2.2.1;have c3:=a.out.2.2.2.1;have J:=a.out.2.2.2.2 0;have K:=a.out.2.2.2.2 1;have L:=a.out.2.2.2.2 2;have M:=a.out.2.2.2.2 3;go_wp2;refine bodyPost_ret (v := .agg #[.int .i64 0,.int .i64 0,.int .i64 0,.int .i64 0]) (by simp[results,Tryz.results295,go_sem,c0,c1,c2,c3]) rfl ⟨_,rfl,ext_set4 (grown_trans j e) (by omega) _ _ _ _,.inl ⟨λm h=>u.out m (by omega) h,rfl⟩⟩
open Classical in
theorem faultR_of {e:Prop}{v:Value}(h:FaultR e v):∃a b c d:Int,v=.agg #[.int .i64 a,.int .i64 b,.int .i64 c,.int .i64 d]/\(a == 0)=decide e:=by
 rcases h with⟨g,rfl⟩|⟨i,a,b,c,d,ha,rfl⟩
 ·exact⟨0,0,0,0,rfl,by simp[g]⟩
 ·exact⟨a,b,c,d,rfl,by simp[i,ha]⟩
open Classical in
theorem l08Consistent_ok (P:Pr) (hP:Valid P) (w:World) (pv:Value) (i:Nat->Prop) (e:PresV i w pv P) :
  Calls Tryz.prog 246 #[pv] w (Ret w λ_ v=>v=.bool (decide (RAll P))):=by
 obtain⟨vo,vp,vc,rfl,h3⟩:=e;have j:=PresP.box h3 28;have g:Ext w (w.alloc (.cells #[vo,vp,vc] 28)):=World.grownBy_alloc _ _ _;go_enter Tryz.func246,Tryz.ntmps246;go_wp2_with fail
 refine Calls.mono (l08Fault_ok P hP _ _ _ ⟨_,_,_,rfl,Pres3.ext h3 (World.grownBy_alloc _ _ _)⟩) ?_;rintro l m ⟨n,rfl,dR,Di⟩;obtain⟨a,b,c,d,rfl,hab⟩:=faultR_of Di;have k:∀w:World,(Instr.field 230 (.agg #[.int .i64 a,.int .i64 b,.int .i64 c,.int .i64 d]) 0).run Tryz.prog w=.ok (.int .i64 a) w:=λ_=>by kernel_rfl
 go_wp2;exact bodyPost_ret (v := .bool (decide (RAll P))) (by simp[results,Tryz.results246,go_sem]) rfl ⟨_,rfl,grown_trans g dR,rfl⟩
open Classical in
theorem l08Group_ok (P:Pr) (w:World) (pv:Value) (k:Nat->Prop) (g:PresV k w pv P) :
  Calls Tryz.prog 160 #[pv] w (Ret w λ_ v=>v=.bool (rconsB P)):=by
 obtain⟨vo,vp,vc,rfl,h3⟩:=g;have i:=PresP.box h3 28;have b:Ext w (w.alloc (.cells #[vo,vp,vc] 28)):=World.grownBy_alloc _ _ _;go_enter Tryz.func160,Tryz.ntmps160;go_wp2_with fail
 refine Calls.mono (sIsPresentation_ok _ _ P _ ⟨_,_,_,rfl,Pres3.ext h3 (World.grownBy_alloc _ _ _)⟩) ?_;rintro m n ⟨p,rfl,a,rfl⟩;obtain⟨l,j4,lN,_,_,hb1,hb2,hb3,rN⟩:=(i.ext a).at;simp at hb2 hb3
 by_cases e:Valid P
 ·have h1:validB P=true:=by simp[validB,e]
  rw[h1];go_wp2_with fail
  refine Calls.mono (l08Consistent_ok P e _ _ _ ⟨_,_,_,rfl,rN⟩) ?_;rintro q r ⟨u,rfl,j,rfl⟩;go_wp2;exact bodyPost_ret (v := .bool (rconsB P)) (by simp[results,Tryz.results160,go_sem,rconsB,e]) rfl ⟨_,rfl,grown_trans b (grown_trans a j),rfl⟩
 ·have h1:validB P=false:=by simp[validB,e]
  rw[h1];go_wp2;exact bodyPost_ret (v := .bool (rconsB P)) (by simp[results,Tryz.results160,go_sem,rconsB,e]) rfl ⟨_,rfl,grown_trans b a,rfl⟩
def IFrom (P:Pr) (c:Nat):Prop:=c<=P.orders.length/\(∀m,c<=m->m<P.orders.length->ILevel P m)/\(0<c->¬ILevel P (c-1))
open Classical in
theorem consistentFrom_ok (P:Pr) (hP:Valid P) (w:World) (p:Value) (u:Nat->Prop) (i:PresP u w p P) :
  Calls Tryz.prog 219 #[p] w (Ret w λ_ v=>∃c:Nat,v=.int .i64 c/\IFrom P c):=by
 have y:=hP.n6;obtain⟨pb,po,rfl,_⟩:=i.shape;obtain⟨z,capo,dL,hoi⟩:=i.ordAt;go_enter Tryz.func219,Tryz.ntmps219;go_wp2;clear dL hoi;go_loopw [3] (λj wr=>∃c:Nat,j=.int .i64 (c:Int)/\c<=P.orders.length/\Ext w wr/\∀m,c<=m->m<P.orders.length->ILevel P m) (λj _=>(intOf j).toNat)
 case atStart=>exact⟨P.orders.length,by go_num,by omega,Ext.refl _,λm h1 n=>by omega⟩
 case round=>
  obtain⟨c,rfl,hc,g,ng⟩:=hrel;have a:=Lib.hid ng;clear ng;by_cases q:1<=c
  ·obtain ⟨c1,rfl⟩:∃c1,c=c1+1:=⟨c-1,by omega⟩
   go_wp2_with fail
   refine Calls.mono (levelFault_ok P hP wr _ c1 _ (i.ext g) (by omega)) ?_;rintro A B ⟨C,rfl,dR,k⟩;rcases k with⟨b,hv⟩|⟨e,k0,k1,k2,k3,hk,rfl⟩
   ·unfold fault0 at hv
    subst hv;go_wp2;go_roundw
    case rel=>exact⟨c1,by go_num,by omega,grown_trans g dR,λm h1 n=>by
     rcases Nat.lt_or_ge c1 m with r|r
     ·exact a.out m r n
     ·have:m=c1:=by omega
      rw[this];exact b⟩
    case measure=>simp[intOf]
   ·go_wp2
    exact bodyPost_ret (v := .int .i64 ((c1+1:Nat):Int)) (by simp[results,Tryz.results219,go_sem]) rfl ⟨_,rfl,grown_trans g dR,c1+1,rfl,hc,a.out,λ_=>by simpa using e⟩
  ·have l:c=0:=by omega
   subst l;go_wp2;exact bodyPost_ret (v := .int .i64 ((0:Nat):Int)) (by simp[results,Tryz.results219,go_sem]) rfl ⟨_,rfl,g,0,rfl,by omega,a.out,λh=>by omega⟩
open Classical in
theorem isConsistent_ok (P:Pr) (w:World) (pv:Value) (l:Nat->Prop) (g:PresV l w pv P) :
  Calls Tryz.prog 109 #[pv] w (Ret w λ_ v=>v=.bool (iconsB P)):=by
 obtain⟨vo,vp,vc,rfl,h3⟩:=g;have i:=PresP.box h3 28;have b:Ext w (w.alloc (.cells #[vo,vp,vc] 28)):=World.grownBy_alloc _ _ _;go_enter Tryz.func109,Tryz.ntmps109;go_wp2_with fail
 refine Calls.mono (isPresentation_ok _ _ P _ ⟨_,_,_,rfl,Pres3.ext h3 (World.grownBy_alloc _ _ _)⟩) ?_;rintro p q ⟨r,rfl,a,rfl⟩;by_cases e:Valid P
 ·have h1:validB P=true:=by simp[validB,e]
  rw[h1];go_wp2_with fail
  refine Calls.mono (consistentFrom_ok P e _ _ _ (i.ext a)) ?_;rintro u y ⟨z,rfl,j,c,rfl,hc⟩
  have m:((c:Int) == 0)=iconsB P:=by
   obtain⟨n,hc2,hc3⟩:=hc;cases c with
   | zero=>simp[iconsB,e];exact λk hk=>hc2 k (Nat.zero_le _) hk
   | succ c=>
    have:iconsB P=false:=by
     simp only[iconsB,decide_eq_false_iff_not];rintro⟨_,h⟩;exact hc3 (by omega) (h c (by omega))
    rw[this];simp;omega
  go_wp2;exact bodyPost_ret (v := .bool (iconsB P)) (by simp[results,Tryz.results109,go_sem]) rfl ⟨_,rfl,grown_trans b (grown_trans a j),rfl⟩
 ·have h1:validB P=false:=by simp[validB,e]
  rw[h1];go_wp2;exact bodyPost_ret (v := .bool (iconsB P)) (by simp[results,Tryz.results109,go_sem,iconsB,e]) rfl ⟨_,rfl,grown_trans b a,rfl⟩
end Go.Proofs.YtdcobapnlpeaaaaGreat
namespace Go.Proofs.YtdcobapnlpeaaaaGreat
def T (P:Pr) (i:Nat) (x:List Int):Prop:=Vec P.orders x/\∀k,k<i->gt x k=0
theorem T.up {P:Pr}{i:Nat}{x:List Int}(h:T P i x) (a:gt x i=0):T P (i+1) x:=⟨h.1,λk hk=>by
 rcases Nat.lt_succ_iff_lt_or_eq.1 hk with h1|h1
 ·exact h.2 k h1
 ·rw[h1];exact a⟩
theorem T.down {P:Pr}{i j:Nat}{x:List Int}(h:T P j x) (a:i<=j):T P i x:=⟨h.1,λk hk=>h.2 k (by omega)⟩
theorem T.of_zeroTo {P:Pr}{i:Nat}{x:List Int}(h:Vec P.orders x) (a:ZeroTo i x):T P (i+1) x:=⟨h,λk hk=>a k (by omega)⟩
theorem T.zeros {P:Pr}(hP:Valid P) (i:Nat):T P i (zeros P.orders.length):=⟨zeros_vec hP,λ_ _=>gt_replicate _ _⟩
theorem T.drop {P:Pr}(hP:Valid P) {i:Nat}(a:i<P.orders.length) {x:List Int}(h:T P i x):T P (i+1) (x.set i 0):=by
 have b:=hP.ord7 i a;refine⟨h.1.set i 0 ⟨by omega,λ_=>by omega⟩,λk hk => ?_⟩;by_cases e:i=k
 ·subst e;rw[gt_set_eq _ _ _ (by rw[h.1.1];exact a)]
 ·rw[gt_set_ne _ _ _ _ e];exact h.2 k (by omega)
theorem T.put {P:Pr}{i:Nat}{x:List Int}(h:T P (i+1) x) {a:Int}(ha:0<=a/\(i<P.orders.length->a<gt P.orders i)):T P i (x.set i a):=
 ⟨h.1.set i a ha,λk hk=>by rw[gt_set_ne _ _ _ _ (by omega)];exact h.2 k (by omega)⟩
theorem gt_set_if {α:Type} [Inhabited α] (l:List α) (i j:Nat) (x:α) (a:j<l.length):gt (l.set i x) j=if i=j then x else gt l j:=by
 by_cases h:i=j
 ·subst h;rw[gt_set_eq _ _ _ a,if_pos rfl]
 ·rw[gt_set_ne _ _ _ _ h,if_neg h]
theorem gt_unit (n j k:Nat) (hk:k<n):gt (unitV n j) k=if j=k then 1 else 0:=by
 unfold unitV;rw[gt_set_if _ _ _ _ (by simpa using hk),gt_replicate]
theorem T.unit {P:Pr}(hP:Valid P) {i j:Nat}(a:i<=j) (b:j<P.orders.length):T P i (unitV P.orders.length j):=
 ⟨unitV_vec hP j,λk hk=>by rw[gt_unit _ _ _ (by omega),if_neg (by omega)]⟩
theorem Vec.ext {o x y:List Int}(hx:Vec o x) (hy:Vec o y) (h:∀k,k<o.length->gt x k=gt y k):x=y:=
 ext_gt (by rw[hx.1,hy.1]) (λk hk=>h k (by rw[<-hx.1];exact hk))
theorem T.top {P:Pr}(hP:Valid P) {x:List Int}(h:T P P.orders.length x):x=Go.Proofs.YtdcobapnlpeaaaaGreat.zeros P.orders.length:=
 Vec.ext h.1 (zeros_vec hP) (λk hk=>by rw[h.2 k hk];exact(gt_replicate _ _).symm)
theorem rAt_T {P:Pr}(hP:Valid P) (f:Nat):∀i A B,i+f=P.orders.length->Vec P.orders A->Vec P.orders B->T P i (rAt P f i A B):=by
 induction f with
 | zero=>intro i A B _ _ _;exact T.zeros hP i
 | succ f b=>
  intro i A B e a hB;refine⟨rAt_vec hP _ i A B e a hB,λk hk => ?_⟩;have q:=hP.ord7 i (by omega);have j:=a.2 i (by omega);have m:=hB.2 i (by omega)
  have n:Vec P.orders (iter (gt B i).toNat (λl=>rImgTo (rAt P f (i+1)) (gt P.conj i) i l (zeros P.orders.length) f) (A.set i 0)):=
   iter_inv (Vec P.orders) _ (λy hy=>rImgTo_vec hP f i e (rAt_vec hP f) _ _ (zeros_vec hP) f (Nat.le_refl _)) _ _ (a.set i 0 ⟨by omega,λ_=>by omega⟩)
  have p:Vec P.orders (B.set i 0):=hB.set i 0 ⟨by omega,λ_=>by omega⟩;have g:=b (i+1) _ _ (by omega) n p;simp only[rAt];split
  ·rw [gt_set_ne _ _ _ _ (by omega)]
   exact(b (i+1) _ _ (by omega) (hP.pv i (by omega)).1 g.1).2 k (by omega)
  ·rw [gt_set_ne _ _ _ _ (by omega)]
   exact g.2 k (by omega)
theorem tg_T {P:Pr}(hP:Valid P) {i:Nat}{E:List Int}(a:T P i E) {j:Nat}(e:i<=j) (b:j<P.orders.length):T P i (tg P E j):=
 ⟨tg_vec hP E j a.1 b,λk hk=>by
  have:=(tgen_entries hP P.orders.length E j a.1 b (by omega)).1 k (by omega);have g:gt (tg P E j) k=gt E k:=this;rw[g];exact a.2 k hk⟩
theorem tv_T {P:Pr}(hP:Valid P) {i:Nat}{E F:List Int}(a:T P i E) (hF:T P i F):T P i (tv P E F):=by
 unfold tv tvec;rw[tvecTo_acc,hF.1.1];refine acc_inv (T P i) _ _ _ _ _ a (λy j hy _ e b=>tg_T hP hy ?_ (by omega));have:¬j<i:=λh=>b (hF.2 j h);omega
structure Lvl (P:Pr) (f i:Nat):Prop where
 grp:GrpOn (T P i) (rAt P f i) (zeros P.orders.length)
 nf:∀x,T P i x->npr (rAt P f i) (unitV P.orders.length) x i (zeros P.orders.length) f=x
 rel:Holds P (T P i) (rAt P f i) (zeros P.orders.length) (unitV P.orders.length) i
theorem Lvl.top {P:Pr}(hP:Valid P):Lvl P 0 P.orders.length:=by
 have e:=T.zeros hP P.orders.length;refine⟨⟨⟨λ_ _ _ _=>e,e,λ_ _ _ _ _ _=>rfl,λx hx=>(hx.top hP).symm,λx hx=>(hx.top hP).symm⟩,λx _=>⟨_,e,rfl,rfl⟩⟩,λx hx => ?_,⟨λj a b=>by omega,λj a b=>by omega,λj k a b c=>by omega⟩⟩;exact(hx.top hP).symm
section
variable {P:Pr}{f i:Nat}
theorem Lvl.tv_eq (hP:Valid P) (b:i+f=P.orders.length) (L:Lvl P f i) {E F:List Int}(a:T P i E) (hF:T P i F):tv P E F=rAt P f i E F:=by
 have h:=vd_tv hP L.grp.toMonOn (by omega) L.rel E F a.1 hF.1 hF.2;rw[show P.orders.length-i=f by omega,L.nf _ a,L.nf _ hF,L.nf _ (tv_T hP a hF)] at h;exact h
theorem Lvl.tg_eq (hP:Valid P) (g:i+f=P.orders.length) (L:Lvl P f i) {E:List Int}(b:T P i E) {j:Nat}(a:i<=j) (e:j<P.orders.length):tg P E j=rAt P f i E (unitV P.orders.length j):=by
 have h:=vd_tg hP L.grp.toMonOn L.rel E j b.1 a e;rw[show P.orders.length-i=f by omega,L.nf _ b,L.nf _ (tg_T hP b a e)] at h;exact h
theorem Lvl.iPow_eq (hP:Valid P) (b:i+f=P.orders.length) (L:Lvl P f i) {a:List Int}(ha:T P i a) (k:Int):iPow P a k=iter k.toNat (λy=>rAt P f i y a) (zeros P.orders.length):=by
 unfold iPow;rw[ha.1.1];exact iter_congr (T P i) _ _ (λx hx=>tv_T hP hx ha) (λx hx=>L.tv_eq hP b hx ha) _ _ (T.zeros hP i)
theorem rRepF_pow {S:List Int->Prop}{m:List Int->List Int->List Int}{e:List Int}(M:MonOn S m e):∀(f:Nat) (out base:List Int) (k:Nat),S out->S base->k<=f ->
  rRepF m f out base k=m out (iter k (λy=>m y base) e):=by
 intro f;induction f with
 | zero=>
  intro out base k g a hk;have:k=0:=by omega
  subst this;exact(M.er out g).symm
 | succ f n=>
  intro out base k g a hk;simp only[rRepF];split
  ·rename_i h;subst h;exact(M.er out g).symm
  ·rename_i h
   have i:=M.cl _ _ a a
   have j:∀q,iter q (λy=>m y (m base base)) e=iter (2*q) (λy=>m y base) e:=by
    intro q;induction q with
    | zero=>rfl
    | succ q l=>
     show m (iter q (λy=>m y (m base base)) e) (m base base)=m (m (iter (2*q) (λy=>m y base) e) base) base
     rw[l,M.ass _ _ _ (M.pow_cl a M.one _) a a]
   by_cases b:k%2=1
   ·rw [if_pos b,n _ _ _ (M.cl _ _ g a) i (by omega),j,M.ass _ _ _ g a (M.pow_cl a M.one _)]
    congr 1
    have h1:=M.pow_add a 1 (2*(k/2));rw[show 1+2*(k/2)=k by omega] at h1;rw[h1];show m base _=m (m e base) _
    rw[M.el base a]
   ·rw[if_neg b,n _ _ _ g i (by omega),j,show 2*(k/2)=k by omega]
theorem Lvl.rRep_eq (L:Lvl P f i) {a:List Int}(ha:T P i a) (k:Nat):rRep (rAt P f i) (zeros P.orders.length) a k=iter k (λy=>rAt P f i y a) (zeros P.orders.length):=by
 unfold rRep;rw[rRepF_pow L.grp.toMonOn k _ _ k L.grp.one ha (Nat.le_refl _)];exact L.grp.el _ (L.grp.toMonOn.pow_cl ha L.grp.one k)
theorem Lvl.iInv_eq (hP:Valid P) (p:i+f=P.orders.length) (L:Lvl P f i) {a:List Int}(ha:T P i a):T P i (iInv P a)/\rAt P f i a (iInv P a)=zeros P.orders.length:=by
 have key:∀k,k<=P.orders.length->T P i (invTo P a k).1/\T P i (invTo P a k).2/\(invTo P a k).1=rAt P f i a (invTo P a k).2/\∀l,l<k->gt (invTo P a k).1 l=0:=by
  intro k;induction k with
  | zero=>
   intro _;refine⟨ha,by simp only[invTo];rw[ha.1.1];exact T.zeros hP i,?_,λl g=>by omega⟩;simp only[invTo];rw[ha.1.1];exact(L.grp.er a ha).symm
  | succ k r=>
   intro hk;obtain⟨h1,h2,m,h4⟩:=r (by omega);simp only[invTo];by_cases n:gt (invTo P a k).1 k=0
   ·have u:left_ (gt P.orders k) (gt (invTo P a k).1 k)=0:=by unfold left_;rw[if_pos n]
    rw[u];refine⟨h1,h2,m,λl g => ?_⟩;rcases Nat.lt_succ_iff_lt_or_eq.1 g with h|h
    ·exact h4 l h
    ·rw[h];exact n
   ·have b:i<=k:=by
     have:¬k<i:=λh=>n (h1.2 k h);omega
    have v:=iter_rel (λ(x y:List Int)=>T P i x/\T P i y/\x=rAt P f i a y/\∀l,l<k->gt x l=0) (λe=>tg P e k) (λe=>tg P e k) (by
     rintro x y ⟨j,g2,g3,g4⟩;refine⟨tg_T hP j b (by omega),tg_T hP g2 b (by omega),?_,λl g => ?_⟩
     ·show tg P x k=rAt P f i a (tg P y k)
      rw[L.tg_eq hP p j b (by omega),L.tg_eq hP p g2 b (by omega),g3,L.grp.ass _ _ _ ha g2 (T.unit hP b (by omega))]
     ·have w:=(tgen_entries hP P.orders.length x k j.1 (by omega) (by omega)).1 l g
      have z:gt (tg P x k) l=gt x l:=w;show gt (tg P x k) l=0
      rw[z];exact g4 l g) (left_ (gt P.orders k) (gt (invTo P a k).1 k)) _ _ ⟨h1,h2,m,h4⟩
    obtain⟨j,g2,g3,g4⟩:=v;refine⟨j,g2,g3,λl g => ?_⟩;rcases Nat.lt_succ_iff_lt_or_eq.1 g with h|h
    ·exact g4 l h
    ·have q:=(iter_tg hP (invTo P a k).1 k (by omega) h1.1 n _ (Nat.le_refl _)).2
     rw[if_pos rfl] at q;rw[h];exact q
 obtain⟨h1,h2,m,h4⟩:=key P.orders.length (Nat.le_refl _);have A:iInv P a=(invTo P a P.orders.length).2:=by unfold iInv;rw[ha.1.1]
 rw[A];refine⟨h2,?_⟩;rw[<-m];exact T.top hP ⟨h1.1,h4⟩
theorem Lvl.iConj_iff (hP:Valid P) (g:i+f=P.orders.length) (L:Lvl P f i) {a b z:List Int}(ha:T P i a) (e:T P i b) (k:T P i z):iConj P a b=z↔rAt P f i a b=rAt P f i b z:=by
 obtain⟨h1,l⟩:=L.iInv_eq hP g e;have j:=tv_T hP ha e;unfold iConj;rw[L.tv_eq hP g h1 j,L.tv_eq hP g ha e];exact L.grp.solve e h1 (L.grp.cl _ _ ha e) k l
end
section
variable {P:Pr}{f i:Nat}
theorem rImage_T (hP:Valid P) (e:i+(f+1)=P.orders.length) (x:List Int):T P (i+1) (rImage P f i x):=by
 unfold rImage;rw[rImgTo_acc];refine acc_inv (T P (i+1)) _ _ _ _ _ (T.zeros hP _) (λy j hy a b _ => ?_);exact rAt_T hP f (i+1) _ _ (by omega) hy.1 ((hP.cv i (by omega)).2 (j-i-1) (by omega)).1
theorem cj_T (hP:Valid P) {j:Nat}(a:i<j) (b:j<P.orders.length):T P (i+1) (gt (gt P.conj i) (j-i-1)):=
 T.of_zeroTo ((hP.cv i (by omega)).2 (j-i-1) (by omega)).1 ((hP.cv i (by omega)).2 (j-i-1) (by omega)).2
theorem pw_T (hP:Valid P) (a:i<P.orders.length):T P (i+1) (gt P.powers i):=T.of_zeroTo (hP.pv i a).1 (hP.pv i a).2
theorem Lvl.iImg_eq (hP:Valid P) (g:i+(f+1)=P.orders.length) (L:Lvl P f (i+1)) {x:List Int}(hx:x.length=P.orders.length):iImg P i x=rImage P f i x:=by
 unfold iImg rImage;rw[(hP.cv i (by omega)).1,show P.orders.length-1-i=f by omega,hx,rImgTo_acc,rImgTo_acc]
 exact (acc_rel (λy z:List Int=>y=z/\T P (i+1) y) _ _ x (i+1) _ _ f ⟨rfl,T.zeros hP _⟩ (by
  rintro y z j ⟨rfl,hy⟩ a b _;have e:=cj_T (i:=i) hP (j:=j) (by omega) (by omega);exact⟨L.tv_eq hP (by omega) hy e,tv_T hP hy e⟩)).1
theorem Lvl.iff (hP:Valid P) (g:i+(f+1)=P.orders.length) (L:Lvl P f (i+1)):ILevel P i↔RLevel P f i:=by
 have e:i+1+f=P.orders.length:=by omega
 have m:∀J,i<J->J<P.orders.length->(ICond1 P i J↔RCond1 P f i J):=λJ a b=>by
  unfold ICond1 RCond1;have n:=cj_T (i:=i) hP a b;rw[L.iPow_eq hP e n,L.rRep_eq n,L.iImg_eq hP g (hP.pv J b).1.1]
 have p:∀J K,i<J->J<K->K<P.orders.length->(ICond2 P i J K↔RCond2 P f i J K):=λJ K a b c=>by
  unfold ICond2 RCond2;have h1:=cj_T (i:=i) hP (j:=K) (by omega) c;have k:=cj_T (i:=i) hP (j:=J) a (by omega);rw[L.iImg_eq hP g (((hP.cv J (by omega)).2 (K-J-1) (by omega)).1.1)];exact L.iConj_iff hP e h1 k (rImage_T hP g _)
 have q:ICond3 P i↔RCond3 P f i:=by
  unfold ICond3 RCond3;rw[L.iImg_eq hP g (hP.pv i (by omega)).1.1]
 have r:∀J,i<J->J<P.orders.length->(ICond4 P i J↔RCond4 P f i J):=λJ a b=>by
  unfold ICond4 RCond4;have l:T P (i+1) (unitV P.orders.length J):=T.unit hP (by omega) b
  have h1:iter (gt P.orders i).toNat (λx=>iImg P i x) (unitV P.orders.length J)=iter (gt P.orders i).toNat (λx=>rImage P f i x) (unitV P.orders.length J):=
   iter_congr (Vec P.orders) _ _ (λx hx=>iImg_vec hP i (by omega) x hx) (λx hx=>L.iImg_eq hP g hx.1) _ _ l.1
  have k:T P (i+1) (iter (gt P.orders i).toNat (λx=>rImage P f i x) (unitV P.orders.length J)):=iter_inv (T P (i+1)) _ (λx _=>rImage_T hP g x) _ _ l;rw[h1,eq_comm,L.iConj_iff hP e l (pw_T hP (by omega)) k,eq_comm]
 constructor
 ·intro h
  exact⟨λJ a b=>(m J a b).1 (h.c1 J a b),λJ K a b c=>(p J K a b c).1 (h.c2 J K a b c),q.1 h.c3,λJ a b=>(r J a b).1 (h.c4 J a b)⟩
 ·intro h
  exact⟨λJ a b=>(m J a b).2 (h.c1 J a b),λJ K a b c=>(p J K a b c).2 (h.c2 J K a b c),q.2 h.c3,λJ a b=>(r J a b).2 (h.c4 J a b)⟩
end
section
variable {P:Pr}{f i:Nat}
def prV (i:Nat) (p:Nat × List Int):List Int:=p.2.set i (p.1:Int)
theorem prV_T (hP:Valid P) (b:i<P.orders.length) {p:Nat × List Int}(a:ExS (T P (i+1)) (gt P.orders i).toNat p):T P i (prV i p):=by
 have e:=hP.ord7 i b;have h1:=a.1;exact a.2.put ⟨by omega,λ_=>by omega⟩
theorem prV_sur (hP:Valid P) (a:i<P.orders.length) {x:List Int}(hx:T P i x):∃p,ExS (T P (i+1)) (gt P.orders i).toNat p/\prV i p=x:=by
 have e:=hP.ord7 i a;have b:=hx.1.2 i a;refine⟨((gt x i).toNat,x.set i 0),⟨by show(gt x i).toNat<_;omega,hx.drop hP a⟩,?_⟩;unfold prV;simp only[List.set_set];refine ext_gt (by simp) (λk hk => ?_);rw[List.length_set] at hk;rw[gt_set_if _ _ _ _ hk];split
 ·rename_i h;subst h;omega
 ·rfl
theorem set_zero_of {x:List Int}(h:T P (i+1) x):x.set i 0=x:=by
 refine ext_gt (by simp) (λk hk => ?_);rw[List.length_set] at hk;rw[gt_set_if _ _ _ _ hk];split
 ·rename_i e;subst e;exact(h.2 i (by omega)).symm
 ·rfl
theorem prV_mul (hP:Valid P) (u:i+(f+1)=P.orders.length) (p q:Nat × List Int) (j:ExS (T P (i+1)) (gt P.orders i).toNat p) (k:ExS (T P (i+1)) (gt P.orders i).toNat q) :
  rAt P (f+1) i (prV i p) (prV i q)=prV i (exm (rAt P f (i+1)) (rImage P f i) (gt P.powers i) (gt P.orders i).toNat p q):=by
 obtain⟨a,x⟩:=p;obtain⟨b,y⟩:=q;obtain⟨ha,hx⟩:=j;obtain⟨m,hy⟩:=k;simp only at ha m hx hy;have v:=hP.ord7 i (by omega);have n:gt (prV i (a,x)) i=(a:Int):=gt_set_eq _ _ _ (by show i<x.length;rw[hx.1.1];omega);have gb:gt (prV i (b,y)) i=(b:Int):=gt_set_eq _ _ _ (by show i<y.length;rw[hy.1.1];omega);have r:(prV i (a,x)).set i 0=x:=by unfold prV;rw[List.set_set];exact set_zero_of hx
 have sb:(prV i (b,y)).set i 0=y:=by unfold prV;rw[List.set_set];exact set_zero_of hy
 simp only[rAt,n,gb,r,sb];unfold exm;simp only;have e:(λl=>rImgTo (rAt P f (i+1)) (gt P.conj i) i l (zeros P.orders.length) f)=rImage P f i:=rfl;rw[e,show((b:Int)).toNat=b by omega];by_cases g:(gt P.orders i).toNat<=a+b
 ·rw [if_pos (by omega),if_pos g]
  unfold prV;simp only;congr 1
  omega
 ·rw [if_neg (by omega),if_neg g]
  unfold prV;simp only;congr 1
theorem Lvl.ext (hP:Valid P) (z:i+(f+1)=P.orders.length) (L:Lvl P f (i+1)) (R:RLevel P f i) :
  ExtOk (T P (i+1)) (rAt P f (i+1)) (zeros P.orders.length) (rImage P f i) (gt P.powers i) (gt P.orders i).toNat /\
   ∀j,i<j->j<P.orders.length->rImage P f i (unitV P.orders.length j)=gt (gt P.conj i) (j-i-1):=by
 have M:=L.grp.toMonOn;have I:=hP.ord7 i (by omega);have J:P.orders.length-(i+1)=f:=by omega
 have m:∀j,i+1<=j->j<P.orders.length->T P (i+1) (gt (gt P.conj i) (j-i-1)):=λj a b=>cj_T hP (by omega) b
 have g:∀x,rImage P f i x=npr (rAt P f (i+1)) (λj=>gt (gt P.conj i) (j-i-1)) x (i+1) (zeros P.orders.length) f:=λx=>by
  unfold rImage npr;rw[rImgTo_acc]
 have l:∀(j:Nat) (x:List Int),i<j->j<P.orders.length->ZeroTo j x->rImage P f i x=npr (rAt P f (i+1)) (λj=>gt (gt P.conj i) (j-i-1)) x (j+1) (zeros P.orders.length) (P.orders.length-(j+1)):=λj x a b E=>by
  rw[g];unfold npr;rw[show f=(j-i)+(P.orders.length-(j+1)) by omega,acc_split,acc_zero _ _ _ _ (j-i) (λk _ c=>E k (by omega)),show i+1+(j-i)=j+1 by omega]
 have H:Holds P (T P (i+1)) (rAt P f (i+1)) (zeros P.orders.length) (λj=>gt (gt P.conj i) (j-i-1)) (i+1):=by
  refine⟨m,λj a b => ?_,λj k a b c => ?_⟩
  ·have h:=R.c1 j (by omega) b
   unfold RCond1 at h;rw[L.rRep_eq (m j a b),l j _ (by omega) b (hP.pv j b).2] at h;exact h
  ·have h:=R.c2 j k (by omega) b c
   unfold RCond2 at h;rw[l j _ (by omega) (by omega) ((hP.cv j (by omega)).2 (k-j-1) (by omega)).2] at h;exact h
 have hom:∀A B,Vec P.orders A->Vec P.orders B->rImage P f i (rAt P f (i+1) A B)=rAt P f (i+1) (rImage P f i A) (rImage P f i B):=λA B F hB=>by
  rw[g,g,g];exact vd_at hP M f (i+1) (by omega) H A B F hB
 have n:∀j,i<j->j<P.orders.length->rImage P f i (unitV P.orders.length j)=gt (gt P.conj i) (j-i-1):=λj a b=>by
  rw[g];unfold npr
  rw [show f=(j-(i+1))+((P.orders.length-(j+1))+1) by omega,acc_split,acc_zero _ _ _ _ (j-(i+1)) (λk _ c=>by rw[gt_unit _ _ _ (by omega),if_neg (by omega)]),acc_front,show i+1+(j-(i+1))=j by omega,
   acc_zero _ _ (j+1) _ _ (λk c d=>by rw[gt_unit _ _ _ (by omega),if_neg (by omega)]),gt_unit _ _ _ b,if_pos rfl]
  show rAt P _ (i+1) (zeros P.orders.length) _=_
  rw[show j-(i+1)+(P.orders.length-(j+1)+1)=f by omega];exact M.el _ (m j (by omega) b)
 refine⟨?_,n⟩;have q:=pw_T (i:=i) hP (by omega)
 have ihom:∀(k:Nat) (x y:List Int),T P (i+1) x->T P (i+1) y->iter k (rImage P f i) (rAt P f (i+1) x y)=rAt P f (i+1) (iter k (rImage P f i) x) (iter k (rImage P f i) y):=by
  intro k x y hx hy
  have:=(iter_rel (λ(u:List Int) (v:List Int × List Int)=>T P (i+1) v.1/\T P (i+1) v.2/\u=rAt P f (i+1) v.1 v.2) (rImage P f i) (λv=>(rImage P f i v.1,rImage P f i v.2)) (by
   rintro u ⟨v1,v2⟩ ⟨h1,h2,rfl⟩;exact⟨rImage_T hP z _,rImage_T hP z _,hom _ _ h1.1 h2.1⟩) k (rAt P f (i+1) x y) (x,y) ⟨hx,hy,rfl⟩).2.2
  rw[this]
  have e:∀k,iter k (λv:List Int × List Int=>(rImage P f i v.1,rImage P f i v.2)) (x,y)=(iter k (rImage P f i) x,iter k (rImage P f i) y):=by
   intro k;induction k with
   | zero=>rfl
   | succ k C=>show(λv:List Int × List Int=>(rImage P f i v.1,rImage P f i v.2)) (iter k _ (x,y))=_;rw[C];rfl
  rw[e]
 have icl:∀(k:Nat) (x:List Int),T P (i+1) x->T P (i+1) (iter k (rImage P f i) x):=λk x hx=>iter_inv (T P (i+1)) _ (λy _=>rImage_T hP z y) k x hx;refine⟨by omega,L.grp,λx _=>rImage_T hP z x,λx y hx hy=>hom x y hx.1 hy.1,q,R.c3,?_⟩;intro x hx
 have r:rImage P f i (zeros P.orders.length)=zeros P.orders.length:=by
  rw[g];exact acc_zero _ _ _ _ _ (λj _ _=>gt_replicate _ _)
 have p:∀k,iter k (rImage P f i) (zeros P.orders.length)=zeros P.orders.length:=by
  intro k;induction k with
  | zero=>rfl
  | succ k C=>show rImage P f i (iter k _ _)=_;rw[C,r]
 have key:(λy=>T P (i+1) y/\rAt P f (i+1) (gt P.powers i) (iter (gt P.orders i).toNat (rImage P f i) y)=rAt P f (i+1) y (gt P.powers i)) (npr (rAt P f (i+1)) (unitV P.orders.length) x (i+1) (zeros P.orders.length) f):=by
  unfold npr;refine acc_inv (λy=>T P (i+1) y/\rAt P f (i+1) (gt P.powers i) (iter (gt P.orders i).toNat (rImage P f i) y)=rAt P f (i+1) y (gt P.powers i)) _ _ _ _ _ ⟨L.grp.one,by rw[p,M.er _ q,M.el _ q]⟩ (λy j hy a b _ => ?_);obtain⟨h1,h2⟩:=hy;have w:T P (i+1) (unitV P.orders.length j):=T.unit hP a (by omega);have D:=R.c4 j (by omega) (by omega);unfold RCond4 at D;refine⟨M.cl _ _ h1 w,?_⟩;rw[ihom _ _ _ h1 w,<-M.ass _ _ _ q (icl _ _ h1) (icl _ _ w),h2,M.ass _ _ _ h1 q (icl _ _ w)];have G:rAt P f (i+1) (gt P.powers i) (iter (gt P.orders i).toNat (rImage P f i) (unitV P.orders.length j))=rAt P f (i+1) (unitV P.orders.length j) (gt P.powers i):=D;rw[G,M.ass _ _ _ h1 w q]
 rw[L.nf x hx] at key;exact key.2
theorem Lvl.step (hP:Valid P) (u:i+(f+1)=P.orders.length) (L:Lvl P f (i+1)) (R:RLevel P f i):Lvl P (f+1) i:=by
 obtain⟨E,w⟩:=L.ext hP u R;have e:i<P.orders.length:=by omega
 have ho:=hP.ord7 i e;have n:=L.grp.toMonOn;have H:prV i (0,zeros P.orders.length)=zeros P.orders.length:=set_zero_of (P:=P) (T.zeros hP (i+1))
 have G:GrpOn (T P i) (rAt P (f+1) i) (zeros P.orders.length):=
  E.group.carry (prV i) (λp N=>prV_T hP e N) (λy hy=>prV_sur hP e hy) H (λp q N Y=>prV_mul hP u p q N Y)
 have M:=G.toMonOn;have A:∀x,T P (i+1) x->prV i (0,x)=x:=λx hx=>set_zero_of hx;have I:∀x,T P (i+1) x->ExS (T P (i+1)) (gt P.orders i).toNat (0,x):=λx hx=>⟨by show 0<_;omega,hx⟩;-- the product restricted
 have res:∀x y,T P (i+1) x->T P (i+1) y->rAt P (f+1) i x y=rAt P f (i+1) x y:=λx y hx hy=>by
  have h:=prV_mul hP u (0,x) (0,y) (I x hx) (I y hy);rw[A x hx,A y hy] at h;rw[h];unfold exm;simp only[Nat.add_zero,if_neg (by omega:¬(gt P.orders i).toNat<=0)];exact A _ (n.cl _ _ hx hy)
 have g:∀(x:List Int) (j k:Nat),i+1<=j->j+k=P.orders.length->npr (rAt P (f+1) i) (unitV P.orders.length) x j (zeros P.orders.length) k=npr (rAt P f (i+1)) (unitV P.orders.length) x j (zeros P.orders.length) k /\
   T P (i+1) (npr (rAt P f (i+1)) (unitV P.orders.length) x j (zeros P.orders.length) k):=λx j k hj hk=>by
  have:=acc_rel (λ(y z:List Int)=>T P (i+1) z/\y=z) (λy j=>rAt P (f+1) i y (unitV P.orders.length j)) (λy j=>rAt P f (i+1) y (unitV P.orders.length j)) x j (zeros P.orders.length) (zeros P.orders.length) k ⟨L.grp.one,rfl⟩ (by
   rintro y z l ⟨h1,rfl⟩ a b _;have m:T P (i+1) (unitV P.orders.length l):=T.unit hP (by omega) (by omega);exact⟨n.cl _ _ h1 m,res _ _ h1 m⟩)
  exact⟨this.2,this.1⟩
 have u1:unitV P.orders.length i=prV i (1,zeros P.orders.length):=by
  unfold prV unitV zeros;rfl
 have B:∀a x,a<(gt P.orders i).toNat->T P (i+1) x->ExS (T P (i+1)) (gt P.orders i).toNat (a,x):=λa x ha hx=>⟨ha,hx⟩;have r:T P (i+1) (zeros P.orders.length):=T.zeros hP _;have V:T P i (unitV P.orders.length i):=T.unit hP (Nat.le_refl _) e;have v:∀j,i<=j->j<P.orders.length->T P i (unitV P.orders.length j):=λj a b=>T.unit hP a b;-- powers of the generator
 have J:∀k,k<(gt P.orders i).toNat->iter k (λy=>rAt P (f+1) i y (unitV P.orders.length i)) (zeros P.orders.length)=prV i (k,zeros P.orders.length):=by
  intro k;induction k with
  | zero=>intro _;exact H.symm
  | succ k Z=>
   intro hk;show rAt P (f+1) i (iter k _ _) (unitV P.orders.length i)=_
   rw[Z (by omega),u1,prV_mul hP u _ _ (B k _ (by omega) r) (B 1 _ (by omega) r)];unfold exm;simp only[if_neg (by omega:¬(gt P.orders i).toNat<=k+1),E.ione,n.el _ r]
 have S:=pw_T (i:=i) hP e
 have C:∀x,T P (i+1) x->npr (rAt P (f+1) i) (unitV P.orders.length) x (i+1) (zeros P.orders.length) f=x:=λx hx=>by
  rw[(g x (i+1) f (by omega) (by omega)).1,L.nf x hx]
 refine⟨G,λx hx => ?_,⟨v,λj a b => ?_,λj k a b c => ?_⟩⟩
 ·-- normal form
  rw[npr_front M (λj a b=>v j a (by omega))];have aa:=hx.1.2 i e;have O:=hx.drop hP e
  have h1:npr (rAt P (f+1) i) (unitV P.orders.length) x (i+1) (zeros P.orders.length) f=x.set i 0:=by
   have Q:npr (rAt P (f+1) i) (unitV P.orders.length) x (i+1) (zeros P.orders.length) f=npr (rAt P (f+1) i) (unitV P.orders.length) (x.set i 0) (i+1) (zeros P.orders.length) f:=
    acc_congr _ _ _ _ _ _ (λj a b=>by rw[gt_set_ne _ _ _ _ (by omega)])
   rw[Q,C _ O]
  rw[J _ (by omega),h1];obtain⟨p,N,hpx⟩:=prV_sur hP e hx;have W:=prV_mul hP u ((gt x i).toNat,zeros P.orders.length) (0,x.set i 0) (B _ _ (by omega) r) (I _ O);rw[A _ O] at W;rw[W];unfold exm;simp only[Nat.add_zero,if_neg (by omega:¬(gt P.orders i).toNat<=(gt x i).toNat)];show prV i ((gt x i).toNat,rAt P f (i+1) (zeros P.orders.length) (x.set i 0))=x
  rw[n.el _ O];unfold prV;simp only[List.set_set];refine ext_gt (by simp) (λk hk => ?_);rw[List.length_set] at hk;rw[gt_set_if _ _ _ _ hk];split
  ·rename_i h;subst h;omega
  ·rfl
 ·-- power relations
  by_cases D:j=i
  ·subst D
   rw[show P.orders.length-(j+1)=f by omega,C _ S];obtain⟨F,U⟩:∃F,(gt P.orders j).toNat=F+1:=⟨(gt P.orders j).toNat-1,by omega⟩;rw[U];show rAt P (f+1) j (iter F _ _) (unitV P.orders.length j)=_
   rw[J F (by omega),u1,prV_mul hP u _ _ (B F _ (by omega) r) (B 1 _ (by omega) r)];unfold exm;simp only[if_pos (by omega:(gt P.orders j).toNat<=F+1),E.ione,n.el _ r,n.er _ S];rw[show F+1-(gt P.orders j).toNat=0 by omega];exact A _ S
  ·have m:T P (i+1) (unitV P.orders.length j):=T.unit hP (by omega) b
   rw[(g _ (j+1) _ (by omega) (by omega)).1,<-L.rel.pw j (by omega) b]
   have:=iter_rel (λ(y z:List Int)=>T P (i+1) z/\y=z) (λy=>rAt P (f+1) i y (unitV P.orders.length j)) (λy=>rAt P f (i+1) y (unitV P.orders.length j)) (by
    rintro y z ⟨h1,rfl⟩;exact⟨n.cl _ _ h1 m,res _ _ h1 m⟩) (gt P.orders j).toNat _ _ ⟨L.grp.one,rfl⟩
   exact this.2
 ·-- conjugate relations
  by_cases D:j=i
  ·subst D
   have K:=cj_T (i:=j) hP b c;have m:T P (j+1) (unitV P.orders.length k):=T.unit hP (by omega) c;rw[show P.orders.length-(j+1)=f by omega,C _ K];have h1:=prV_mul hP u (0,unitV P.orders.length k) (1,zeros P.orders.length) (I _ m) (B 1 _ (by omega) r);have Q:=prV_mul hP u (1,zeros P.orders.length) (0,gt (gt P.conj j) (k-j-1)) (B 1 _ (by omega) r) (I _ K);rw[A _ m,<-u1] at h1;rw[A _ K,<-u1] at Q;rw[h1,Q];unfold exm;simp only[Nat.zero_add,Nat.add_zero,if_neg (by omega:¬(gt P.orders j).toNat<=1)];show prV j (1,rAt P f (j+1) (rImage P f j (unitV P.orders.length k)) (zeros P.orders.length))=prV j (1,rAt P f (j+1) (zeros P.orders.length) (gt (gt P.conj j) (k-j-1)))
   rw[w k b c,n.er _ K,n.el _ K]
  ·have m:T P (i+1) (unitV P.orders.length j):=T.unit hP (by omega) (by omega)
   have hv:T P (i+1) (unitV P.orders.length k):=T.unit hP (by omega) c;have X:=g (gt (gt P.conj j) (k-j-1)) (j+1) (P.orders.length-(j+1)) (by omega) (by omega);rw[X.1,res _ _ hv m,res _ _ m X.2];exact L.rel.cj j k (by omega) b c
end
theorem lvl_of_R {P:Pr}(hP:Valid P) (f:Nat):∀i,i+f=P.orders.length->(∀k,i<=k->k<P.orders.length->RLevel P (P.orders.length-1-k) k)->Lvl P f i:=by
 induction f with
 | zero=>
  intro i e _;have:i=P.orders.length:=by omega
  subst this;exact Lvl.top hP
 | succ f g=>
  intro i e h;have L:=g (i+1) (by omega) (λk a b=>h k (by omega) b);have R:=h i (by omega) (by omega);rw[show P.orders.length-1-i=f by omega] at R;exact L.step hP e R
theorem lvl_of_I {P:Pr}(hP:Valid P) (f:Nat):∀i,i+f=P.orders.length->(∀k,i<=k->k<P.orders.length->ILevel P k)->Lvl P f i:=by
 induction f with
 | zero=>
  intro i e _;have:i=P.orders.length:=by omega
  subst this;exact Lvl.top hP
 | succ f g=>
  intro i e h;have L:=g (i+1) (by omega) (λk a b=>h k (by omega) b);exact L.step hP e ((L.iff hP e).1 (h i (by omega) (by omega)))
theorem all_iff {P:Pr}(hP:Valid P):IAll P↔RAll P:=by
 constructor
 ·intro h k hk
  have L:=lvl_of_I hP (P.orders.length-1-k) (k+1) (by omega) (λl _ b=>h l b);exact(L.iff hP (by omega)).1 (h k hk)
 ·intro h k hk
  have L:=lvl_of_R hP (P.orders.length-1-k) (k+1) (by omega) (λl _ b=>h l b);exact(L.iff hP (by omega)).2 (h k hk)
theorem icons_eq (P:Pr):iconsB P=rconsB P:=by
 unfold iconsB rconsB;exact decide_eq_decide.2 (and_congr_right (λhP=>all_iff hP))
structure Grp (P:Pr):Prop where
 v:Valid P
 all:RAll P
theorem Grp.tail {P:Pr}(G:Grp P) {f i:Nat}(a:i+f=P.orders.length):Lvl P f i:=lvl_of_R G.v f i a (λk _ b=>G.all k b)
theorem Grp.lvl {P:Pr}(G:Grp P):Lvl P P.orders.length 0:=G.tail (by omega)
theorem grp_of_r {P:Pr}(h:rconsB P=true):Grp P:=by
 unfold rconsB at h;have a := @of_decide_eq_true _ (_) h;exact⟨a.1,a.2⟩
theorem T_zero {P:Pr}{x:List Int} : T P 0 x↔Vec P.orders x:=⟨λh=>h.1,λh=>⟨h,λk hk=>by omega⟩⟩
section
variable {P:Pr}(G:Grp P)
include G
theorem Grp.grp:GrpOn (Vec P.orders) (rMul P) (zeros P.orders.length):=by
 have h:=G.lvl.grp;have e:T P 0=Vec P.orders:=by funext x;exact propext T_zero
 rw[e] at h;exact h
theorem Grp.tv_eq {E F:List Int}(a:Vec P.orders E) (hF:Vec P.orders F):tv P E F=rMul P E F:=G.lvl.tv_eq G.v (by omega) (T_zero.2 a) (T_zero.2 hF)
theorem Grp.iInv_mul {a:List Int}(ha:Vec P.orders a):rMul P a (iInv P a)=zeros P.orders.length:=(G.lvl.iInv_eq G.v (by omega) (T_zero.2 ha)).2
theorem Grp.iPow_eq {a:List Int}(ha:Vec P.orders a) (k:Int):iPow P a k=iter k.toNat (λy=>rMul P y a) (zeros P.orders.length):=G.lvl.iPow_eq G.v (by omega) (T_zero.2 ha) k
end
section
variable {P:Pr}{f i:Nat}
theorem rImage_zeros:rImage P f i (zeros P.orders.length)=zeros P.orders.length:=by
 unfold rImage;rw[rImgTo_acc];exact acc_zero _ _ _ _ _ (λj _ _=>gt_replicate _ _)
theorem rAt_res (hP:Valid P) (b:i+(f+1)=P.orders.length) {x y:List Int}(hx:T P (i+1) x) (hy:T P (i+1) y):rAt P (f+1) i x y=rAt P f (i+1) x y:=by
 have e:=hP.ord7 i (by omega);have h:=prV_mul hP b (0,x) (0,y) ⟨by show 0<_;omega,hx⟩ ⟨by show 0<_;omega,hy⟩;have a:∀x,T P (i+1) x->prV i (0,x)=x:=λx hx=>set_zero_of hx;rw[a x hx,a y hy] at h;rw[h];unfold exm;simp only[Nat.add_zero,if_neg (by omega:¬(gt P.orders i).toNat<=0)];exact a _ (rAt_T hP f (i+1) x y (by omega) hx.1 hy.1)
theorem gen_pow (hP:Valid P) (b:i+(f+1)=P.orders.length) (e:Lvl P f (i+1)) (k:Nat) (hk:k<(gt P.orders i).toNat) :
  iter k (λy=>rAt P (f+1) i y (unitV P.orders.length i)) (zeros P.orders.length)=prV i (k,zeros P.orders.length):=by
 have a:T P (i+1) (zeros P.orders.length):=T.zeros hP _;induction k with
 | zero=>exact(set_zero_of a).symm
 | succ k g=>
  show rAt P (f+1) i (iter k _ _) (unitV P.orders.length i)=_
  have u1:unitV P.orders.length i=prV i (1,zeros P.orders.length):=by unfold prV unitV zeros;rfl
  rw[g (by omega),u1,prV_mul hP b _ _ ⟨by show k<_;omega,a⟩ ⟨by show 1<_;omega,a⟩];unfold exm;simp only[if_neg (by omega:¬(gt P.orders i).toNat<=k+1)];show prV i (k+1,rAt P f (i+1) (rImage P f i (zeros P.orders.length)) (zeros P.orders.length))=_
  rw[rImage_zeros,e.grp.el _ a]
theorem vec_head (hP:Valid P) (g:i+(f+1)=P.orders.length) (j:Lvl P f (i+1)) {x:List Int}(hx:T P i x) :
  rAt P (f+1) i (prV i ((gt x i).toNat,zeros P.orders.length)) (x.set i 0)=x:=by
 have a:i<P.orders.length:=by omega
 have l:=hx.1.2 i a;have b:=hx.drop hP a;have m:T P (i+1) (zeros P.orders.length):=T.zeros hP _;have e:=prV_mul hP g ((gt x i).toNat,zeros P.orders.length) (0,x.set i 0) ⟨by show(gt x i).toNat<_;omega,m⟩ ⟨by show 0<_;omega,b⟩;have n:prV i (0,x.set i 0)=x.set i 0:=set_zero_of b;rw[n] at e;rw[e];unfold exm;simp only[Nat.add_zero,if_neg (by omega:¬(gt P.orders i).toNat<=(gt x i).toNat)];show prV i ((gt x i).toNat,rAt P f (i+1) (zeros P.orders.length) (x.set i 0))=x
 rw[j.grp.el _ b];unfold prV;simp only[List.set_set];refine ext_gt (by simp) (λk hk => ?_);rw[List.length_set] at hk;rw[gt_set_if _ _ _ _ hk];split
 ·rename_i h;subst h;omega
 ·rfl
theorem rFrom_inv (G:Grp P) (f:Nat):∀(i:Nat) (x:List Int),i+f=P.orders.length->T P i x->T P i (rFrom P f i x)/\rAt P f i x (rFrom P f i x)=zeros P.orders.length:=by
 have hP:=G.v;induction f with
 | zero=>intro i x _ _;exact⟨T.zeros hP i,rfl⟩
 | succ f F=>
  intro i x k hx;have e:i<P.orders.length:=by omega
  have L:=G.tail k;have n:=G.tail (f:=f) (i:=i+1) (by omega);have Z:=hP.ord7 i e;have K:=hx.1.2 i e;have A:=hx.drop hP e;obtain⟨h1,B⟩:=F (i+1) _ (by omega) A;have g:T P i (rFrom P f (i+1) (x.set i 0)):=h1.down (by omega);simp only[rFrom];by_cases u:gt x i=0
  ·rw [if_pos u]
   have H:x.set i 0=x:=set_zero_of (hx.up u);rw[H] at g B ⊢;rw[H] at h1;exact⟨g,by rw[rAt_res hP k (hx.up u) h1];exact B⟩
  ·rw [if_neg u]
   have w:=pw_T (i:=i) hP e;obtain⟨I,h4⟩:=F (i+1) _ (by omega) w;have C:T P i (prV i ((gt P.orders i-gt x i).toNat,zeros P.orders.length)):=prV_T hP e ⟨by show(gt P.orders i-gt x i).toNat<_;omega,T.zeros hP _⟩;have p:T P i (prV i ((gt x i).toNat,zeros P.orders.length)):=prV_T hP e ⟨by show(gt x i).toNat<_;omega,T.zeros hP _⟩
   have N:(zeros P.orders.length).set i (gt P.orders i-gt x i)=prV i ((gt P.orders i-gt x i).toNat,zeros P.orders.length):=by
    unfold prV;simp only;rw[show(((gt P.orders i-gt x i).toNat:Nat):Int)=gt P.orders i-gt x i by omega]
   rw[N];have M:=L.grp.toMonOn;have q:T P i (rFrom P f (i+1) (gt P.powers i)):=I.down (by omega);have D:T P i (x.set i 0):=A.down (by omega);have O:T P i (gt P.powers i):=w.down (by omega);refine⟨M.cl _ _ (M.cl _ _ g C) q,?_⟩;have Q:=T.unit hP (Nat.le_refl i) e;have R:rAt P (f+1) i (x.set i 0) (rFrom P f (i+1) (x.set i 0))=zeros P.orders.length:=by rw[rAt_res hP k A h1];exact B
   have S:rAt P (f+1) i (gt P.powers i) (rFrom P f (i+1) (gt P.powers i))=zeros P.orders.length:=by rw[rAt_res hP k w I];exact h4
   have U:rAt P (f+1) i (prV i ((gt x i).toNat,zeros P.orders.length)) (prV i ((gt P.orders i-gt x i).toNat,zeros P.orders.length))=gt P.powers i:=by
    rw[<-gen_pow hP k n _ (by omega),<-gen_pow hP k n _ (by omega),<-M.pow_add Q,show(gt x i).toNat+(gt P.orders i-gt x i).toNat=(gt P.orders i).toNat by omega,L.rel.pw i (Nat.le_refl _) e];rw[show P.orders.length-(i+1)=f by omega];have:=n.nf _ w
    have V:=(acc_rel (λ(y z:List Int)=>T P (i+1) z/\y=z) (λy j=>rAt P (f+1) i y (unitV P.orders.length j)) (λy j=>rAt P f (i+1) y (unitV P.orders.length j)) (gt P.powers i) (i+1) (zeros P.orders.length) (zeros P.orders.length) f ⟨n.grp.one,rfl⟩ (by
     rintro y z l ⟨J,rfl⟩ a b _;have r:T P (i+1) (unitV P.orders.length l):=T.unit hP (by omega) (by omega);exact⟨n.grp.cl _ _ J r,rAt_res hP k J r⟩)).2
    exact V.trans this
   have E:=vec_head hP k n hx
   have m:rAt P (f+1) i x (rAt P (f+1) i (rAt P (f+1) i (rFrom P f (i+1) (x.set i 0)) (prV i ((gt P.orders i-gt x i).toNat,zeros P.orders.length))) (rFrom P f (i+1) (gt P.powers i)))=zeros P.orders.length:=by
    have W:=M.cl _ _ g C;rw[<-M.ass _ _ _ hx W q,<-M.ass _ _ _ hx g C]
    have X:rAt P (f+1) i x (rFrom P f (i+1) (x.set i 0))=prV i ((gt x i).toNat,zeros P.orders.length):=by
     have Y:rAt P (f+1) i x (rFrom P f (i+1) (x.set i 0))=rAt P (f+1) i (rAt P (f+1) i (prV i ((gt x i).toNat,zeros P.orders.length)) (x.set i 0)) (rFrom P f (i+1) (x.set i 0)):=by rw[E]
     rw[Y,M.ass _ _ _ p D g,R,M.er _ p]
    rw[X,U,S]
   exact m
end
section
variable {P:Pr}(G:Grp P)
include G
theorem Grp.mul_inv {x:List Int}(hx:Vec P.orders x):rMul P x (rInv P x)=zeros P.orders.length:=(rFrom_inv G P.orders.length 0 x (by omega) (T_zero.2 hx)).2
theorem Grp.inv_mul {x:List Int}(hx:Vec P.orders x):rMul P (rInv P x) x=zeros P.orders.length:=G.grp.right_left hx (rInv_vec G.v x hx) (G.mul_inv hx)
theorem Grp.mulV {x y:List Int}(hx:Vec P.orders x) (hy:Vec P.orders y):Vec P.orders (rMul P x y):=G.grp.cl _ _ hx hy
theorem Grp.invV {x:List Int}(hx:Vec P.orders x):Vec P.orders (rInv P x):=rInv_vec G.v x hx
theorem Grp.ass {x y z:List Int}(hx:Vec P.orders x) (hy:Vec P.orders y) (a:Vec P.orders z):rMul P (rMul P x y) z=rMul P x (rMul P y z):=G.grp.ass x y z hx hy a
theorem Grp.oneV:Vec P.orders (zeros P.orders.length):=zeros_vec G.v
theorem Grp.conjV {x y:List Int}(hx:Vec P.orders x) (hy:Vec P.orders y):Vec P.orders (rConj P x y):=G.mulV (G.invV hy) (G.mulV hx hy)
theorem Grp.iInv_eq {x:List Int}(hx:Vec P.orders x):iInv P x=rInv P x:=
 G.grp.cancel hx (iInv_vec G.v x hx) (G.invV hx) (by rw[G.iInv_mul hx,G.mul_inv hx])
theorem Grp.iConj_eq {x y:List Int}(hx:Vec P.orders x) (hy:Vec P.orders y):iConj P x y=rConj P x y:=by
 unfold iConj rConj;rw[G.iInv_eq hy,G.tv_eq hx hy,G.tv_eq (G.invV hy) (G.mulV hx hy)]
theorem Grp.conj_one {x:List Int}(hx:Vec P.orders x):rConj P x (zeros P.orders.length)=x:=by
 unfold rConj
 have h1:rInv P (zeros P.orders.length)=zeros P.orders.length:=by
  have:=G.mul_inv G.oneV;rw[G.grp.el _ (G.invV G.oneV)] at this;exact this
 rw[h1,G.grp.er _ hx,G.grp.el _ hx]
theorem Grp.inv_of {x y:List Int}(hx:Vec P.orders x) (hy:Vec P.orders y) (h:rMul P x y=zeros P.orders.length):y=rInv P x:=
 G.grp.cancel hx hy (G.invV hx) (by rw[h,G.mul_inv hx])
theorem Grp.inv_mulR {x y:List Int}(hx:Vec P.orders x) (hy:Vec P.orders y):rInv P (rMul P x y)=rMul P (rInv P y) (rInv P x):=by
 symm
 refine G.inv_of (G.mulV hx hy) (G.mulV (G.invV hy) (G.invV hx)) ?_;rw[G.ass hx hy (G.mulV (G.invV hy) (G.invV hx)),<-G.ass hy (G.invV hy) (G.invV hx),G.mul_inv hy,G.grp.el _ (G.invV hx),G.mul_inv hx]
theorem Grp.inv_inv {x:List Int}(hx:Vec P.orders x):rInv P (rInv P x)=x:=(G.inv_of (G.invV hx) hx (G.inv_mul hx)).symm
theorem Grp.conj_mul {x y z:List Int}(hx:Vec P.orders x) (hy:Vec P.orders y) (a:Vec P.orders z):rConj P (rConj P x y) z=rConj P x (rMul P y z):=by
 unfold rConj;have c1:=G.mulV hx hy;rw[G.inv_mulR hy a,G.ass (G.invV a) (G.invV hy) (G.mulV hx (G.mulV hy a)),G.ass (G.invV hy) c1 a,G.ass hx hy a]
theorem Grp.conj_back {x y:List Int}(hx:Vec P.orders x) (hy:Vec P.orders y):rConj P (rConj P x y) (rInv P y)=x:=by
 rw[G.conj_mul hx hy (G.invV hy),G.mul_inv hy,G.conj_one hx]
end
end Go.Proofs.YtdcobapnlpeaaaaGreat
