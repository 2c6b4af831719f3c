/- Merged from templates. -/
import Derived.Test.YtoakmefajbbggaaGreatM2
set_option maxRecDepth 100000
set_option maxHeartbeats 8000000
namespace Go.Proofs.YtoakmefajbbggaaGreat
open Go.RowKit
def yT (P:Pr) (i J:Nat):Prop:=oK P (gt (gt P.conj i) (J-i-1)) (gt P.orders J)=mz P i (gt P.eH J)
def vZ (P:Pr) (i J K:Nat):Prop:=oM P (gt (gt P.conj i) (K-i-1)) (gt (gt P.conj i) (J-i-1))=mz P i (gt (gt P.conj J) (K-J-1))
def Dq (P:Pr) (i:Nat):Prop:=mz P i (gt P.eH i)=gt P.eH i
def A5 (P:Pr) (i J:Nat):Prop:=iter (gt P.orders i).toNat (λx=>mz P i x) (fQ P.orders.length J)=oM P (fQ P.orders.length J) (gt P.eH i)
structure tY (P:Pr) (i:Nat):Prop where
 c1:∀J,i<J->J<P.orders.length->yT P i J
 c2:∀J K,i<J->J<K->K<P.orders.length->vZ P i J K
 c3:Dq P i
 c4:∀J,i<J->J<P.orders.length->A5 P i J
theorem ia {w w':World}{a:Addr}(b:Ext w w') (h:w.frozen? a=false) (e:a.block<w.heap.size):w'.frozen? a=false:=by
 rw[World.frozen?_of_block (w:=w) (b.block a.block e (by simp))];exact h
theorem pO {w p:World}{l:Nat}(q:Ext w p) (r:w.heap.size<=l) (a b c d:Value) :
  Ext w ((((p.setCell ⟨l,0,none⟩ a).setCell ⟨l,1,none⟩ b).setCell ⟨l,2,none⟩ c).setCell ⟨l,3,none⟩ d):=by
 have h1:∀(W:World) (k:Nat) (v:Value),W.grownBy (W.setCell ⟨l,k,none⟩ v) (some l):=λW k v=>
  ⟨rfl,rfl,rfl,by simp[World.setCell],λj _ m=>Below.heap_setCell _ _ _ _ (by intro e;exact m (by rw[e]))⟩
 have i:∀j,some l=some j->j<w.heap.size->none=some j:=λj m u=>by cases m;omega
 exact fu (fu (fu (fu q (h1 _ _ _) i) (h1 _ _ _) i) (h1 _ _ _) i) (h1 _ _ _) i
def Ds:Value := .agg #[.int .i64 0,.int .i64 0,.int .i64 0,.int .i64 0]
def A6 (e:Prop) (v:Value):Prop:=(e/\v=Ds)\/(¬e/\∃a b c d:Int,a≠0/\v=.agg #[.int .i64 a,.int .i64 b,.int .i64 c,.int .i64 d])
theorem wh {P:Pr}(hP:Valid P) (i:Nat) (a:i<P.orders.length) (x:List Int) (hx:dL P.orders x):dL P.orders (mz P i x):=
 Il hP i a x _ (yR hP hx) _ (Nat.le_refl _)
theorem Ir {P:Pr}(hP:Valid P) (a b:List Int) (ha:dL P.orders a) (e:dL P.orders b):dL P.orders (oM P a b):=
 rZ hP _ _ (vX hP b e) (rZ hP a b ha e)
theorem qw {P:Pr}(hP:Valid P) (j:Nat):dL P.orders (fQ P.orders.length j):=by
 refine⟨by simp[fQ],λi a => ?_⟩;have:=hP.gh i a;by_cases h:j=i
 ·subst h;unfold fQ;rw[iN _ _ _ (by simpa using a)];omega
 ·unfold fQ;rw[iy _ _ _ _ h,jw];omega
theorem PZ (P:Pr) (hP:Valid P) (w:World) (p:Value) (i:Nat) (Sp:Nat->Prop) (hp:fB Sp w p P) (N:i<P.orders.length) :
  Calls Tryz.prog 223 #[p,.int .i64 i] w (fq w λ_ v=>A6 (tY P i) v):=by
 have cr:=hP.n6;obtain⟨pb,po,rfl⟩:=hp.shape;have W:Ext w (w.alloc (.cells #[.int .i64 0,.int .i64 0,.int .i64 0,.int .i64 0] 190)):=World.grownBy_alloc _ _ _;have M:=hp.ext W;obtain⟨ao,iA,gJ,hoi⟩:=M.iO;go_enter Tryz.func223,Tryz.ntmps223;go_wp2;clear gJ hoi;have r0:(w.alloc (.cells #[.int .i64 0,.int .i64 0,.int .i64 0,.int .i64 0] 190)).cell? ⟨w.heap.size,0,none⟩=some (.int .i64 0):=by rw[World.cell?_alloc_at _ _ _ _ rfl];rfl
 have r1:(w.alloc (.cells #[.int .i64 0,.int .i64 0,.int .i64 0,.int .i64 0] 190)).cell? ⟨w.heap.size,1,none⟩=some (.int .i64 0):=by rw[World.cell?_alloc_at _ _ _ _ rfl];rfl
 have r2:(w.alloc (.cells #[.int .i64 0,.int .i64 0,.int .i64 0,.int .i64 0] 190)).cell? ⟨w.heap.size,2,none⟩=some (.int .i64 0):=by rw[World.cell?_alloc_at _ _ _ _ rfl];rfl
 have r3:(w.alloc (.cells #[.int .i64 0,.int .i64 0,.int .i64 0,.int .i64 0] 190)).cell? ⟨w.heap.size,3,none⟩=some (.int .i64 0):=by rw[World.cell?_alloc_at _ _ _ _ rfl];rfl
 have rf:∀k,(w.alloc (.cells #[.int .i64 0,.int .i64 0,.int .i64 0,.int .i64 0] 190)).frozen? ⟨w.heap.size,k,none⟩=false:=λk=>World.frozen?_alloc_at _ _ _ _ rfl;have rs:w.heap.size<(w.alloc (.cells #[.int .i64 0,.int .i64 0,.int .i64 0,.int .i64 0] 190)).heap.size:=by simp
 generalize w.alloc (.cells #[.int .i64 0,.int .i64 0,.int .i64 0,.int .i64 0] 190)=w0 at *;have G:=Lib.hid (And.intro r0 (And.intro r1 (And.intro r2 (And.intro r3 rf))));clear r0 r1 r2 r3 rf;have aP:=(hP.pv i N).1;have aj:=Lib.hid aP;clear aP;have aQ:=hP.cl;have aR:=hP.pl;have aS:i<P.conj.length:=by omega
 have bx:i<P.eH.length:=by omega
 have aT:=hP.cv i N;have H:=Lib.hid aT;clear aT;have aU:=Lib.hid aQ;have aV:=Lib.hid aR;clear aQ aR;go_loopw [7] (λZ wr=>∃J:Nat,Z=.int .i64 J/\i+1<=J/\J<=P.orders.length/\Ext w0 wr/\∀m,i<m->m<J->yT P i m) (λZ _=>P.orders.length-(intOf Z).toNat)
 case atStart=>exact⟨i+1,by go_num,by omega,by omega,Ext.refl _,λm h1 h2=>by omega⟩
 case round =>
  obtain⟨J,rfl,rE,hJ2,e,hc1⟩:=hrel;have aD:=Lib.hid hc1;clear hc1;by_cases q:J<P.orders.length
  ·--<P1
   have l:=M.ext e;obtain⟨ao,iA,gJ,hoi⟩:=l.iO;obtain⟨bo,oo,rfl,_,_,ni⟩:=Ints.at hoi J q;obtain⟨ap,kS,ak,hpi⟩:=l.rP;obtain⟨bp,op,aE,O,rfl,_,_,T,U⟩:=dK.at hpi J (by have:=aV.out;omega);obtain⟨ac,ji,hcc,mF⟩:=l.qW;obtain⟨bc,oc,uC,Q,rfl,_,_,qO,oN⟩:=fU.at mF i aS;obtain⟨bd,od,aF,R,rfl,_,_,hcd,hid⟩:=dK.at oN (J-i-1) (by rw[H.out.1];omega);have e1:∀w',Ext wr w'->w'.cell? ⟨pb,po,none⟩=some (.slice (some ⟨bo,oo,none⟩) P.orders.length iA):=λw' h=>h.cell gJ (by simp);have e2:∀w',Ext wr w'->w'.cell? ⟨pb,po+1,none⟩=some (.slice (some ⟨bp,op,none⟩) P.eH.length kS):=λw' h=>h.cell ak (by simp);have e3:∀w',Ext wr w'->w'.cell? ⟨pb,po+2,none⟩=some (.slice (some ⟨bc,oc,none⟩) P.conj.length ji):=λw' h=>h.cell hcc (by simp);have e4:∀w',Ext wr w'->w'.cell? ⟨bo,oo+J,none⟩=some (.int .i64 (gt P.orders J)):=λw' h=>h.cell ni (by simp);have e5:∀w',Ext wr w'->w'.cell? ⟨bp,op+J,none⟩=some (.slice aE (gt P.eH J).length O):=λw' h=>h.cell T (by simp);have e6:∀w',Ext wr w'->w'.cell? ⟨bc,oc+i,none⟩=some (.slice (some ⟨bd,od,none⟩) (gt P.conj i).length Q):=λw' h=>h.cell qO (by simp);have e7:∀w',Ext wr w'->w'.cell? ⟨bd,od+(J-i-1),none⟩=some (.slice aF (gt (gt P.conj i) (J-i-1)).length R):=λw' h=>h.cell hcd (by simp);have b1:(0:Int)<=(J:Int)-i-1:=by omega
   have b2:(J:Int)-i-1<(gt P.conj i).length:=by rw[H.out.1];omega
   have b3:(i:Int)<P.conj.length:=by omega
   have b4:(J:Int)<P.eH.length:=by have:=aV.out;omega
   have b5:(J:Int)<P.orders.length:=by omega
   have b6:(0:Int)<=J:=by omega
   have b7:((J:Int)-i-1).toNat=J-i-1:=by omega
   have b8:(1:Int)<=(J:Int)-i:=by omega
   have s1:IntKind.i64.wrap ((J:Int)-i)=(J:Int)-i:=IntWalk.i64_in _ (by omega);have s2:IntKind.i64.wrap ((J:Int)-i-1)=(J:Int)-i-1:=IntWalk.i64_in _ (by omega);have aa:=(H.out.2 (J-i-1) (by omega)).1;have ab:=(hP.pv J q).1;have a3:=hP.gh J q;have L:=Lib.hid (And.intro aa (And.intro ab a3));clear aa ab a3;have ad:=(PT hP _ (gt P.orders J) L.out.1).1;have ae:=(wh hP i N _ L.out.2.1).1;have HL:=Lib.hid (And.intro ad ae);clear ad ae;clear gJ ni ak T hcc qO hcd hoi hpi mF oN;have u:=e.cell G.out.1 (by simp);have z:=e.cell G.out.2.1 (by simp);have A:=e.cell G.out.2.2.1 (by simp);have B:=e.cell G.out.2.2.2.1 (by simp);have C:=λk=>ia e (G.out.2.2.2.2 k) rs;have j:w.heap.size<wr.heap.size:=Nat.lt_of_lt_of_le rs e.size;have b:=Lib.hid (And.intro u (And.intro z (And.intro A (And.intro B C))));clear u z A B C;go_wp2;cases Y:jk (oK P (gt (gt P.conj i) (J-i-1)) (gt P.orders J)) (mz P i (gt P.eH J)) with
   | true=>
    have HQ:=Lib.hid Y
    go_region_held3 (λw'=>Ext wr w') (first|exact fk _ _|assumption)
     (first
      | (go_at_call 196;refine Calls.mono (Calls.rel (w0:=wr) (by assumption) (yS P hP _ _ _ _ _ Any Any (fB.sub (fB.ext l (by assumption)) (λ_ _ _=>trivial)) (Ints.sub (Ints.ext hid (by assumption)) (λ_ _ _=>trivial)) L.out.1 (by have:=L.out.2.2;omega))) ?_;rintro eA wA ⟨vA,rfl,I,iZ,r⟩)
      | (go_at_call 266;refine Calls.mono (Calls.jF (w0:=wr) (by assumption) (vY P hP _ _ _ i _ Any Any N (fB.sub (fB.ext l (by assumption)) (λ_ _ _=>trivial)) (Ints.sub (Ints.ext U (by assumption)) (λ_ _ _=>trivial)) L.out.2.1)) ?_;rintro eF wF ⟨vF,rfl,qm,D,pK,lC⟩;have E:=(r.gw D).ints (by rw[HL.out.1];omega);have F:=lC.ints (by rw[HL.out.2];omega))
      | (go_at_call 147;refine Calls.mono (Calls.rel (w0:=wr) (by assumption) (rS _ _ _ _ _ Any Any E F)) ?_;rintro eB wB ⟨vB,rfl,a,jV,rfl⟩))
    clear e1 e2 e3 e4 e5 e6 e7 s1 s2 b1 b2 b7 b8;go_wp2;go_roundw
    case rel=>exact⟨J+1,by go_num,by omega,by omega,dy e a,λm h1 h2=>by
     rcases Nat.lt_or_ge m J with X|X
     ·exact aD.out m h1 X
     ·have:m=J:=by omega
      rw[this];exact kC.1 HQ.out⟩
    case measure=>simp[intOf];omega
   | false=>
    have HQ:=Lib.hid Y
    go_region_held3 (λw'=>Ext wr w') (first|exact fk _ _|assumption)
     (first
      | (go_at_call 196;refine Calls.mono (Calls.rel (w0:=wr) (by assumption) (yS P hP _ _ _ _ _ Any Any (fB.sub (fB.ext l (by assumption)) (λ_ _ _=>trivial)) (Ints.sub (Ints.ext hid (by assumption)) (λ_ _ _=>trivial)) L.out.1 (by have:=L.out.2.2;omega))) ?_;rintro eA wA ⟨vA,rfl,I,iZ,r⟩)
      | (go_at_call 266;refine Calls.mono (Calls.jF (w0:=wr) (by assumption) (vY P hP _ _ _ i _ Any Any N (fB.sub (fB.ext l (by assumption)) (λ_ _ _=>trivial)) (Ints.sub (Ints.ext U (by assumption)) (λ_ _ _=>trivial)) L.out.2.1)) ?_;rintro eF wF ⟨vF,rfl,qm,D,pK,lC⟩;have E:=(r.gw D).ints (by rw[HL.out.1];omega);have F:=lC.ints (by rw[HL.out.2];omega))
      | (go_at_call 147;refine Calls.mono (Calls.rel (w0:=wr) (by assumption) (rS _ _ _ _ _ Any Any E F)) ?_;rintro eB wB ⟨vB,rfl,a,jV,rfl⟩))
    clear e1 e2 e3 e4 e5 e6 e7 s1 s2 b1 b2 b7 b8;have c0:=a.cell b.out.1 (by simp);have c1:=a.cell b.out.2.1 (by simp);have c2:=a.cell b.out.2.2.1 (by simp);have c3:=a.cell b.out.2.2.2.1 (by simp);have am:=ia a (b.out.2.2.2.2 0) j;have an:=ia a (b.out.2.2.2.2 1) j;have aq:=ia a (b.out.2.2.2.2 2) j;have ar:=ia a (b.out.2.2.2.2 3) j;go_wp2;refine bodyPost_ret (v := .agg #[.int .i64 1,.int .i64 i,.int .i64 J,.int .i64 0]) (by simp[results,Tryz.results223,go_sem,c0,c1,c2,c3]) rfl ⟨_,rfl,pO (dy W (dy e a)) (Nat.le_refl _) _ _ _ _,.inr ⟨λh=>lu.1 HQ.out (h.c1 J (by omega) q),_,_,_,_,by decide,rfl⟩⟩
  -->P1
  ·have ax : ∀m,i<m->m<P.orders.length->yT P i m:=λm h1 h2=>aD.out m h1 (by omega)
   have bE:=Lib.hid ax;clear ax aD;go_wp2;clear q;go_loopw [8] (λZ wr=>∃J:Nat,Z=.int .i64 J/\i+1<=J/\J<=P.orders.length/\Ext w0 wr/\∀m n,i<m->m<J->m<n->n<P.orders.length->vZ P i m n) (λZ _=>P.orders.length-(intOf Z).toNat)
   case atStart=>exact⟨i+1,by go_num,by omega,by omega,e,λm n h1 h2=>by omega⟩
   case round =>
    clear e rE hJ2;obtain⟨J,rfl,rE,hJ2,e,hc2⟩:=hrel;have aH:=Lib.hid hc2;clear hc2;by_cases q:J<P.orders.length
    ·--<P2
     have bF:(J:Int)<P.orders.length:=by omega
     go_wp2;go_loopw [9] (λkv wr=>∃K:Nat,kv=.int .i64 K/\J+1<=K/\K<=P.orders.length/\Ext w0 wr/\∀n,J<n->n<K->vZ P i J n) (λkv _=>P.orders.length-(intOf kv).toNat)
     case atStart=>exact⟨J+1,by go_num,by omega,by omega,e,λn h1 h2=>by omega⟩
     case round=>
      clear e;obtain⟨K,rfl,P0,hK2,e,hc3⟩:=hrel;have a8:=Lib.hid hc3;clear hc3;by_cases a9:K<P.orders.length
      ·have l:=M.ext e
       obtain⟨ac,ji,hcc,mF⟩:=l.qW;obtain⟨bc,oc,uC,Q,rfl,_,_,qO,oN⟩:=fU.at mF i aS;obtain⟨bd,od,aF,R,rfl,_,_,hcd,hid⟩:=dK.at oN (J-i-1) (by rw[H.out.1];omega);obtain⟨au,wm,bG,aI,yU,_,_,A7,ay⟩:=dK.at oN (K-i-1) (by rw[H.out.1];omega);obtain⟨rfl,rfl⟩:au=bd/\wm=od:=by cases yU;exact⟨rfl,rfl⟩
       have V:=(hP.cv J q);obtain⟨av,rF,P3,aJ,yV,_,_,yX,yY⟩:=fU.at mF J (by have:=aU.out;omega);obtain⟨rfl,rfl⟩:av=bc/\rF=oc:=by cases yV;exact⟨rfl,rfl⟩
       obtain⟨a',yZ,bH,aK,rfl,_,_,y4,az⟩:=dK.at yY (K-J-1) (by rw[V.1];omega);clear yU yV;have e3:∀w',Ext wr w'->w'.cell? ⟨pb,po+2,none⟩=some (.slice (some ⟨av,rF,none⟩) P.conj.length ji):=λw' h=>h.cell hcc (by simp);have e6:∀w',Ext wr w'->w'.cell? ⟨av,rF+i,none⟩=some (.slice (some ⟨au,wm,none⟩) (gt P.conj i).length Q):=λw' h=>h.cell qO (by simp);have e7:∀w',Ext wr w'->w'.cell? ⟨au,wm+(J-i-1),none⟩=some (.slice aF (gt (gt P.conj i) (J-i-1)).length R):=λw' h=>h.cell hcd (by simp);have e8:∀w',Ext wr w'->w'.cell? ⟨au,wm+(K-i-1),none⟩=some (.slice bG (gt (gt P.conj i) (K-i-1)).length aI):=λw' h=>h.cell A7 (by simp);have e9:∀w',Ext wr w'->w'.cell? ⟨av,rF+J,none⟩=some (.slice (some ⟨a',yZ,none⟩) (gt P.conj J).length aJ):=λw' h=>h.cell yX (by simp);have ba:∀w',Ext wr w'->w'.cell? ⟨a',yZ+(K-J-1),none⟩=some (.slice bH (gt (gt P.conj J) (K-J-1)).length aK):=λw' h=>h.cell y4 (by simp);have b1:(0:Int)<=(J:Int)-i-1:=by omega
       have b2:(J:Int)-i-1<(gt P.conj i).length:=by rw[H.out.1];omega
       have b3:(i:Int)<P.conj.length:=by omega
       have b4:(J:Int)<P.conj.length:=by have:=aU.out;omega
       have b7:((J:Int)-i-1).toNat=J-i-1:=by omega
       have b8:(1:Int)<=(J:Int)-i:=by omega
       have k1:(0:Int)<=(K:Int)-i-1:=by omega
       have k2:(K:Int)-i-1<(gt P.conj i).length:=by rw[H.out.1];omega
       have k7:((K:Int)-i-1).toNat=K-i-1:=by omega
       have k8:(1:Int)<=(K:Int)-i:=by omega
       have m1:(0:Int)<=(K:Int)-J-1:=by omega
       have m2:(K:Int)-J-1<(gt P.conj J).length:=by rw[V.1];omega
       have m7:((K:Int)-J-1).toNat=K-J-1:=by omega
       have m8:(1:Int)<=(K:Int)-J:=by omega
       have b5:(K:Int)<P.orders.length:=by omega
       have s1:IntKind.i64.wrap ((J:Int)-i)=(J:Int)-i:=IntWalk.i64_in _ (by omega);have s2:IntKind.i64.wrap ((J:Int)-i-1)=(J:Int)-i-1:=IntWalk.i64_in _ (by omega);have s3:IntKind.i64.wrap ((K:Int)-i)=(K:Int)-i:=IntWalk.i64_in _ (by omega);have s4:IntKind.i64.wrap ((K:Int)-i-1)=(K:Int)-i-1:=IntWalk.i64_in _ (by omega);have s5:IntKind.i64.wrap ((K:Int)-J)=(K:Int)-J:=IntWalk.i64_in _ (by omega);have s6:IntKind.i64.wrap ((K:Int)-J-1)=(K:Int)-J-1:=IntWalk.i64_in _ (by omega);have bb:=(H.out.2 (J-i-1) (by omega)).1;have be:=(H.out.2 (K-i-1) (by omega)).1;have aA:=(V.2 (K-J-1) (by omega)).1;have L:=Lib.hid (And.intro be (And.intro bb aA));clear bb be aA V;have ad:=(Ir hP _ _ L.out.1 L.out.2.1).1;have ae:=(wh hP i N _ L.out.2.2).1;have HL:=Lib.hid (And.intro ad ae);clear ad ae;clear hcc qO hcd A7 yX y4 mF oN yY;have u:=e.cell G.out.1 (by simp);have z:=e.cell G.out.2.1 (by simp);have A:=e.cell G.out.2.2.1 (by simp);have B:=e.cell G.out.2.2.2.1 (by simp);have C:=λk=>ia e (G.out.2.2.2.2 k) rs;have j:w.heap.size<wr.heap.size:=Nat.lt_of_lt_of_le rs e.size;have b:=Lib.hid (And.intro u (And.intro z (And.intro A (And.intro B C))));clear u z A B C;go_wp2;cases Y:jk (oM P (gt (gt P.conj i) (K-i-1)) (gt (gt P.conj i) (J-i-1))) (mz P i (gt (gt P.conj J) (K-J-1))) with
       | true=>
        have HQ:=Lib.hid Y
        go_region_held3 (λw'=>Ext wr w') (first|exact fk _ _|assumption)
         (first
          | (go_at_call 161;refine Calls.mono (Calls.rel (w0:=wr) (by assumption) (u5 P hP _ _ _ _ _ _ Any Any Any (fB.sub (fB.ext l (by assumption)) (λ_ _ _=>trivial)) (Ints.sub (Ints.ext ay (by assumption)) (λ_ _ _=>trivial)) (Ints.sub (Ints.ext hid (by assumption)) (λ_ _ _=>trivial)) L.out.1 L.out.2.1)) ?_;rintro eA wA ⟨vA,rfl,I,iZ,r⟩)
          | (go_at_call 266;refine Calls.mono (Calls.jF (w0:=wr) (by assumption) (vY P hP _ _ _ i _ Any Any N (fB.sub (fB.ext l (by assumption)) (λ_ _ _=>trivial)) (Ints.sub (Ints.ext az (by assumption)) (λ_ _ _=>trivial)) L.out.2.2)) ?_;rintro eF wF ⟨vF,rfl,qm,D,pK,lC⟩;have E:=(r.gw D).ints (by rw[HL.out.1];omega);have F:=lC.ints (by rw[HL.out.2];omega))
          | (go_at_call 147;refine Calls.mono (Calls.rel (w0:=wr) (by assumption) (rS _ _ _ _ _ Any Any E F)) ?_;rintro eB wB ⟨vB,rfl,a,jV,rfl⟩))
        clear e3 e6 e7 e8 e9 ba s1 s2 s3 s4 s5 s6 b1 b2 b7 b8 k1 k2 k7 k8 m1 m2 m7 m8;go_wp2;go_roundw
        case rel=>exact⟨K+1,by go_num,by omega,by omega,dy e a,λn h1 h2=>by
         rcases Nat.lt_or_ge n K with X|X
         ·exact a8.out n h1 X
         ·have:n=K:=by omega
          rw[this];exact kC.1 HQ.out⟩
        case measure=>simp[intOf];omega
       | false=>
        have HQ:=Lib.hid Y
        go_region_held3 (λw'=>Ext wr w') (first|exact fk _ _|assumption)
         (first
          | (go_at_call 161;refine Calls.mono (Calls.rel (w0:=wr) (by assumption) (u5 P hP _ _ _ _ _ _ Any Any Any (fB.sub (fB.ext l (by assumption)) (λ_ _ _=>trivial)) (Ints.sub (Ints.ext ay (by assumption)) (λ_ _ _=>trivial)) (Ints.sub (Ints.ext hid (by assumption)) (λ_ _ _=>trivial)) L.out.1 L.out.2.1)) ?_;rintro eA wA ⟨vA,rfl,I,iZ,r⟩)
          | (go_at_call 266;refine Calls.mono (Calls.jF (w0:=wr) (by assumption) (vY P hP _ _ _ i _ Any Any N (fB.sub (fB.ext l (by assumption)) (λ_ _ _=>trivial)) (Ints.sub (Ints.ext az (by assumption)) (λ_ _ _=>trivial)) L.out.2.2)) ?_;rintro eF wF ⟨vF,rfl,qm,D,pK,lC⟩;have E:=(r.gw D).ints (by rw[HL.out.1];omega);have F:=lC.ints (by rw[HL.out.2];omega))
          | (go_at_call 147;refine Calls.mono (Calls.rel (w0:=wr) (by assumption) (rS _ _ _ _ _ Any Any E F)) ?_;rintro eB wB ⟨vB,rfl,a,jV,rfl⟩))
        clear e3 e6 e7 e8 e9 ba s1 s2 s3 s4 s5 s6 b1 b2 b7 b8 k1 k2 k7 k8 m1 m2 m7 m8;have c0:=a.cell b.out.1 (by simp);have c1:=a.cell b.out.2.1 (by simp);have c2:=a.cell b.out.2.2.1 (by simp);have c3:=a.cell b.out.2.2.2.1 (by simp);have am:=ia a (b.out.2.2.2.2 0) j;have an:=ia a (b.out.2.2.2.2 1) j;have aq:=ia a (b.out.2.2.2.2 2) j;have ar:=ia a (b.out.2.2.2.2 3) j;go_wp2;refine bodyPost_ret (v := .agg #[.int .i64 2,.int .i64 i,.int .i64 J,.int .i64 K]) (by simp[results,Tryz.results223,go_sem,c0,c1,c2,c3]) rfl ⟨_,rfl,pO (dy W (dy e a)) (Nat.le_refl _) _ _ _ _,.inr ⟨λh=>lu.1 HQ.out (h.c2 J K (by omega) (by omega) a9),_,_,_,_,by decide,rfl⟩⟩
      ·have cy:K=P.orders.length:=by omega
       go_wp2;go_roundw
       case rel=>exact⟨J+1,by go_num,by omega,by omega,e,λm n h1 h2 X h4=>by
         rcases Nat.lt_or_ge m J with h5|h5
         ·exact aH.out m n h1 h5 X h4
         ·have:m=J:=by omega
          subst this;exact a8.out n X (by omega)⟩
       case measure=>simp[intOf];omega
    -->P2
    ·have ag:∀m n,i<m->m<n->n<P.orders.length->vZ P i m n:=λm n h1 h2 X=>aH.out m n h1 (by omega) h2 X
     have bI:=Lib.hid ag;clear ag aH;obtain⟨cA,Vx,P4,Iu⟩:=M.rP;obtain⟨bp,op,aE,O,rfl,_,_,P5,S⟩:=dK.at Iu i bx;have ak:=e.cell P4 (by simp);have T:=e.cell P5 (by simp);have bf:=(wh hP i N _ aj.out).1;have bJ:=Lib.hid bf;clear bf Iu;have u:=e.cell G.out.1 (by simp);have z:=e.cell G.out.2.1 (by simp);have A:=e.cell G.out.2.2.1 (by simp);have B:=e.cell G.out.2.2.2.1 (by simp);have C:=λk=>ia e (G.out.2.2.2.2 k) rs;have j:w.heap.size<wr.heap.size:=Nat.lt_of_lt_of_le rs e.size;have b:=Lib.hid (And.intro u (And.intro z (And.intro A (And.intro B C))));clear u z A B C;go_wp2_with fail
     refine Calls.mono (vY P hP wr _ _ i _ Any Any N (fB.sub (M.ext e) (λ_ _ _=>trivial)) (Ints.sub (Ints.ext S e) (λ_ _ _=>trivial)) aj.out) ?_;rintro eA wA ⟨vA,rfl,I,r⟩;go_wp2_with fail
     refine Calls.mono (rS _ _ _ _ wA Any Any (r.ints (by rw[bJ.out];omega)) (Ints.sub (Ints.ext S (dy e I)) (λ_ _ _=>trivial))) ?_;rintro eB wB ⟨vB,rfl,rG,rfl⟩;have a:Ext wr wB:=dy I rG;cases Y:jk (mz P i (gt P.eH i)) (gt P.eH i) with
     | false=>
      have HQ:=Lib.hid Y;have c0:=a.cell b.out.1 (by simp);have c1:=a.cell b.out.2.1 (by simp);have c2:=a.cell b.out.2.2.1 (by simp);have c3:=a.cell b.out.2.2.2.1 (by simp);have am:=ia a (b.out.2.2.2.2 0) j;have an:=ia a (b.out.2.2.2.2 1) j;have aq:=ia a (b.out.2.2.2.2 2) j;have ar:=ia a (b.out.2.2.2.2 3) j;go_wp2;refine bodyPost_ret (v := .agg #[.int .i64 3,.int .i64 i,.int .i64 0,.int .i64 0]) (by simp[results,Tryz.results223,go_sem,c0,c1,c2,c3]) rfl ⟨_,rfl,pO (dy W (dy e a)) (Nat.le_refl _) _ _ _ _,.inr ⟨λh=>lu.1 HQ.out h.c3,_,_,_,_,by decide,rfl⟩⟩
     | true =>
      have HQ:=Lib.hid (kC.1 Y);have bg:=dy e a;clear ak T;go_wp2;clear Y;have U:Ints Sp w0 (.slice aE (gt P.eH i).length O) (gt P.eH i):=S;go_loopw [11] (λZ wr=>∃J:Nat,Z=.int .i64 J/\i+1<=J/\J<=P.orders.length/\Ext w0 wr/\∀m,i<m->m<J->A5 P i m) (λZ _=>P.orders.length-(intOf Z).toNat)
      case atStart=>exact⟨i+1,by go_num,by omega,by omega,bg,λm h1 h2=>by omega⟩
      case round=>
       clear e I a bg r rE hJ2 b j rG q;obtain⟨J,rfl,rE,hJ2,e,rW⟩:=hrel;have bh:=Lib.hid rW;clear rW;have u:=e.cell G.out.1 (by simp);have z:=e.cell G.out.2.1 (by simp);have A:=e.cell G.out.2.2.1 (by simp);have B:=e.cell G.out.2.2.2.1 (by simp);have C:=λk=>ia e (G.out.2.2.2.2 k) rs;have j:w.heap.size<wr.heap.size:=Nat.lt_of_lt_of_le rs e.size;have b:=Lib.hid (And.intro u (And.intro z (And.intro A (And.intro B C))));clear u z A B C;by_cases q:J<P.orders.length
       ·have bF:(J:Int)<P.orders.length:=by omega
        go_wp2_with fail
        refine Calls.mono (Ef P.orders.length J wr q (by omega)) ?_;rintro eU wU ⟨vU,rfl,bi,A8⟩;obtain⟨cB,Dh,gJ,hoi⟩:=(M.ext (dy e bi)).iO;obtain⟨bo,oo,rfl,_,_,ni⟩:=Ints.at hoi i N;have bK:=A8.ints (by rw[(qw hP J).1];omega);have aB:=hP.gh i N;have cC:0<=gt P.orders i:=by omega
        have cD:gt P.orders i<=7:=aB.2;clear aB;go_wp2;clear gJ ni hoi;obtain⟨wo,rfl⟩:∃wo:World,wo=wr:=⟨_,rfl⟩;go_loopw [12,160] (λxv mv w2=>∃m:Nat,mv=.int .i64 m/\m<=(gt P.orders i).toNat/\Ext wo w2/\Ints Any w2 xv (iter m (λx=>mz P i x) (fQ P.orders.length J))) (λ_ mv _=>(gt P.orders i).toNat-(intOf mv).toNat)
        case atStart=>exact⟨0,rfl,by omega,bi,bK⟩
        case round=>
         obtain⟨m,rfl,hm,ah,hX⟩:=hrel;have bj:dL P.orders (iter m (λx=>mz P i x) (fQ P.orders.length J)):=jN (dL P.orders) _ (λy hy=>wh hP i N y hy) _ _ (qw hP J);have aL:=Lib.hid bj;clear bj;by_cases cp:(m:Int)<gt P.orders i
         ·go_wp2_with fail
          refine Calls.mono (vY P hP wr _ _ i _ Any Any N (fB.sub (M.ext (dy e ah)) (λ_ _ _=>trivial)) hX aL.out) ?_;rintro eA wA ⟨vA,rfl,I,r⟩;have bk:=wh hP i N _ aL.out;have bl:=r.ints (by rw[bk.1];omega);clear bk;go_wp2;go_roundw
          case rel=>exact⟨m+1,by go_num,by omega,dy ah I,bl⟩
          case measure=>simp[intOf];omega
         ·have bm:m=(gt P.orders i).toNat:=by omega
          have bn:=(qw hP J).1;have bq:=aL.out.1;have br:=(Ir hP _ _ (qw hP J) aj.out).1;have aM:=Lib.hid (And.intro bn (And.intro bq br));clear bn bq br;have bL:Ints Any wr u12 (iter (gt P.orders i).toNat (λx=>mz P i x) (fQ P.orders.length J)):=by rw[<-bm];exact hX
          have aC:(iter (gt P.orders i).toNat (λx=>mz P i x) (fQ P.orders.length J)).length=P.orders.length:=by rw[<-bm];exact aM.out.2.1
          have cq:=Lib.hid aC;clear aC hX;go_wp2_with fail
          refine Calls.mono (Ef P.orders.length J wr q (by omega)) ?_;rintro eV wV ⟨vV,rfl,aw,bM⟩;go_wp2_with fail
          refine Calls.mono (u5 P hP wV _ _ _ (fQ P.orders.length J) (gt P.eH i) Any Any Any (fB.sub (M.ext (dy e (dy ah aw))) (λ_ _ _=>trivial)) (bM.ints (by rw[aM.out.1];omega)) (Ints.sub (Ints.ext U (dy e (dy ah aw))) (λ_ _ _=>trivial)) (qw hP J) aj.out) ?_;rintro eC wC ⟨vC,rfl,bs,bN⟩;go_wp2_with fail
          refine Calls.mono (rS _ _ _ _ wC Any Any (bL.ext (dy aw bs)) (bN.ints (by rw[aM.out.2.2];omega))) ?_;rintro eB wB ⟨vB,rfl,bt,rfl⟩;have a:Ext wo wB:=dy ah (dy aw (dy bs bt));cases Y:jk (iter (gt P.orders i).toNat (λx=>mz P i x) (fQ P.orders.length J)) (oM P (fQ P.orders.length J) (gt P.eH i)) with
          | true=>
           have aN:=Lib.hid Y;go_wp2;go_roundw
           case rel=>exact⟨J+1,by go_num,by omega,by omega,dy e a,λm h1 h2=>by
            rcases Nat.lt_or_ge m J with X|X
            ·exact bh.out m h1 X
            ·have:m=J:=by omega
             rw[this];exact kC.1 aN.out⟩
           case measure=>simp[intOf];omega
          | false=>
           have aN:=Lib.hid Y;have c0:=a.cell b.out.1 (by simp);have c1:=a.cell b.out.2.1 (by simp);have c2:=a.cell b.out.2.2.1 (by simp);have c3:=a.cell b.out.2.2.2.1 (by simp);have am:=ia a (b.out.2.2.2.2 0) j;have an:=ia a (b.out.2.2.2.2 1) j;have aq:=ia a (b.out.2.2.2.2 2) j;have ar:=ia a (b.out.2.2.2.2 3) j;go_wp2;refine bodyPost_ret (v := .agg #[.int .i64 4,.int .i64 i,.int .i64 J,.int .i64 0]) (by simp[results,Tryz.results223,go_sem,c0,c1,c2,c3]) rfl ⟨_,rfl,pO (dy W (dy e a)) (Nat.le_refl _) _ _ _ _,.inr ⟨λh=>lu.1 aN.out (h.c4 J (by omega) q),_,_,_,_,by decide,rfl⟩⟩
       ·have bO:J=P.orders.length:=by omega
        subst bO;have c0:=b.out.1;have c1:=b.out.2.1;have c2:=b.out.2.2.1;have c3:=b.out.2.2.2.1;have am:=b.out.2.2.2.2 0;have an:=b.out.2.2.2.2 1;have aq:=b.out.2.2.2.2 2;have ar:=b.out.2.2.2.2 3;go_wp2;refine bodyPost_ret (v := .agg #[.int .i64 0,.int .i64 0,.int .i64 0,.int .i64 0]) (by simp[results,Tryz.results223,go_sem,c0,c1,c2,c3]) rfl ⟨_,rfl,pO (dy W e) (Nat.le_refl _) _ _ _ _,.inl ⟨⟨bE.out,bI.out,HQ.out,bh.out⟩,rfl⟩⟩
def wu (P:Pr) (f i J:Nat):Prop:=pN (fE P f (i+1)) (zeros P.orders.length) (gt (gt P.conj i) (J-i-1)) (gt P.orders J).toNat=gF P f i (gt P.eH J)
def tZ (P:Pr) (f i J K:Nat):Prop:=fE P f (i+1) (gt (gt P.conj i) (K-i-1)) (gt (gt P.conj i) (J-i-1))=fE P f (i+1) (gt (gt P.conj i) (J-i-1)) (gF P f i (gt (gt P.conj J) (K-J-1)))
def Dt (P:Pr) (f i:Nat):Prop:=gF P f i (gt P.eH i)=gt P.eH i
def y5 (P:Pr) (f i J:Nat):Prop:=fE P f (i+1) (gt P.eH i) (iter (gt P.orders i).toNat (λx=>gF P f i x) (fQ P.orders.length J))=fE P f (i+1) (fQ P.orders.length J) (gt P.eH i)
structure ud (P:Pr) (f i:Nat):Prop where
 c1:∀J,i<J->J<P.orders.length->wu P f i J
 c2:∀J K,i<J->J<K->K<P.orders.length->tZ P f i J K
 c3:Dt P f i
 c4:∀J,i<J->J<P.orders.length->y5 P f i J
theorem y6 {P:Pr}(hP:Valid P) (f i:Nat) (a:i+(f+1)=P.orders.length) (x:List Int):dL P.orders (gF P f i x):=
 tq hP f i a (jy hP f) _ _ (lV hP) f (Nat.le_refl _)
theorem P6 {P:Pr}(hP:Valid P) (f i:Nat) (j:i+f=P.orders.length):∀(g:Nat) (o b:List Int) (k:Nat),dL P.orders o->dL P.orders b->dL P.orders (pM (fE P f i) g o b k):=by
 intro g;induction g with
 | zero=>intro o b k a _;exact a
 | succ g l=>
  intro o b k a e;simp only[pM];split
  ·exact a
  ·refine l _ _ _ ?_ (jy hP f i _ _ j e e)
   split
   ·exact jy hP f i _ _ j a e
   ·exact a
theorem P7 (P:Pr) (hP:Valid P) (w:World) (pv:Value) (i f:Nat) (Sp:Nat->Prop) (bM:gy Sp w pv P) (O:i+(f+1)=P.orders.length) :
  Calls Tryz.prog 236 #[pv,.int .i64 i] w (fq w λ_ v=>A6 (ud P f i) v):=by
 have hi:i<P.orders.length:=by omega
 have cq:=hP.n6;obtain⟨vo,vp,vc,rfl,Z⟩:=bM;have a7:=fB.box Z 28;have T:Ext w ((w.alloc (.cells #[vo,vp,vc] 28)).alloc (.cells #[.int .i64 0,.int .i64 0,.int .i64 0,.int .i64 0] 190)):=dy (World.grownBy_alloc _ _ _) (World.grownBy_alloc _ _ _);have ai:=a7.ext (World.grownBy_alloc (w.alloc (.cells #[vo,vp,vc] 28)) (.cells #[.int .i64 0,.int .i64 0,.int .i64 0,.int .i64 0] 190) none);obtain⟨ao,iA,gJ,hoi⟩:=ai.iO;go_enter Tryz.func236,Tryz.ntmps236;go_wp2;clear gJ hoi;have ag:(w.alloc (.cells #[vo,vp,vc] 28)).heap.size=w.heap.size+1:=by simp
 have r0:((w.alloc (.cells #[vo,vp,vc] 28)).alloc (.cells #[.int .i64 0,.int .i64 0,.int .i64 0,.int .i64 0] 190)).cell? ⟨w.heap.size+1,0,none⟩=some (.int .i64 0):=by rw[World.cell?_alloc_at _ _ _ _ ag.symm];rfl
 have r1:((w.alloc (.cells #[vo,vp,vc] 28)).alloc (.cells #[.int .i64 0,.int .i64 0,.int .i64 0,.int .i64 0] 190)).cell? ⟨w.heap.size+1,1,none⟩=some (.int .i64 0):=by rw[World.cell?_alloc_at _ _ _ _ ag.symm];rfl
 have r2:((w.alloc (.cells #[vo,vp,vc] 28)).alloc (.cells #[.int .i64 0,.int .i64 0,.int .i64 0,.int .i64 0] 190)).cell? ⟨w.heap.size+1,2,none⟩=some (.int .i64 0):=by rw[World.cell?_alloc_at _ _ _ _ ag.symm];rfl
 have r3:((w.alloc (.cells #[vo,vp,vc] 28)).alloc (.cells #[.int .i64 0,.int .i64 0,.int .i64 0,.int .i64 0] 190)).cell? ⟨w.heap.size+1,3,none⟩=some (.int .i64 0):=by rw[World.cell?_alloc_at _ _ _ _ ag.symm];rfl
 have rf:∀k,((w.alloc (.cells #[vo,vp,vc] 28)).alloc (.cells #[.int .i64 0,.int .i64 0,.int .i64 0,.int .i64 0] 190)).frozen? ⟨w.heap.size+1,k,none⟩=false:=λk=>World.frozen?_alloc_at _ _ _ _ ag.symm;have rs:w.heap.size+1<((w.alloc (.cells #[vo,vp,vc] 28)).alloc (.cells #[.int .i64 0,.int .i64 0,.int .i64 0,.int .i64 0] 190)).heap.size:=by simp
 clear ag a7;generalize (w.alloc (.cells #[vo,vp,vc] 28)).alloc (.cells #[.int .i64 0,.int .i64 0,.int .i64 0,.int .i64 0] 190)=w0 at *;have Q:=Lib.hid (And.intro r0 (And.intro r1 (And.intro r2 (And.intro r3 rf))));clear r0 r1 r2 r3 rf;have a8:=(hP.pv i hi).1;have aa:=Lib.hid a8;clear a8;have a9:=hP.cl;have a':=hP.pl;have ba:i<P.conj.length:=by omega
 have bN:i<P.eH.length:=by omega
 have bb:=hP.cv i hi;have S:=Lib.hid bb;clear bb;have be:=Lib.hid a9;have bf:=Lib.hid a';clear a9 a';go_loopw [7] (λjv wr=>∃J:Nat,jv=.int .i64 J/\i+1<=J/\J<=P.orders.length/\Ext w0 wr/\∀m,i<m->m<J->wu P f i m) (λjv _=>P.orders.length-(intOf jv).toNat)
 case atStart=>exact⟨i+1,by go_num,by omega,by omega,Ext.refl _,λm h1 h2=>by omega⟩
 case round =>
  obtain⟨J,rfl,rE,hJ2,j,hc1⟩:=hrel;have aP:=Lib.hid hc1;clear hc1;by_cases A:J<P.orders.length
  ·--<P1
   have bg:(J:Int)<P.orders.length:=by omega
   obtain⟨ak,sR,wH,_,_,hb1,B,C,e⟩:=(ai.ext j).at;obtain⟨ao,iA,rfl,_,_⟩:=e.o.shape;obtain⟨bo,oo,rfl,_,_,ni⟩:=Ints.at e.o J A;obtain⟨ap,kS,rfl,_,_⟩:=Sl.shape e.p;obtain⟨bp,op,al,D,rfl,_,_,qM,R⟩:=dK.at e.p J (by have:=bf.out;omega);obtain⟨ac,ji,rfl,_,_⟩:=Sl.shape e.c;obtain⟨bc,oc,uC,am,rfl,_,_,qO,oN⟩:=fU.at e.c i ba;obtain⟨bd,od,aQ,ab,rfl,_,_,hcd,hid⟩:=dK.at oN (J-i-1) (by rw[S.out.1];omega);have e1:∀w',Ext wr w'->w'.cell? ⟨w.heap.size,0,none⟩=some (.slice (some ⟨bo,oo,none⟩) P.orders.length iA):=λw' h=>h.cell hb1 (by simp);have e2:∀w',Ext wr w'->w'.cell? ⟨w.heap.size,1,none⟩=some (.slice (some ⟨bp,op,none⟩) P.eH.length kS):=λw' h=>h.cell (by simpa using B) (by simp);have e3:∀w',Ext wr w'->w'.cell? ⟨w.heap.size,2,none⟩=some (.slice (some ⟨bc,oc,none⟩) P.conj.length ji):=λw' h=>h.cell (by simpa using C) (by simp);have e4:∀w',Ext wr w'->w'.cell? ⟨bo,oo+J,none⟩=some (.int .i64 (gt P.orders J)):=λw' h=>h.cell ni (by simp);have e5:∀w',Ext wr w'->w'.cell? ⟨bp,op+J,none⟩=some (.slice al (gt P.eH J).length D):=λw' h=>h.cell qM (by simp);have e6:∀w',Ext wr w'->w'.cell? ⟨bc,oc+i,none⟩=some (.slice (some ⟨bd,od,none⟩) (gt P.conj i).length am):=λw' h=>h.cell qO (by simp);have e7:∀w',Ext wr w'->w'.cell? ⟨bd,od+(J-i-1),none⟩=some (.slice aQ (gt (gt P.conj i) (J-i-1)).length ab):=λw' h=>h.cell hcd (by simp);have b1:(0:Int)<=(J:Int)-i-1:=by omega
   have b2:(J:Int)-i-1<(gt P.conj i).length:=by rw[S.out.1];omega
   have b3:(i:Int)<P.conj.length:=by omega
   have b4:(J:Int)<P.eH.length:=by have:=bf.out;omega
   have b6:(0:Int)<=J:=by omega
   have b7:((J:Int)-i-1).toNat=J-i-1:=by omega
   have b8:(1:Int)<=(J:Int)-i:=by omega
   have s1:IntKind.i64.wrap ((J:Int)-i)=(J:Int)-i:=IntWalk.i64_in _ (by omega);have s2:IntKind.i64.wrap ((J:Int)-i-1)=(J:Int)-i-1:=IntWalk.i64_in _ (by omega);have s3:IntKind.i64.wrap ((i:Int)+1)=(i:Int)+1:=IntWalk.i64_in _ (by omega);have an:=(S.out.2 (J-i-1) (by omega)).1;have aq:=(hP.pv J A).1;have bk:=hP.gh J A;have U:=Lib.hid (And.intro an (And.intro aq bk));clear an aq bk;have V:(pN (fE P f (i+1)) (zeros P.orders.length) (gt (gt P.conj i) (J-i-1)) (gt P.orders J).toNat).length=P.orders.length:=(P6 hP f (i+1) (by omega) _ _ _ _ (lV hP) U.out.1).1;have W:=(y6 hP f i O (gt P.eH J)).1;have X:=Lib.hid (And.intro V W);clear V W;clear hb1 B C ni qM qO hcd oN;have F:=j.cell Q.out.1 (by simp);have G:=j.cell Q.out.2.1 (by simp);have H:=j.cell Q.out.2.2.1 (by simp);have I:=j.cell Q.out.2.2.2.1 (by simp);have L:=λk=>ia j (Q.out.2.2.2.2 k) rs;have l:w.heap.size+1<wr.heap.size:=Nat.lt_of_lt_of_le rs j.size;have b:=Lib.hid (And.intro F (And.intro G (And.intro H (And.intro I L))));clear F G H I L;go_wp2
   go_region_held3 (λw'=>Ext wr w') (first|exact fk _ _|assumption)
    (first
     | (go_at_call 278;refine Calls.mono (Calls.rel (w0:=wr) (by assumption) (Dp P hP _ _ _ (i+1) f (by omega) _ _ Any Any ⟨_,_,_,rfl,fA.ext e (by assumption)⟩ (Ints.ext hid (by assumption)) U.out.1 (by have:=U.out.2.2;omega) (by have:=U.out.2.2;omega))) ?_;rintro eA Y ⟨vA,rfl,q,iZ,u⟩))
   clear s1 s2 s3 b1 b2 b7 b8 e6 e7 e4;have f1:∀w',Ext Y w'->w'.cell? ⟨w.heap.size,0,none⟩=some (.slice (some ⟨bo,oo,none⟩) P.orders.length iA):=λw' h=>e1 w' (dy q h);have f2:∀w',Ext Y w'->w'.cell? ⟨w.heap.size,1,none⟩=some (.slice (some ⟨bp,op,none⟩) P.eH.length kS):=λw' h=>e2 w' (dy q h);have f3:∀w',Ext Y w'->w'.cell? ⟨w.heap.size,2,none⟩=some (.slice (some ⟨bc,oc,none⟩) P.conj.length ji):=λw' h=>e3 w' (dy q h);have f5:∀w',Ext Y w'->w'.cell? ⟨bp,op+J,none⟩=some (.slice al (gt P.eH J).length D):=λw' h=>e5 w' (dy q h);clear e1 e2 e3 e5;go_wp2;cases hq:jk (pN (fE P f (i+1)) (zeros P.orders.length) (gt (gt P.conj i) (J-i-1)) (gt P.orders J).toNat) (gF P f i (gt P.eH J)) with
   | true=>
    have HQ:=Lib.hid hq
    go_region_held3 (λw'=>Ext Y w') (first|exact fk _ _|assumption)
     (first
      | (go_at_call 237;refine Calls.mono (Calls.jF (w0:=Y) (by assumption) (uB P hP f (lR P hP f) _ _ _ i _ Any Any O ⟨_,_,_,rfl,fA.ext (fA.ext e q) (by assumption)⟩ (Ints.ext (Ints.ext R q) (by assumption)) U.out.2.1)) ?_;rintro eF wF ⟨vF,rfl,z,Iw,pK,lC⟩;have r:=(u.gw z).ints (by rw[X.out.1];omega);have au:=lC.ints (by rw[X.out.2];omega))
      | (go_at_call 275;refine Calls.mono (Calls.rel (w0:=Y) (by assumption) (qA _ _ _ _ _ Any Any r au)) ?_;rintro eB wB ⟨vB,rfl,rG,jV,rfl⟩))
    clear f1 f2 f3 f5;have a:Ext wr wB:=dy q rG;go_wp2;go_roundw
    case rel=>exact⟨J+1,by go_num,by omega,by omega,dy j a,λm h1 h2=>by
     rcases Nat.lt_or_ge m J with Z|Z
     ·exact aP.out m h1 Z
     ·have:m=J:=by omega
      rw[this];exact kC.1 HQ.out⟩
    case measure=>simp[intOf];omega
   | false=>
    have HQ:=Lib.hid hq
    go_region_held3 (λw'=>Ext Y w') (first|exact fk _ _|assumption)
     (first
      | (go_at_call 237;refine Calls.mono (Calls.jF (w0:=Y) (by assumption) (uB P hP f (lR P hP f) _ _ _ i _ Any Any O ⟨_,_,_,rfl,fA.ext (fA.ext e q) (by assumption)⟩ (Ints.ext (Ints.ext R q) (by assumption)) U.out.2.1)) ?_;rintro eF wF ⟨vF,rfl,z,Iw,pK,lC⟩;have r:=(u.gw z).ints (by rw[X.out.1];omega);have au:=lC.ints (by rw[X.out.2];omega))
      | (go_at_call 275;refine Calls.mono (Calls.rel (w0:=Y) (by assumption) (qA _ _ _ _ _ Any Any r au)) ?_;rintro eB wB ⟨vB,rfl,rG,jV,rfl⟩))
    clear f1 f2 f3 f5;have a:Ext wr wB:=dy q rG;have c0:=a.cell b.out.1 (by simp);have c1:=a.cell b.out.2.1 (by simp);have c2:=a.cell b.out.2.2.1 (by simp);have c3:=a.cell b.out.2.2.2.1 (by simp);have az:=ia a (b.out.2.2.2.2 0) l;have aA:=ia a (b.out.2.2.2.2 1) l;have aB:=ia a (b.out.2.2.2.2 2) l;have aC:=ia a (b.out.2.2.2.2 3) l;go_wp2;refine bodyPost_ret (v := .agg #[.int .i64 1,.int .i64 i,.int .i64 J,.int .i64 0]) (by simp[results,Tryz.results236,go_sem,c0,c1,c2,c3]) rfl ⟨_,rfl,pO (dy T (dy j a)) (by omega) _ _ _ _,.inr ⟨λh=>lu.1 HQ.out (h.c1 J (by omega) A),_,_,_,_,by decide,rfl⟩⟩
  -->P1
  ·have aL : ∀m,i<m->m<P.orders.length->wu P f i m:=λm h1 h2=>aP.out m h1 (by omega)
   have bS:=Lib.hid aL;clear aL aP;go_wp2;clear A;go_loopw [9] (λjv wr=>∃J:Nat,jv=.int .i64 J/\i+1<=J/\J<=P.orders.length/\Ext w0 wr/\∀m n,i<m->m<J->m<n->n<P.orders.length->tZ P f i m n) (λjv _=>P.orders.length-(intOf jv).toNat)
   case atStart=>exact⟨i+1,by go_num,by omega,by omega,j,λm n h1 h2=>by omega⟩
   case round =>
    clear j rE hJ2;obtain⟨J,rfl,rE,hJ2,j,hc2⟩:=hrel;have aR:=Lib.hid hc2;clear hc2;by_cases A:J<P.orders.length
    ·--<P2
     have bg:(J:Int)<P.orders.length:=by omega
     go_wp2;go_loopw [10] (λkv wr=>∃K:Nat,kv=.int .i64 K/\J+1<=K/\K<=P.orders.length/\Ext w0 wr/\∀n,J<n->n<K->tZ P f i J n) (λkv _=>P.orders.length-(intOf kv).toNat)
     case atStart=>exact⟨J+1,by go_num,by omega,by omega,j,λn h1 h2=>by omega⟩
     case round=>
      clear j;obtain⟨K,rfl,P0,hK2,j,hc3⟩:=hrel;have bl:=Lib.hid hc3;clear hc3;by_cases bm:K<P.orders.length
      ·obtain ⟨ak,sR,wH,_,_,hb1,B,C,e⟩:=(ai.ext j).at
       obtain⟨ac,ji,rfl,_,_⟩:=Sl.shape e.c;obtain⟨bc,oc,uC,am,rfl,_,_,qO,oN⟩:=fU.at e.c i ba;obtain⟨bd,od,aQ,ab,rfl,_,_,hcd,hid⟩:=dK.at oN (J-i-1) (by rw[S.out.1];omega);obtain⟨bT,wm,bU,aS,yU,_,_,A7,Ix⟩:=dK.at oN (K-i-1) (by rw[S.out.1];omega);obtain⟨rfl,rfl⟩:bT=bd/\wm=od:=by cases yU;exact⟨rfl,rfl⟩
       have af:=(hP.cv J A);obtain⟨aD,rF,P3,aT,yV,_,_,yX,yY⟩:=fU.at e.c J (by have:=be.out;omega);obtain⟨rfl,rfl⟩:aD=bc/\rF=oc:=by cases yV;exact⟨rfl,rfl⟩
       obtain⟨bn,yZ,bV,aU,rfl,_,_,y4,aM⟩:=dK.at yY (K-J-1) (by rw[af.1];omega);clear yU yV;have e1:∀w',Ext wr w'->w'.cell? ⟨w.heap.size,0,none⟩=some ak:=λw' h=>h.cell hb1 (by simp);have e2:∀w',Ext wr w'->w'.cell? ⟨w.heap.size,1,none⟩=some sR:=λw' h=>h.cell (by simpa using B) (by simp);have e3:∀w',Ext wr w'->w'.cell? ⟨w.heap.size,2,none⟩=some (.slice (some ⟨aD,rF,none⟩) P.conj.length ji):=λw' h=>h.cell (by simpa using C) (by simp);have bq:=e3 wr (Ext.refl _);have e9:∀w',Ext wr w'->w'.cell? ⟨aD,rF+J,none⟩=some (.slice (some ⟨bn,yZ,none⟩) (gt P.conj J).length aT):=λw' h=>h.cell yX (by simp);have aE:∀w',Ext wr w'->w'.cell? ⟨bn,yZ+(K-J-1),none⟩=some (.slice bV (gt (gt P.conj J) (K-J-1)).length aU):=λw' h=>h.cell y4 (by simp);have b1:(0:Int)<=(J:Int)-i-1:=by omega
       have b2:(J:Int)-i-1<(gt P.conj i).length:=by rw[S.out.1];omega
       have b3:(i:Int)<P.conj.length:=by omega
       have b4:(J:Int)<P.conj.length:=by have:=be.out;omega
       have b7:((J:Int)-i-1).toNat=J-i-1:=by omega
       have b8:(1:Int)<=(J:Int)-i:=by omega
       have k1:(0:Int)<=(K:Int)-i-1:=by omega
       have k2:(K:Int)-i-1<(gt P.conj i).length:=by rw[S.out.1];omega
       have k7:((K:Int)-i-1).toNat=K-i-1:=by omega
       have k8:(1:Int)<=(K:Int)-i:=by omega
       have m1:(0:Int)<=(K:Int)-J-1:=by omega
       have m2:(K:Int)-J-1<(gt P.conj J).length:=by rw[af.1];omega
       have m7:((K:Int)-J-1).toNat=K-J-1:=by omega
       have m8:(1:Int)<=(K:Int)-J:=by omega
       have b5:(K:Int)<P.orders.length:=by omega
       have s1:IntKind.i64.wrap ((J:Int)-i)=(J:Int)-i:=IntWalk.i64_in _ (by omega);have s2:IntKind.i64.wrap ((J:Int)-i-1)=(J:Int)-i-1:=IntWalk.i64_in _ (by omega);have s3:IntKind.i64.wrap ((K:Int)-i)=(K:Int)-i:=IntWalk.i64_in _ (by omega);have s4:IntKind.i64.wrap ((K:Int)-i-1)=(K:Int)-i-1:=IntWalk.i64_in _ (by omega);have s5:IntKind.i64.wrap ((K:Int)-J)=(K:Int)-J:=IntWalk.i64_in _ (by omega);have s6:IntKind.i64.wrap ((K:Int)-J-1)=(K:Int)-J-1:=IntWalk.i64_in _ (by omega);have s7:IntKind.i64.wrap ((i:Int)+1)=(i:Int)+1:=IntWalk.i64_in _ (by omega);have br:=(S.out.2 (J-i-1) (by omega)).1;have bs:=(S.out.2 (K-i-1) (by omega)).1;have aN:=(af.2 (K-J-1) (by omega)).1;have U:=Lib.hid (And.intro bs (And.intro br aN));clear br bs aN af;have aV:=y6 hP f i O (gt (gt P.conj J) (K-J-1));have V:=(jy hP f (i+1) _ _ (by omega) U.out.1 U.out.2.1).1;have W:=(jy hP f (i+1) _ _ (by omega) U.out.2.1 aV).1;have X:=Lib.hid (And.intro V (And.intro W aV));clear V W aV;have F:=j.cell Q.out.1 (by simp);have G:=j.cell Q.out.2.1 (by simp);have H:=j.cell Q.out.2.2.1 (by simp);have I:=j.cell Q.out.2.2.2.1 (by simp);have L:=λk=>ia j (Q.out.2.2.2.2 k) rs;have l:w.heap.size+1<wr.heap.size:=Nat.lt_of_lt_of_le rs j.size;have b:=Lib.hid (And.intro F (And.intro G (And.intro H (And.intro I L))));clear F G H I L;have E:=Lib.hid (And.intro e1 (And.intro e2 (And.intro e3 (And.intro e9 aE))));clear e1 e2 e3 e9 aE;clear hb1 B C;go_wp2;go_quiet (fail)
       rename_i nq _;have aW:Ext wr (wr.drewN nq):=iI _ _ _;clear qO hcd A7 yX y4 oN yY bq;obtain⟨wq,aX⟩:∃wq:World,wq=wr.drewN nq:=⟨_,rfl⟩;rw[<-aX] at aW;rw[<-aX];clear aX;obtain⟨e1,e2,e3,e9,aE⟩:=E.out;go_wp2
       go_region_held3 (λw'=>Ext wr w') (first|exact dy aW (fk _ _)|exact aW|exact fk _ _|assumption)
        (first
         | (go_at_call 237;refine Calls.mono (Calls.rel (w0:=wr) (by assumption) (uB P hP f (lR P hP f) _ _ _ i _ Any Any O ⟨_,_,_,rfl,fA.ext e (by assumption)⟩ (Ints.ext aM (by assumption)) U.out.2.2)) ?_;rintro eF wF ⟨vF,rfl,z,Iw,lC⟩))
       have bt:=lC.ints (by rw[X.out.2.2.1];omega);have bu:Ints Any wF (.slice bU (gt (gt P.conj i) (K-i-1)).length aS) _:=Ints.ext Ix z;have aF:Ints Any wF (.slice aQ (gt (gt P.conj i) (J-i-1)).length ab) _:=Ints.ext hid z;have aG:=fA.ext e z;have f1:∀w',Ext wF w'->w'.cell? ⟨w.heap.size,0,none⟩=some ak:=λw' h=>e1 w' (dy z h);have f2:∀w',Ext wF w'->w'.cell? ⟨w.heap.size,1,none⟩=some sR:=λw' h=>e2 w' (dy z h);have f3:∀w',Ext wF w'->w'.cell? ⟨w.heap.size,2,none⟩=some (.slice (some ⟨aD,rF,none⟩) P.conj.length ji):=λw' h=>e3 w' (dy z h);clear e1 e2 e3 e9 aE E s1 s2 s3 s4 s5 s6 b1 b2 b7 b8 k1 k2 k7 k8 m1 m2 m7 m8 aM Ix hid e lC;go_wp2;cases hq:jk (fE P f (i+1) (gt (gt P.conj i) (K-i-1)) (gt (gt P.conj i) (J-i-1))) (fE P f (i+1) (gt (gt P.conj i) (J-i-1)) (gF P f i (gt (gt P.conj J) (K-J-1)))) with
       | true=>
        have HQ:=Lib.hid hq
        go_region_held3 (λw'=>Ext wF w') (first|exact fk _ _|assumption)
         (first
          | (go_at_call_of 192 (vF);refine Calls.mono (Calls.jF (w0:=wF) (by assumption) (lR P hP f _ _ _ _ (i+1) _ _ Any Any Any (by omega) ⟨_,_,_,rfl,fA.ext aG (by assumption)⟩ (Ints.ext aF (by assumption)) (Ints.ext bt (by assumption)) U.out.2.1 X.out.2.2)) ?_;rintro eG wG ⟨vG,rfl,y7,M,A9,ue⟩;have r:=(u.gw M).ints (by rw[X.out.1];omega);have N:=ue.ints (by rw[X.out.2.1];omega))
          | (go_at_call 192;refine Calls.mono (Calls.rel (w0:=wF) (by assumption) (lR P hP f _ _ _ _ (i+1) _ _ Any Any Any (by omega) ⟨_,_,_,rfl,fA.ext aG (by assumption)⟩ (Ints.ext bu (by assumption)) (Ints.ext aF (by assumption)) U.out.1 U.out.2.1)) ?_;rintro eA Y ⟨vA,rfl,q,iZ,u⟩)
          | (go_at_call 275;refine Calls.mono (Calls.rel (w0:=wF) (by assumption) (qA _ _ _ _ _ Any Any r N)) ?_;rintro eB wB ⟨vB,rfl,uf,jV,rfl⟩))
        clear f1 f2 f3;have a:Ext wr wB:=dy z uf;go_wp2;go_roundw
        case rel=>exact⟨K+1,by go_num,by omega,by omega,dy j a,λn h1 h2=>by
         rcases Nat.lt_or_ge n K with Z|Z
         ·exact bl.out n h1 Z
         ·have:n=K:=by omega
          rw[this];exact kC.1 HQ.out⟩
        case measure=>simp[intOf];omega
       | false=>
        have HQ:=Lib.hid hq
        go_region_held3 (λw'=>Ext wF w') (first|exact fk _ _|assumption)
         (first
          | (go_at_call_of 192 (vF);refine Calls.mono (Calls.jF (w0:=wF) (by assumption) (lR P hP f _ _ _ _ (i+1) _ _ Any Any Any (by omega) ⟨_,_,_,rfl,fA.ext aG (by assumption)⟩ (Ints.ext aF (by assumption)) (Ints.ext bt (by assumption)) U.out.2.1 X.out.2.2)) ?_;rintro eG wG ⟨vG,rfl,y7,M,A9,ue⟩;have r:=(u.gw M).ints (by rw[X.out.1];omega);have N:=ue.ints (by rw[X.out.2.1];omega))
          | (go_at_call 192;refine Calls.mono (Calls.rel (w0:=wF) (by assumption) (lR P hP f _ _ _ _ (i+1) _ _ Any Any Any (by omega) ⟨_,_,_,rfl,fA.ext aG (by assumption)⟩ (Ints.ext bu (by assumption)) (Ints.ext aF (by assumption)) U.out.1 U.out.2.1)) ?_;rintro eA Y ⟨vA,rfl,q,iZ,u⟩)
          | (go_at_call 275;refine Calls.mono (Calls.rel (w0:=wF) (by assumption) (qA _ _ _ _ _ Any Any r N)) ?_;rintro eB wB ⟨vB,rfl,uf,jV,rfl⟩))
        clear f1 f2 f3;have a:Ext wr wB:=dy z uf;have c0:=a.cell b.out.1 (by simp);have c1:=a.cell b.out.2.1 (by simp);have c2:=a.cell b.out.2.2.1 (by simp);have c3:=a.cell b.out.2.2.2.1 (by simp);have az:=ia a (b.out.2.2.2.2 0) l;have aA:=ia a (b.out.2.2.2.2 1) l;have aB:=ia a (b.out.2.2.2.2 2) l;have aC:=ia a (b.out.2.2.2.2 3) l;go_wp2;refine bodyPost_ret (v := .agg #[.int .i64 2,.int .i64 i,.int .i64 J,.int .i64 K]) (by simp[results,Tryz.results236,go_sem,c0,c1,c2,c3]) rfl ⟨_,rfl,pO (dy T (dy j a)) (by omega) _ _ _ _,.inr ⟨λh=>lu.1 HQ.out (h.c2 J K (by omega) (by omega) bm),_,_,_,_,by decide,rfl⟩⟩
      ·have cK:K=P.orders.length:=by omega
       go_wp2;go_roundw
       case rel=>exact⟨J+1,by go_num,by omega,by omega,j,λm n h1 h2 Z h4=>by
         rcases Nat.lt_or_ge m J with h5|h5
         ·exact aR.out m n h1 h5 Z h4
         ·have:m=J:=by omega
          subst this;exact bl.out n Z (by omega)⟩
       case measure=>simp[intOf];omega
    -->P2
    ·have av:∀m n,i<m->m<n->n<P.orders.length->tZ P f i m n:=λm n h1 h2 Z=>aR.out m n h1 (by omega) h2 Z
     have bZ:=Lib.hid av;clear av aR;obtain⟨ak,sR,wH,_,_,hb1,B,C,e⟩:=(ai.ext j).at;obtain⟨ap,kS,rfl,_,_⟩:=Sl.shape e.p;obtain⟨bp,op,al,D,rfl,_,_,qM,R⟩:=dK.at e.p i bN;have bv:=(y6 hP f i O (gt P.eH i)).1;have b0:=Lib.hid bv;clear bv;have F:=j.cell Q.out.1 (by simp);have G:=j.cell Q.out.2.1 (by simp);have H:=j.cell Q.out.2.2.1 (by simp);have I:=j.cell Q.out.2.2.2.1 (by simp);have L:=λk=>ia j (Q.out.2.2.2.2 k) rs;have l:w.heap.size+1<wr.heap.size:=Nat.lt_of_lt_of_le rs j.size;have b:=Lib.hid (And.intro F (And.intro G (And.intro H (And.intro I L))));clear F G H I L;go_wp2_with fail
     refine Calls.mono (uB P hP f (lR P hP f) wr _ _ i _ Any Any O ⟨_,_,_,rfl,e⟩ R aa.out) ?_;rintro eA Y ⟨vA,rfl,q,u⟩;go_wp2_with fail
     refine Calls.mono (qA _ _ _ _ Y Any Any (u.ints (by rw[b0.out];omega)) (Ints.ext R q)) ?_;rintro eB wB ⟨vB,rfl,rG,rfl⟩;have a:Ext wr wB:=dy q rG;have aw:Ints Any wB (.slice al (gt P.eH i).length D) (gt P.eH i):=Ints.ext R a;cases hq:jk (gF P f i (gt P.eH i)) (gt P.eH i) with
     | false=>
      have HQ:=Lib.hid hq;have c0:=a.cell b.out.1 (by simp);have c1:=a.cell b.out.2.1 (by simp);have c2:=a.cell b.out.2.2.1 (by simp);have c3:=a.cell b.out.2.2.2.1 (by simp);have az:=ia a (b.out.2.2.2.2 0) l;have aA:=ia a (b.out.2.2.2.2 1) l;have aB:=ia a (b.out.2.2.2.2 2) l;have aC:=ia a (b.out.2.2.2.2 3) l;go_wp2;refine bodyPost_ret (v := .agg #[.int .i64 3,.int .i64 i,.int .i64 0,.int .i64 0]) (by simp[results,Tryz.results236,go_sem,c0,c1,c2,c3]) rfl ⟨_,rfl,pO (dy T (dy j a)) (by omega) _ _ _ _,.inr ⟨λh=>lu.1 HQ.out h.c3,_,_,_,_,by decide,rfl⟩⟩
     | true =>
      --<P4
      have HQ:=Lib.hid (kC.1 hq);have bw:=dy j a;clear qM hb1 B C e;go_wp2;clear hq;obtain⟨wz,rfl⟩:∃wz:World,wz=wB:=⟨_,rfl⟩;go_loopw [15] (λjv wr=>∃J:Nat,jv=.int .i64 J/\i+1<=J/\J<=P.orders.length/\Ext w0 wr/\Ext wz wr/\∀m,i<m->m<J->y5 P f i m) (λjv _=>P.orders.length-(intOf jv).toNat)
      case atStart=>exact⟨i+1,by go_num,by omega,by omega,bw,Ext.refl _,λm h1 h2=>by omega⟩
      case round=>
       clear j q a bw u rE hJ2 b l rG A;obtain⟨J,rfl,rE,hJ2,j,bx,rW⟩:=hrel;have bz:=Lib.hid rW;clear rW;have F:=j.cell Q.out.1 (by simp);have G:=j.cell Q.out.2.1 (by simp);have H:=j.cell Q.out.2.2.1 (by simp);have I:=j.cell Q.out.2.2.2.1 (by simp);have L:=λk=>ia j (Q.out.2.2.2.2 k) rs;have l:w.heap.size+1<wr.heap.size:=Nat.lt_of_lt_of_le rs j.size;have b:=Lib.hid (And.intro F (And.intro G (And.intro H (And.intro I L))));clear F G H I L;by_cases A:J<P.orders.length
       ·have bg:(J:Int)<P.orders.length:=by omega
        go_wp2_with fail
        refine Calls.mono (uz P.orders.length J wr A (by omega)) ?_;rintro eU wU ⟨vU,rfl,zX,A8⟩;have aY:=A8.ints (by rw[(qw hP J).1];omega);have aO:=hP.gh i hi;have cN:0<=gt P.orders i:=by omega
        have cO:gt P.orders i<=7:=aO.2;clear aO;go_wp2;obtain⟨wo,rfl⟩:∃wo:World,wo=wr:=⟨_,rfl⟩;go_loopw [17,18] (λxv mv w2=>∃m:Nat,mv=.int .i64 m/\m<=(gt P.orders i).toNat/\Ext wU w2/\Ints Any w2 xv (iter m (λx=>gF P f i x) (fQ P.orders.length J))) (λ_ mv _=>(gt P.orders i).toNat-(intOf mv).toNat)
        case atStart=>exact⟨0,rfl,by omega,Ext.refl _,aY⟩
        case round=>
         obtain⟨m,rfl,hm,hg2,hX⟩:=hrel;have aH:=dy zX hg2;have ca:=dy j aH;have bA:dL P.orders (iter m (λx=>gF P f i x) (fQ P.orders.length J)):=jN (dL P.orders) _ (λy hy=>y6 hP f i O y) _ _ (qw hP J);have aZ:=Lib.hid bA;clear bA;obtain⟨ak,sR,wH,_,_,hb1,B,C,e⟩:=(ai.ext ca).at;obtain⟨cQ,Dh,rfl,_,_⟩:=e.o.shape;obtain⟨bo,oo,rfl,_,_,ni⟩:=Ints.at e.o i hi;by_cases cn:(m:Int)<gt P.orders i
         ·go_wp2_with fail
          refine Calls.mono (uB P hP f (lR P hP f) wr _ _ i _ Any Any O ⟨_,_,_,rfl,e⟩ hX aZ.out) ?_;rintro eA Y ⟨vA,rfl,q,u⟩;have bB:=y6 hP f i O (iter m (λx=>gF P f i x) (fQ P.orders.length J));have bC:=u.ints (by rw[bB.1];omega);clear bB hb1 B C ni;go_wp2;go_roundw
          case rel=>exact⟨m+1,by go_num,by omega,dy hg2 q,bC⟩
          case measure=>simp[intOf];omega
         ·have bD:m=(gt P.orders i).toNat:=by omega
          have a0:=aZ.out;have bE:Ints Any wr u17 (iter (gt P.orders i).toNat (λx=>gF P f i x) (fQ P.orders.length J)):=by rw[<-bD];exact hX
          rw[bD] at a0;have a1:=Lib.hid a0;clear a0 hX aZ;have V:=(jy hP f (i+1) _ _ (by omega) aa.out a1.out).1;have W:=(jy hP f (i+1) _ _ (by omega) (qw hP J) aa.out).1;have X:=Lib.hid (And.intro V W);clear V W;have s3:IntKind.i64.wrap ((i:Int)+1)=(i:Int)+1:=IntWalk.i64_in _ (by omega);have aI:Ints Any wr (.slice al (gt P.eH i).length D) (gt P.eH i):=Ints.ext aw (dy bx aH);have bF:Ints Any wr vU (fQ P.orders.length J):=aY.ext hg2;have f1:∀w',Ext wr w'->w'.cell? ⟨w.heap.size,0,none⟩=some (.slice (some ⟨bo,oo,none⟩) P.orders.length Dh):=λw' h=>h.cell hb1 (by simp);have f2:∀w',Ext wr w'->w'.cell? ⟨w.heap.size,1,none⟩=some sR:=λw' h=>h.cell (by simpa using B) (by simp);have f3:∀w',Ext wr w'->w'.cell? ⟨w.heap.size,2,none⟩=some wH:=λw' h=>h.cell (by simpa using C) (by simp);clear aw aY A8;go_wp2;clear hb1 B C ni;cases hq:jk (fE P f (i+1) (gt P.eH i) (iter (gt P.orders i).toNat (λx=>gF P f i x) (fQ P.orders.length J))) (fE P f (i+1) (fQ P.orders.length J) (gt P.eH i)) with
          | true=>
           have a2:=Lib.hid hq
           go_region_held3 (λw'=>Ext wr w') (first|exact fk _ _|assumption)
            (first
             | (go_at_call_of 192 (vU);refine Calls.mono (Calls.jF (w0:=wr) (by assumption) (lR P hP f _ _ _ _ (i+1) _ _ Any Any Any (by omega) ⟨_,_,_,rfl,fA.ext e (by assumption)⟩ (Ints.ext bF (by assumption)) (Ints.ext aI (by assumption)) (qw hP J) aa.out)) ?_;rintro eG wG ⟨vG,rfl,y7,M,A9,ue⟩;have r:=(u.gw M).ints (by rw[X.out.1];omega);have N:=ue.ints (by rw[X.out.2];omega))
             | (go_at_call 192;refine Calls.mono (Calls.rel (w0:=wr) (by assumption) (lR P hP f _ _ _ _ (i+1) _ _ Any Any Any (by omega) ⟨_,_,_,rfl,fA.ext e (by assumption)⟩ (Ints.ext aI (by assumption)) (Ints.ext bE (by assumption)) aa.out a1.out)) ?_;rintro eA Y ⟨vA,rfl,q,iZ,u⟩)
             | (go_at_call 275;refine Calls.mono (Calls.rel (w0:=wr) (by assumption) (qA _ _ _ _ _ Any Any r N)) ?_;rintro eB wB ⟨vB,rfl,uf,jV,rfl⟩))
           clear f1 f2 f3;have a:Ext wo wB:=dy aH uf;go_wp2;go_roundw
           case rel=>exact⟨J+1,by go_num,by omega,by omega,dy j a,dy bx a,λm h1 h2=>by
            rcases Nat.lt_or_ge m J with Z|Z
            ·exact bz.out m h1 Z
            ·have:m=J:=by omega
             rw[this];exact kC.1 a2.out⟩
           case measure=>simp[intOf];omega
          | false=>
           have a2:=Lib.hid hq
           go_region_held3 (λw'=>Ext wr w') (first|exact fk _ _|assumption)
            (first
             | (go_at_call_of 192 (vU);refine Calls.mono (Calls.jF (w0:=wr) (by assumption) (lR P hP f _ _ _ _ (i+1) _ _ Any Any Any (by omega) ⟨_,_,_,rfl,fA.ext e (by assumption)⟩ (Ints.ext bF (by assumption)) (Ints.ext aI (by assumption)) (qw hP J) aa.out)) ?_;rintro eG wG ⟨vG,rfl,y7,M,A9,ue⟩;have r:=(u.gw M).ints (by rw[X.out.1];omega);have N:=ue.ints (by rw[X.out.2];omega))
             | (go_at_call 192;refine Calls.mono (Calls.rel (w0:=wr) (by assumption) (lR P hP f _ _ _ _ (i+1) _ _ Any Any Any (by omega) ⟨_,_,_,rfl,fA.ext e (by assumption)⟩ (Ints.ext aI (by assumption)) (Ints.ext bE (by assumption)) aa.out a1.out)) ?_;rintro eA Y ⟨vA,rfl,q,iZ,u⟩)
             | (go_at_call 275;refine Calls.mono (Calls.rel (w0:=wr) (by assumption) (qA _ _ _ _ _ Any Any r N)) ?_;rintro eB wB ⟨vB,rfl,uf,jV,rfl⟩))
           clear f1 f2 f3;have a:Ext wo wB:=dy aH uf;have c0:=a.cell b.out.1 (by simp);have c1:=a.cell b.out.2.1 (by simp);have c2:=a.cell b.out.2.2.1 (by simp);have c3:=a.cell b.out.2.2.2.1 (by simp);have az:=ia a (b.out.2.2.2.2 0) l;have aA:=ia a (b.out.2.2.2.2 1) l;have aB:=ia a (b.out.2.2.2.2 2) l;have aC:=ia a (b.out.2.2.2.2 3) l;go_wp2;refine bodyPost_ret (v := .agg #[.int .i64 4,.int .i64 i,.int .i64 J,.int .i64 0]) (by simp[results,Tryz.results236,go_sem,c0,c1,c2,c3]) rfl ⟨_,rfl,pO (dy T (dy j a)) (by omega) _ _ _ _,.inr ⟨λh=>lu.1 a2.out (h.c4 J (by omega) A),_,_,_,_,by decide,rfl⟩⟩
       ·have cb:J=P.orders.length:=by omega
        subst cb;have c0:=b.out.1;have c1:=b.out.2.1;have c2:=b.out.2.2.1;have c3:=b.out.2.2.2.1;have az:=b.out.2.2.2.2 0;have aA:=b.out.2.2.2.2 1;have aB:=b.out.2.2.2.2 2;have aC:=b.out.2.2.2.2 3;go_wp2;refine bodyPost_ret (v := .agg #[.int .i64 0,.int .i64 0,.int .i64 0,.int .i64 0]) (by simp[results,Tryz.results236,go_sem,c0,c1,c2,c3]) rfl ⟨_,rfl,pO (dy T j) (by omega) _ _ _ _,.inl ⟨⟨bS.out,bZ.out,HQ.out,bz.out⟩,rfl⟩⟩
      -->P4
def Iy (P:Pr):Prop:=∀k,k<P.orders.length->tY P k
def wJ (P:Pr):Prop:=∀k,k<P.orders.length->ud P (P.orders.length-1-k) k
open Classical in
noncomputable def qP (P:Pr):Bool:=decide (Valid P/\Iy P)
open Classical in
noncomputable def jH (P:Pr):Bool:=decide (Valid P/\wJ P)
theorem P8 (P:Pr) (hP:Valid P) (w:World) (pv:Value) (Sp:Nat->Prop) (H:gy Sp w pv P) :
  Calls Tryz.prog 191 #[pv] w (fq w λ_ v=>A6 (wJ P) v):=by
 have ac:=hP.n6;obtain⟨vo,vp,vc,rfl,G⟩:=H;have r:=fB.box G 28;have l:Ext w ((w.alloc (.cells #[vo,vp,vc] 28)).alloc (.cells #[.int .i64 0,.int .i64 0,.int .i64 0,.int .i64 0] 190)):=dy (World.grownBy_alloc _ _ _) (World.grownBy_alloc _ _ _);have u:=r.ext (World.grownBy_alloc (w.alloc (.cells #[vo,vp,vc] 28)) (.cells #[.int .i64 0,.int .i64 0,.int .i64 0,.int .i64 0] 190) none);obtain⟨ao,iA,gJ,hoi⟩:=u.iO;go_enter Tryz.func191,Tryz.ntmps191;go_wp2;clear gJ hoi;have b:(w.alloc (.cells #[vo,vp,vc] 28)).heap.size=w.heap.size+1:=by simp
 have R:((w.alloc (.cells #[vo,vp,vc] 28)).alloc (.cells #[.int .i64 0,.int .i64 0,.int .i64 0,.int .i64 0] 190)).cell? ⟨w.heap.size+1,0,none⟩=some (.int .i64 0):=by rw[World.cell?_alloc_at _ _ _ _ b.symm];rfl
 have S:((w.alloc (.cells #[vo,vp,vc] 28)).alloc (.cells #[.int .i64 0,.int .i64 0,.int .i64 0,.int .i64 0] 190)).cell? ⟨w.heap.size+1,1,none⟩=some (.int .i64 0):=by rw[World.cell?_alloc_at _ _ _ _ b.symm];rfl
 have T:((w.alloc (.cells #[vo,vp,vc] 28)).alloc (.cells #[.int .i64 0,.int .i64 0,.int .i64 0,.int .i64 0] 190)).cell? ⟨w.heap.size+1,2,none⟩=some (.int .i64 0):=by rw[World.cell?_alloc_at _ _ _ _ b.symm];rfl
 have U:((w.alloc (.cells #[vo,vp,vc] 28)).alloc (.cells #[.int .i64 0,.int .i64 0,.int .i64 0,.int .i64 0] 190)).cell? ⟨w.heap.size+1,3,none⟩=some (.int .i64 0):=by rw[World.cell?_alloc_at _ _ _ _ b.symm];rfl
 have V:∀k,((w.alloc (.cells #[vo,vp,vc] 28)).alloc (.cells #[.int .i64 0,.int .i64 0,.int .i64 0,.int .i64 0] 190)).frozen? ⟨w.heap.size+1,k,none⟩=false:=λk=>World.frozen?_alloc_at _ _ _ _ b.symm;have rs:w.heap.size+1<((w.alloc (.cells #[vo,vp,vc] 28)).alloc (.cells #[.int .i64 0,.int .i64 0,.int .i64 0,.int .i64 0] 190)).heap.size:=by simp
 clear b r;generalize (w.alloc (.cells #[vo,vp,vc] 28)).alloc (.cells #[.int .i64 0,.int .i64 0,.int .i64 0,.int .i64 0] 190)=w0 at *;have y:=Lib.hid (And.intro R (And.intro S (And.intro T (And.intro U V))));clear R S T U V;go_loopw [3] (λI wr=>∃c:Nat,I=.int .i64 ((c:Int)-1)/\c<=P.orders.length/\Ext w0 wr/\∀m,c<=m->m<P.orders.length->ud P (P.orders.length-1-m) m) (λI _=>(intOf I+1).toNat)
 case atStart=>exact⟨P.orders.length,by go_num,by omega,Ext.refl _,λm h1 W=>by omega⟩
 case round=>
  obtain⟨c,rfl,hc,e,y8⟩:=hrel;have z:=Lib.hid y8;clear y8;have A:=e.cell y.out.1 (by simp);have B:=e.cell y.out.2.1 (by simp);have C:=e.cell y.out.2.2.1 (by simp);have D:=e.cell y.out.2.2.2.1 (by simp);have E:=λk=>ia e (y.out.2.2.2.2 k) rs;have i:w.heap.size+1<wr.heap.size:=Nat.lt_of_lt_of_le rs e.size;have a:=Lib.hid (And.intro A (And.intro B (And.intro C (And.intro D E))));clear A B C D E;by_cases X:1<=c
  ·obtain ⟨c1,rfl⟩:∃c1,c=c1+1:=⟨c-1,by omega⟩
   have Y:((c1+1:Nat):Int)-1=c1:=by omega
   rw[Y];obtain⟨ad,sR,wH,_,_,hb1,hb2,hb3,Du⟩:=(u.ext e).at;simp at hb2 hb3
   go_wp2_with fail
   refine Calls.mono (P7 P hP wr _ c1 (P.orders.length-1-c1) _ ⟨_,_,_,rfl,Du⟩ (by omega)) ?_;rintro eA Z ⟨vA,rfl,p,J⟩;clear hb1 hb2 hb3 Y;have gA:=dy p (World.grownBy_alloc Z (.cells #[.int .i64 0,.int .i64 0,.int .i64 0,.int .i64 0] 190) none);rcases J with⟨q,hv⟩|⟨F,k0,k1,k2,k3,hk,rfl⟩
   ·unfold Ds at hv
    subst hv;go_wp2;go_roundw
    case rel=>exact⟨c1,by go_num,by omega,dy e (dy p (World.grownBy_alloc _ _ _)),λm h1 W=>by
     rcases Nat.lt_or_ge c1 m with G|G
     ·exact z.out m G W
     ·have:m=c1:=by omega
      rw[this];exact q⟩
    case measure=>simp[intOf]
   ·have j:Ext wr (Z.alloc (.cells #[.int .i64 k0,.int .i64 k1,.int .i64 k2,.int .i64 k3] 190)):=dy p (World.grownBy_alloc _ _ _)
    have c0:=j.cell a.out.1 (by simp);have K:=j.cell a.out.2.1 (by simp);have c2:=j.cell a.out.2.2.1 (by simp);have c3:=j.cell a.out.2.2.2.1 (by simp);have L:=ia j (a.out.2.2.2.2 0) i;have M:=ia j (a.out.2.2.2.2 1) i;have N:=ia j (a.out.2.2.2.2 2) i;have O:=ia j (a.out.2.2.2.2 3) i;go_wp2;refine bodyPost_ret (v := .agg #[.int .i64 k0,.int .i64 k1,.int .i64 k2,.int .i64 k3]) (by simp[results,Tryz.results191,go_sem,c0,K,c2,c3]) rfl ⟨_,rfl,pO (dy l (dy e j)) (by omega) _ _ _ _,.inr ⟨λh=>F (h c1 (by omega)),_,_,_,_,hk,rfl⟩⟩
  ·have Q:c=0:=by omega
   subst Q;have c0:=a.out.1;have c1:=a.out.2.1;have c2:=a.out.2.2.1;have c3:=a.out.2.2.2.1;have L:=a.out.2.2.2.2 0;have M:=a.out.2.2.2.2 1;have N:=a.out.2.2.2.2 2;have O:=a.out.2.2.2.2 3;go_wp2;refine bodyPost_ret (v := .agg #[.int .i64 0,.int .i64 0,.int .i64 0,.int .i64 0]) (by simp[results,Tryz.results191,go_sem,c0,c1,c2,c3]) rfl ⟨_,rfl,pO (dy l e) (by omega) _ _ _ _,.inl ⟨λm h=>z.out m (by omega) h,rfl⟩⟩
open Classical in
theorem P9 {e:Prop}{v:Value}(h:A6 e v):∃a b c d:Int,v=.agg #[.int .i64 a,.int .i64 b,.int .i64 c,.int .i64 d]/\(a == 0)=decide e:=by
 rcases h with⟨i,rfl⟩|⟨j,a,b,c,d,ha,rfl⟩
 ·exact⟨0,0,0,0,rfl,by simp[i]⟩
 ·exact⟨a,b,c,d,rfl,by simp[j,ha]⟩
open Classical in
theorem Qa (P:Pr) (hP:Valid P) (w:World) (pv:Value) (j:Nat->Prop) (e:gy j w pv P) :
  Calls Tryz.prog 124 #[pv] w (fq w λ_ v=>v=.bool (decide (wJ P))):=by
 obtain⟨vo,vp,vc,rfl,h3⟩:=e;have k:=fB.box h3 28;have i:Ext w (w.alloc (.cells #[vo,vp,vc] 28)):=World.grownBy_alloc _ _ _;go_enter Tryz.func124,Tryz.ntmps124;go_wp2_with fail
 refine Calls.mono (P8 P hP _ _ _ ⟨_,_,_,rfl,fA.ext h3 (World.grownBy_alloc _ _ _)⟩) ?_;rintro m p ⟨q,rfl,gK,Qb⟩;obtain⟨a,b,c,d,rfl,hab⟩:=P9 Qb;have l:∀w:World,(Instr.field 190 (.agg #[.int .i64 a,.int .i64 b,.int .i64 c,.int .i64 d]) 0).run Tryz.prog w=.ok (.int .i64 a) w:=λ_=>by kernel_rfl
 go_wp2;exact bodyPost_ret (v := .bool (decide (wJ P))) (by simp[results,Tryz.results124,go_sem]) rfl ⟨_,rfl,dy i gK,rfl⟩
open Classical in
theorem EN (P:Pr) (w:World) (pv:Value) (l:Nat->Prop) (i:gy l w pv P) :
  Calls Tryz.prog 61 #[pv] w (fq w λ_ v=>v=.bool (jH P)):=by
 obtain⟨vo,vp,vc,rfl,h3⟩:=i;have j:=fB.box h3 28;have b:Ext w (w.alloc (.cells #[vo,vp,vc] 28)):=World.grownBy_alloc _ _ _;go_enter Tryz.func61,Tryz.ntmps61;go_wp2_with fail
 refine Calls.mono (x5 _ _ P _ ⟨_,_,_,rfl,fA.ext h3 (World.grownBy_alloc _ _ _)⟩) ?_;rintro p q ⟨r,rfl,a,rfl⟩;obtain⟨m,sR,wH,_,_,hb1,hb2,hb3,Du⟩:=(j.ext a).at;simp at hb2 hb3
 by_cases e:Valid P
 ·have h1:jX P=true:=by simp[jX,e]
  rw[h1];go_wp2_with fail
  refine Calls.mono (Qa P e _ _ _ ⟨_,_,_,rfl,Du⟩) ?_;rintro u y ⟨z,rfl,k,rfl⟩;go_wp2;exact bodyPost_ret (v := .bool (jH P)) (by simp[results,Tryz.results61,go_sem,jH,e]) rfl ⟨_,rfl,dy b (dy a k),rfl⟩
 ·have h1:jX P=false:=by simp[jX,e]
  rw[h1];go_wp2;exact bodyPost_ret (v := .bool (jH P)) (by simp[results,Tryz.results61,go_sem,jH,e]) rfl ⟨_,rfl,dy b a,rfl⟩
def Qc (P:Pr) (c:Nat):Prop:=c<=P.orders.length/\(∀m,c<=m->m<P.orders.length->tY P m)/\(0<c->¬tY P (c-1))
open Classical in
theorem Qd (P:Pr) (hP:Valid P) (w:World) (p:Value) (z:Nat->Prop) (j:fB z w p P) :
  Calls Tryz.prog 165 #[p] w (fq w λ_ v=>∃c:Nat,v=.int .i64 c/\Qc P c):=by
 have A:=hP.n6;obtain⟨pb,po,rfl,_⟩:=j.shape;obtain⟨B,iA,gJ,hoi⟩:=j.iO;go_enter Tryz.func165,Tryz.ntmps165;go_wp2;clear gJ hoi;go_loopw [3] (λk wr=>∃c:Nat,k=.int .i64 (c:Int)/\c<=P.orders.length/\Ext w wr/\∀m,c<=m->m<P.orders.length->tY P m) (λk _=>(intOf k).toNat)
 case atStart=>exact⟨P.orders.length,by go_num,by omega,Ext.refl _,λm h1 r=>by omega⟩
 case round=>
  obtain⟨c,rfl,hc,i,y8⟩:=hrel;have a:=Lib.hid y8;clear y8;by_cases u:1<=c
  ·obtain ⟨c1,rfl⟩:∃c1,c=c1+1:=⟨c-1,by omega⟩
   go_wp2_with fail
   refine Calls.mono (PZ P hP wr _ c1 _ (j.ext i) (by omega)) ?_;rintro C D ⟨E,rfl,gK,l⟩;rcases l with⟨b,hv⟩|⟨e,k0,k1,k2,k3,hk,rfl⟩
   ·unfold Ds at hv
    subst hv;go_wp2;go_roundw
    case rel=>exact⟨c1,by go_num,by omega,dy i gK,λm h1 r=>by
     rcases Nat.lt_or_ge c1 m with y|y
     ·exact a.out m y r
     ·have:m=c1:=by omega
      rw[this];exact b⟩
    case measure=>simp[intOf]
   ·go_wp2
    exact bodyPost_ret (v := .int .i64 ((c1+1:Nat):Int)) (by simp[results,Tryz.results165,go_sem]) rfl ⟨_,rfl,dy i gK,c1+1,rfl,hc,a.out,λ_=>by simpa using e⟩
  ·have q:c=0:=by omega
   subst q;go_wp2;exact bodyPost_ret (v := .int .i64 ((0:Nat):Int)) (by simp[results,Tryz.results165,go_sem]) rfl ⟨_,rfl,i,0,rfl,by omega,a.out,λh=>by omega⟩
open Classical in
theorem EZ (P:Pr) (w:World) (pv:Value) (m:Nat->Prop) (i:gy m w pv P) :
  Calls Tryz.prog 86 #[pv] w (fq w λ_ v=>v=.bool (qP P)):=by
 obtain⟨vo,vp,vc,rfl,h3⟩:=i;have j:=fB.box h3 28;have b:Ext w (w.alloc (.cells #[vo,vp,vc] 28)):=World.grownBy_alloc _ _ _;go_enter Tryz.func86,Tryz.ntmps86;go_wp2_with fail
 refine Calls.mono (Kp _ _ P _ ⟨_,_,_,rfl,fA.ext h3 (World.grownBy_alloc _ _ _)⟩) ?_;rintro r u ⟨y,rfl,a,rfl⟩;by_cases e:Valid P
 ·have h1:jX P=true:=by simp[jX,e]
  rw[h1];go_wp2_with fail
  refine Calls.mono (Qd P e _ _ _ (j.ext a)) ?_;rintro z A ⟨B,rfl,l,c,rfl,hc⟩
  have p:((c:Int) == 0)=qP P:=by
   obtain⟨q,hc2,hc3⟩:=hc;cases c with
   | zero=>simp[qP,e];exact λk hk=>hc2 k (Nat.zero_le _) hk
   | succ c=>
    have:qP P=false:=by
     simp only[qP,decide_eq_false_iff_not];rintro⟨_,h⟩;exact hc3 (by omega) (h c (by omega))
    rw[this];simp;omega
  go_wp2;exact bodyPost_ret (v := .bool (qP P)) (by simp[results,Tryz.results86,go_sem]) rfl ⟨_,rfl,dy b (dy a l),rfl⟩
 ·have h1:jX P=false:=by simp[jX,e]
  rw[h1];go_wp2;exact bodyPost_ret (v := .bool (qP P)) (by simp[results,Tryz.results86,go_sem,qP,e]) rfl ⟨_,rfl,dy b a,rfl⟩
end Go.Proofs.YtoakmefajbbggaaGreat
namespace Go.Proofs.YtoakmefajbbggaaGreat
def T (P:Pr) (i:Nat) (x:List Int):Prop:=dL P.orders x/\∀k,k<i->gt x k=0
theorem T.up {P:Pr}{i:Nat}{x:List Int}(h:T P i x) (a:gt x i=0):T P (i+1) x:=⟨h.1,λk hk=>by
 rcases Nat.lt_succ_iff_lt_or_eq.1 hk with h1|h1
 ·exact h.2 k h1
 ·rw[h1];exact a⟩
theorem T.down {P:Pr}{i j:Nat}{x:List Int}(h:T P j x) (a:i<=j):T P i x:=⟨h.1,λk hk=>h.2 k (by omega)⟩
theorem T.Iz {P:Pr}{i:Nat}{x:List Int}(h:dL P.orders x) (a:nY i x):T P (i+1) x:=⟨h,λk hk=>a k (by omega)⟩
theorem T.zeros {P:Pr}(hP:Valid P) (i:Nat):T P i (zeros P.orders.length):=⟨lV hP,λ_ _=>jw _ _⟩
theorem T.drop {P:Pr}(hP:Valid P) {i:Nat}(a:i<P.orders.length) {x:List Int}(h:T P i x):T P (i+1) (x.set i 0):=by
 have b:=hP.gh i a;refine⟨h.1.set i 0 ⟨by omega,λ_=>by omega⟩,λk hk => ?_⟩;by_cases e:i=k
 ·subst e;rw[iN _ _ _ (by rw[h.1.1];exact a)]
 ·rw[iy _ _ _ _ e];exact h.2 k (by omega)
theorem T.put {P:Pr}{i:Nat}{x:List Int}(h:T P (i+1) x) {a:Int}(ha:0<=a/\(i<P.orders.length->a<gt P.orders i)):T P i (x.set i a):=
 ⟨h.1.set i a ha,λk hk=>by rw[iy _ _ _ _ (by omega)];exact h.2 k (by omega)⟩
theorem y9 {α:Type} [Inhabited α] (l:List α) (i j:Nat) (x:α) (a:j<l.length):gt (l.set i x) j=if i=j then x else gt l j:=by
 by_cases h:i=j
 ·subst h;rw[iN _ _ _ a,if_pos rfl]
 ·rw[iy _ _ _ _ h,if_neg h]
theorem Ba (n j k:Nat) (hk:k<n):gt (fQ n j) k=if j=k then 1 else 0:=by
 unfold fQ;rw[y9 _ _ _ _ (by simpa using hk),jw]
theorem T.unit {P:Pr}(hP:Valid P) {i j:Nat}(a:i<=j) (b:j<P.orders.length):T P i (fQ P.orders.length j):=
 ⟨qw hP j,λk hk=>by rw[Ba _ _ _ (by omega),if_neg (by omega)]⟩
theorem dL.ext {o x y:List Int}(hx:dL o x) (hy:dL o y) (h:∀k,k<o.length->gt x k=gt y k):x=y:=
 mg (by rw[hx.1,hy.1]) (λk hk=>h k (by rw[<-hx.1];exact hk))
theorem T.top {P:Pr}(hP:Valid P) {x:List Int}(h:T P P.orders.length x):x=Go.Proofs.YtoakmefajbbggaaGreat.zeros P.orders.length:=
 dL.ext h.1 (lV hP) (λk hk=>by rw[h.2 k hk];exact(jw _ _).symm)
theorem Dv {P:Pr}(hP:Valid P) (f:Nat):∀i A B,i+f=P.orders.length->dL P.orders A->dL P.orders B->T P i (fE P f i A B):=by
 induction f with
 | zero=>intro i A B _ _ _;exact T.zeros hP i
 | succ f b=>
  intro i A B e a hB;refine⟨jy hP _ i A B e a hB,λk hk => ?_⟩;have u:=hP.gh i (by omega);have m:=a.2 i (by omega);have p:=hB.2 i (by omega)
  have q:dL P.orders (iter (gt B i).toNat (λl=>jR (fE P f (i+1)) (gt P.conj i) i l (zeros P.orders.length) f) (A.set i 0)):=
   jN (dL P.orders) _ (λy hy=>tq hP f i e (jy hP f) _ _ (lV hP) f (Nat.le_refl _)) _ _ (a.set i 0 ⟨by omega,λ_=>by omega⟩)
  have r:dL P.orders (B.set i 0):=hB.set i 0 ⟨by omega,λ_=>by omega⟩;have j:=b (i+1) _ _ (by omega) q r;simp only[fE];split
  ·rw [iy _ _ _ _ (by omega)]
   exact(b (i+1) _ _ (by omega) (hP.pv i (by omega)).1 j.1).2 k (by omega)
  ·rw [iy _ _ _ _ (by omega)]
   exact j.2 k (by omega)
theorem Bb {P:Pr}(hP:Valid P) {i:Nat}{E:List Int}(a:T P i E) {j:Nat}(e:i<=j) (b:j<P.orders.length):T P i (tg P E j):=
 ⟨rY hP E j a.1 b,λk hk=>by
  have:=(BM hP P.orders.length E j a.1 b (by omega)).1 k (by omega);have l:gt (tg P E j) k=gt E k:=this;rw[l];exact a.2 k hk⟩
theorem Bc {P:Pr}(hP:Valid P) {i:Nat}{E F:List Int}(a:T P i E) (hF:T P i F):T P i (tv P E F):=by
 unfold tv j6;rw[BQ,hF.1.1];refine zG (T P i) _ _ _ _ _ a (λy j hy _ e b=>Bb hP hy ?_ (by omega));have:¬j<i:=λh=>b (hF.2 j h);omega
structure jq (P:Pr) (f i:Nat):Prop where
 fS:GrpOn (T P i) (fE P f i) (zeros P.orders.length)
 nf:∀x,T P i x->fR (fE P f i) (fQ P.orders.length) x i (zeros P.orders.length) f=x
 rel:Holds P (T P i) (fE P f i) (zeros P.orders.length) (fQ P.orders.length) i
theorem jq.top {P:Pr}(hP:Valid P):jq P 0 P.orders.length:=by
 have e:=T.zeros hP P.orders.length;refine⟨⟨⟨λ_ _ _ _=>e,e,λ_ _ _ _ _ _=>rfl,λx hx=>(hx.top hP).symm,λx hx=>(hx.top hP).symm⟩,λx _=>⟨_,e,rfl,rfl⟩⟩,λx hx => ?_,⟨λj a b=>by omega,λj a b=>by omega,λj k a b c=>by omega⟩⟩;exact(hx.top hP).symm
section
variable {P:Pr}{f i:Nat}
theorem jq.oI (hP:Valid P) (b:i+f=P.orders.length) (L:jq P f i) {E F:List Int}(a:T P i E) (hF:T P i F):tv P E F=fE P f i E F:=by
 have h:=Kw hP L.fS.toMonOn (by omega) L.rel E F a.1 hF.1 hF.2;rw[show P.orders.length-i=f by omega,L.nf _ a,L.nf _ hF,L.nf _ (Bc hP a hF)] at h;exact h
theorem jq.IA (hP:Valid P) (k:i+f=P.orders.length) (L:jq P f i) {E:List Int}(b:T P i E) {j:Nat}(a:i<=j) (e:j<P.orders.length):tg P E j=fE P f i E (fQ P.orders.length j):=by
 have h:=Eo hP L.fS.toMonOn L.rel E j b.1 a e;rw[show P.orders.length-i=f by omega,L.nf _ b,L.nf _ (Bb hP b a e)] at h;exact h
theorem jq.wQ (hP:Valid P) (b:i+f=P.orders.length) (L:jq P f i) {a:List Int}(ha:T P i a) (k:Int):oK P a k=iter k.toNat (λy=>fE P f i y a) (zeros P.orders.length):=by
 unfold oK;rw[ha.1.1];exact Ek (T P i) _ _ (λx hx=>Bc hP hx ha) (λx hx=>L.oI hP b hx ha) _ _ (T.zeros hP i)
theorem Qe {S:List Int->Prop}{m:List Int->List Int->List Int}{e:List Int}(M:MonOn S m e):∀(f:Nat) (out base:List Int) (k:Nat),S out->S base->k<=f ->
  pM m f out base k=m out (iter k (λy=>m y base) e):=by
 intro f;induction f with
 | zero=>
  intro out base k i a hk;have:k=0:=by omega
  subst this;exact(M.er out i).symm
 | succ f r=>
  intro out base k i a hk;simp only[pM];split
  ·rename_i h;subst h;exact(M.er out i).symm
  ·rename_i h
   have j:=M.cl _ _ a a
   have l:∀q,iter q (λy=>m y (m base base)) e=iter (2*q) (λy=>m y base) e:=by
    intro q;induction q with
    | zero=>rfl
    | succ q p=>
     show m (iter q (λy=>m y (m base base)) e) (m base base)=m (m (iter (2*q) (λy=>m y base) e) base) base
     rw[p,M.ass _ _ _ (M.pW a M.one _) a a]
   by_cases b:k%2=1
   ·rw [if_pos b,r _ _ _ (M.cl _ _ i a) j (by omega),l,M.ass _ _ _ i a (M.pW a M.one _)]
    congr 1
    have h1:=M.pow_add a 1 (2*(k/2));rw[show 1+2*(k/2)=k by omega] at h1;rw[h1];show m base _=m (m e base) _
    rw[M.el base a]
   ·rw[if_neg b,r _ _ _ i j (by omega),l,show 2*(k/2)=k by omega]
theorem jq.Dw (L:jq P f i) {a:List Int}(ha:T P i a) (k:Nat):pN (fE P f i) (zeros P.orders.length) a k=iter k (λy=>fE P f i y a) (zeros P.orders.length):=by
 unfold pN;rw[Qe L.fS.toMonOn k _ _ k L.fS.one ha (Nat.le_refl _)];exact L.fS.el _ (L.fS.toMonOn.pW ha L.fS.one k)
theorem jq.zb (hP:Valid P) (r:i+f=P.orders.length) (L:jq P f i) {a:List Int}(ha:T P i a):T P i (pL P a)/\fE P f i a (pL P a)=zeros P.orders.length:=by
 have key:∀k,k<=P.orders.length->T P i (jC P a k).1/\T P i (jC P a k).2/\(jC P a k).1=fE P f i a (jC P a k).2/\∀l,l<k->gt (jC P a k).1 l=0:=by
  intro k;induction k with
  | zero=>
   intro _;refine⟨ha,by simp only[jC];rw[ha.1.1];exact T.zeros hP i,?_,λl j=>by omega⟩;simp only[jC];rw[ha.1.1];exact(L.fS.er a ha).symm
  | succ k w=>
   intro hk;obtain⟨h1,h2,p,h4⟩:=w (by omega);simp only[jC];by_cases q:gt (jC P a k).1 k=0
   ·have z:mN (gt P.orders k) (gt (jC P a k).1 k)=0:=by unfold mN;rw[if_pos q]
    rw[z];refine⟨h1,h2,p,λl j => ?_⟩;rcases Nat.lt_succ_iff_lt_or_eq.1 j with h|h
    ·exact h4 l h
    ·rw[h];exact q
   ·have b:i<=k:=by
     have:¬k<i:=λh=>q (h1.2 k h);omega
    have A:=zF (λ(x y:List Int)=>T P i x/\T P i y/\x=fE P f i a y/\∀l,l<k->gt x l=0) (λe=>tg P e k) (λe=>tg P e k) (by
     rintro x y ⟨m,g2,g3,g4⟩;refine⟨Bb hP m b (by omega),Bb hP g2 b (by omega),?_,λl j => ?_⟩
     ·show tg P x k=fE P f i a (tg P y k)
      rw[L.IA hP r m b (by omega),L.IA hP r g2 b (by omega),g3,L.fS.ass _ _ _ ha g2 (T.unit hP b (by omega))]
     ·have B:=(BM hP P.orders.length x k m.1 (by omega) (by omega)).1 l j
      have C:gt (tg P x k) l=gt x l:=B;show gt (tg P x k) l=0
      rw[C];exact g4 l j) (mN (gt P.orders k) (gt (jC P a k).1 k)) _ _ ⟨h1,h2,p,h4⟩
    obtain⟨m,g2,g3,g4⟩:=A;refine⟨m,g2,g3,λl j => ?_⟩;rcases Nat.lt_succ_iff_lt_or_eq.1 j with h|h
    ·exact g4 l h
    ·have u:=(Dn hP (jC P a k).1 k (by omega) h1.1 q _ (Nat.le_refl _)).2
     rw[if_pos rfl] at u;rw[h];exact u
 obtain⟨h1,h2,p,h4⟩:=key P.orders.length (Nat.le_refl _);have D:pL P a=(jC P a P.orders.length).2:=by unfold pL;rw[ha.1.1]
 rw[D];refine⟨h2,?_⟩;rw[<-p];exact T.top hP ⟨h1.1,h4⟩
theorem jq.IB (hP:Valid P) (j:i+f=P.orders.length) (L:jq P f i) {a b z:List Int}(ha:T P i a) (e:T P i b) (l:T P i z):oM P a b=z↔fE P f i a b=fE P f i b z:=by
 obtain⟨h1,m⟩:=L.zb hP j e;have k:=Bc hP ha e;unfold oM;rw[L.oI hP j h1 k,L.oI hP j ha e];exact L.fS.solve e h1 (L.fS.cl _ _ ha e) l m
end
section
variable {P:Pr}{f i:Nat}
theorem wW (hP:Valid P) (e:i+(f+1)=P.orders.length) (x:List Int):T P (i+1) (gF P f i x):=by
 unfold gF;rw[uG];refine zG (T P (i+1)) _ _ _ _ _ (T.zeros hP _) (λy j hy a b _ => ?_);exact Dv hP f (i+1) _ _ (by omega) hy.1 ((hP.cv i (by omega)).2 (j-i-1) (by omega)).1
theorem xd (hP:Valid P) {j:Nat}(a:i<j) (b:j<P.orders.length):T P (i+1) (gt (gt P.conj i) (j-i-1)):=
 T.Iz ((hP.cv i (by omega)).2 (j-i-1) (by omega)).1 ((hP.cv i (by omega)).2 (j-i-1) (by omega)).2
theorem l8 (hP:Valid P) (a:i<P.orders.length):T P (i+1) (gt P.eH i):=T.Iz (hP.pv i a).1 (hP.pv i a).2
theorem jq.Bd (hP:Valid P) (k:i+(f+1)=P.orders.length) (L:jq P f (i+1)) {x:List Int}(hx:x.length=P.orders.length):mz P i x=gF P f i x:=by
 unfold mz gF;rw[(hP.cv i (by omega)).1,show P.orders.length-1-i=f by omega,hx,uG,uG]
 exact (tr (λy z:List Int=>y=z/\T P (i+1) y) _ _ x (i+1) _ _ f ⟨rfl,T.zeros hP _⟩ (by
  rintro y z j ⟨rfl,hy⟩ a b _;have e:=xd (i:=i) hP (j:=j) (by omega) (by omega);exact⟨L.oI hP (by omega) hy e,Bc hP hy e⟩)).1
theorem jq.iff (hP:Valid P) (k:i+(f+1)=P.orders.length) (L:jq P f (i+1)):tY P i↔ud P f i:=by
 have e:i+1+f=P.orders.length:=by omega
 have p:∀J,i<J->J<P.orders.length->(yT P i J↔wu P f i J):=λJ a b=>by
  unfold yT wu;have q:=xd (i:=i) hP a b;rw[L.wQ hP e q,L.Dw q,L.Bd hP k (hP.pv J b).1.1]
 have r:∀J K,i<J->J<K->K<P.orders.length->(vZ P i J K↔tZ P f i J K):=λJ K a b c=>by
  unfold vZ tZ;have h1:=xd (i:=i) hP (j:=K) (by omega) c;have l:=xd (i:=i) hP (j:=J) a (by omega);rw[L.Bd hP k (((hP.cv J (by omega)).2 (K-J-1) (by omega)).1.1)];exact L.IB hP e h1 l (wW hP k _)
 have u:Dq P i↔Dt P f i:=by
  unfold Dq Dt;rw[L.Bd hP k (hP.pv i (by omega)).1.1]
 have w:∀J,i<J->J<P.orders.length->(A5 P i J↔y5 P f i J):=λJ a b=>by
  unfold A5 y5;have m:T P (i+1) (fQ P.orders.length J):=T.unit hP (by omega) b
  have h1:iter (gt P.orders i).toNat (λx=>mz P i x) (fQ P.orders.length J)=iter (gt P.orders i).toNat (λx=>gF P f i x) (fQ P.orders.length J):=
   Ek (dL P.orders) _ _ (λx hx=>wh hP i (by omega) x hx) (λx hx=>L.Bd hP k hx.1) _ _ m.1
  have l:T P (i+1) (iter (gt P.orders i).toNat (λx=>gF P f i x) (fQ P.orders.length J)):=jN (T P (i+1)) _ (λx _=>wW hP k x) _ _ m;rw[h1,eq_comm,L.IB hP e m (l8 hP (by omega)) l,eq_comm]
 constructor
 ·intro h
  exact⟨λJ a b=>(p J a b).1 (h.c1 J a b),λJ K a b c=>(r J K a b c).1 (h.c2 J K a b c),u.1 h.c3,λJ a b=>(w J a b).1 (h.c4 J a b)⟩
 ·intro h
  exact⟨λJ a b=>(p J a b).2 (h.c1 J a b),λJ K a b c=>(r J K a b c).2 (h.c2 J K a b c),u.2 h.c3,λJ a b=>(w J a b).2 (h.c4 J a b)⟩
end
section
variable {P:Pr}{f i:Nat}
def iz (i:Nat) (p:Nat × List Int):List Int:=p.2.set i (p.1:Int)
theorem Dx (hP:Valid P) (b:i<P.orders.length) {p:Nat × List Int}(a:nR (T P (i+1)) (gt P.orders i).toNat p):T P i (iz i p):=by
 have e:=hP.gh i b;have h1:=a.1;exact a.2.put ⟨by omega,λ_=>by omega⟩
theorem IC (hP:Valid P) (a:i<P.orders.length) {x:List Int}(hx:T P i x):∃p,nR (T P (i+1)) (gt P.orders i).toNat p/\iz i p=x:=by
 have e:=hP.gh i a;have b:=hx.1.2 i a;refine⟨((gt x i).toNat,x.set i 0),⟨by show(gt x i).toNat<_;omega,hx.drop hP a⟩,?_⟩;unfold iz;simp only[List.set_set];refine mg (by simp) (λk hk => ?_);rw[List.length_set] at hk;rw[y9 _ _ _ _ hk];split
 ·rename_i h;subst h;omega
 ·rfl
theorem rH {x:List Int}(h:T P (i+1) x):x.set i 0=x:=by
 refine mg (by simp) (λk hk => ?_);rw[List.length_set] at hk;rw[y9 _ _ _ _ hk];split
 ·rename_i e;subst e;exact(h.2 i (by omega)).symm
 ·rfl
theorem qQ (hP:Valid P) (z:i+(f+1)=P.orders.length) (p q:Nat × List Int) (k:nR (T P (i+1)) (gt P.orders i).toNat p) (m:nR (T P (i+1)) (gt P.orders i).toNat q) :
  fE P (f+1) i (iz i p) (iz i q)=iz i (kG (fE P f (i+1)) (gF P f i) (gt P.eH i) (gt P.orders i).toNat p q):=by
 obtain⟨a,x⟩:=p;obtain⟨b,y⟩:=q;obtain⟨ha,hx⟩:=k;obtain⟨r,hy⟩:=m;simp only at ha r hx hy;have A:=hP.gh i (by omega);have u:gt (iz i (a,x)) i=(a:Int):=iN _ _ _ (by show i<x.length;rw[hx.1.1];omega);have gb:gt (iz i (b,y)) i=(b:Int):=iN _ _ _ (by show i<y.length;rw[hy.1.1];omega);have w:(iz i (a,x)).set i 0=x:=by unfold iz;rw[List.set_set];exact rH hx
 have sb:(iz i (b,y)).set i 0=y:=by unfold iz;rw[List.set_set];exact rH hy
 simp only[fE,u,gb,w,sb];unfold kG;simp only;have e:(λl=>jR (fE P f (i+1)) (gt P.conj i) i l (zeros P.orders.length) f)=gF P f i:=rfl;rw[e,show((b:Int)).toNat=b by omega];by_cases j:(gt P.orders i).toNat<=a+b
 ·rw [if_pos (by omega),if_pos j]
  unfold iz;simp only;congr 1
  omega
 ·rw [if_neg (by omega),if_neg j]
  unfold iz;simp only;congr 1
theorem jq.ext (hP:Valid P) (D:i+(f+1)=P.orders.length) (L:jq P f (i+1)) (R:ud P f i) :
  lQ (T P (i+1)) (fE P f (i+1)) (zeros P.orders.length) (gF P f i) (gt P.eH i) (gt P.orders i).toNat /\
   ∀j,i<j->j<P.orders.length->gF P f i (fQ P.orders.length j)=gt (gt P.conj i) (j-i-1):=by
 have M:=L.fS.toMonOn;have K:=hP.gh i (by omega);have N:P.orders.length-(i+1)=f:=by omega
 have p:∀j,i+1<=j->j<P.orders.length->T P (i+1) (gt (gt P.conj i) (j-i-1)):=λj a b=>xd hP (by omega) b
 have l:∀x,gF P f i x=fR (fE P f (i+1)) (λj=>gt (gt P.conj i) (j-i-1)) x (i+1) (zeros P.orders.length) f:=λx=>by
  unfold gF fR;rw[uG]
 have m:∀(j:Nat) (x:List Int),i<j->j<P.orders.length->nY j x->gF P f i x=fR (fE P f (i+1)) (λj=>gt (gt P.conj i) (j-i-1)) x (j+1) (zeros P.orders.length) (P.orders.length-(j+1)):=λj x a b G=>by
  rw[l];unfold fR;rw[show f=(j-i)+(P.orders.length-(j+1)) by omega,xF,q8 _ _ _ _ (j-i) (λk _ c=>G k (by omega)),show i+1+(j-i)=j+1 by omega]
 have H:Holds P (T P (i+1)) (fE P f (i+1)) (zeros P.orders.length) (λj=>gt (gt P.conj i) (j-i-1)) (i+1):=by
  refine⟨p,λj a b => ?_,λj k a b c => ?_⟩
  ·have h:=R.c1 j (by omega) b
   unfold wu at h;rw[L.Dw (p j a b),m j _ (by omega) b (hP.pv j b).2] at h;exact h
  ·have h:=R.c2 j k (by omega) b c
   unfold tZ at h;rw[m j _ (by omega) (by omega) ((hP.cv j (by omega)).2 (k-j-1) (by omega)).2] at h;exact h
 have yO:∀A B,dL P.orders A->dL P.orders B->gF P f i (fE P f (i+1) A B)=fE P f (i+1) (gF P f i A) (gF P f i B):=λA B I hB=>by
  rw[l,l,l];exact Ku hP M f (i+1) (by omega) H A B I hB
 have q:∀j,i<j->j<P.orders.length->gF P f i (fQ P.orders.length j)=gt (gt P.conj i) (j-i-1):=λj a b=>by
  rw[l];unfold fR
  rw [show f=(j-(i+1))+((P.orders.length-(j+1))+1) by omega,xF,q8 _ _ _ _ (j-(i+1)) (λk _ c=>by rw[Ba _ _ _ (by omega),if_neg (by omega)]),BO,show i+1+(j-(i+1))=j by omega,
   q8 _ _ (j+1) _ _ (λk c d=>by rw[Ba _ _ _ (by omega),if_neg (by omega)]),Ba _ _ _ b,if_pos rfl]
  show fE P _ (i+1) (zeros P.orders.length) _=_
  rw[show j-(i+1)+(P.orders.length-(j+1)+1)=f by omega];exact M.el _ (p j (by omega) b)
 refine⟨?_,q⟩;have w:=l8 (i:=i) hP (by omega)
 have AY:∀(k:Nat) (x y:List Int),T P (i+1) x->T P (i+1) y->iter k (gF P f i) (fE P f (i+1) x y)=fE P f (i+1) (iter k (gF P f i) x) (iter k (gF P f i) y):=by
  intro k x y hx hy
  have:=(zF (λ(u:List Int) (v:List Int × List Int)=>T P (i+1) v.1/\T P (i+1) v.2/\u=fE P f (i+1) v.1 v.2) (gF P f i) (λv=>(gF P f i v.1,gF P f i v.2)) (by
   rintro u ⟨v1,v2⟩ ⟨h1,h2,rfl⟩;exact⟨wW hP D _,wW hP D _,yO _ _ h1.1 h2.1⟩) k (fE P f (i+1) x y) (x,y) ⟨hx,hy,rfl⟩).2.2
  rw[this]
  have e:∀k,iter k (λv:List Int × List Int=>(gF P f i v.1,gF P f i v.2)) (x,y)=(iter k (gF P f i) x,iter k (gF P f i) y):=by
   intro k;induction k with
   | zero=>rfl
   | succ k E=>show(λv:List Int × List Int=>(gF P f i v.1,gF P f i v.2)) (iter k _ (x,y))=_;rw[E];rfl
  rw[e]
 have nQ:∀(k:Nat) (x:List Int),T P (i+1) x->T P (i+1) (iter k (gF P f i) x):=λk x hx=>jN (T P (i+1)) _ (λy _=>wW hP D y) k x hx;refine⟨by omega,L.fS,λx _=>wW hP D x,λx y hx hy=>yO x y hx.1 hy.1,w,R.c3,?_⟩;intro x hx
 have z:gF P f i (zeros P.orders.length)=zeros P.orders.length:=by
  rw[l];exact q8 _ _ _ _ _ (λj _ _=>jw _ _)
 have r:∀k,iter k (gF P f i) (zeros P.orders.length)=zeros P.orders.length:=by
  intro k;induction k with
  | zero=>rfl
  | succ k E=>show gF P f i (iter k _ _)=_;rw[E,z]
 have key:(λy=>T P (i+1) y/\fE P f (i+1) (gt P.eH i) (iter (gt P.orders i).toNat (gF P f i) y)=fE P f (i+1) y (gt P.eH i)) (fR (fE P f (i+1)) (fQ P.orders.length) x (i+1) (zeros P.orders.length) f):=by
  unfold fR;refine zG (λy=>T P (i+1) y/\fE P f (i+1) (gt P.eH i) (iter (gt P.orders i).toNat (gF P f i) y)=fE P f (i+1) y (gt P.eH i)) _ _ _ _ _ ⟨L.fS.one,by rw[r,M.er _ w,M.el _ w]⟩ (λy j hy a b _ => ?_);obtain⟨h1,h2⟩:=hy;have C:T P (i+1) (fQ P.orders.length j):=T.unit hP a (by omega);have F:=R.c4 j (by omega) (by omega);unfold y5 at F;refine⟨M.cl _ _ h1 C,?_⟩;rw[AY _ _ _ h1 C,<-M.ass _ _ _ w (nQ _ _ h1) (nQ _ _ C),h2,M.ass _ _ _ h1 w (nQ _ _ C)];have J:fE P f (i+1) (gt P.eH i) (iter (gt P.orders i).toNat (gF P f i) (fQ P.orders.length j))=fE P f (i+1) (fQ P.orders.length j) (gt P.eH i):=F;rw[J,M.ass _ _ _ h1 C w]
 rw[L.nf x hx] at key;exact key.2
theorem jq.step (hP:Valid P) (A:i+(f+1)=P.orders.length) (L:jq P f (i+1)) (R:ud P f i):jq P (f+1) i:=by
 obtain⟨E,C⟩:=L.ext hP A R;have e:i<P.orders.length:=by omega
 have ho:=hP.gh i e;have u:=L.fS.toMonOn;have K:iz i (0,zeros P.orders.length)=zeros P.orders.length:=rH (P:=P) (T.zeros hP (i+1))
 have G:GrpOn (T P i) (fE P (f+1) i) (zeros P.orders.length):=
  E.group.carry (iz i) (λp S=>Dx hP e S) (λy hy=>IC hP e hy) K (λp q S hq=>qQ hP A p q S hq)
 have M:=G.toMonOn;have D:∀x,T P (i+1) x->iz i (0,x)=x:=λx hx=>rH hx;have N:∀x,T P (i+1) x->nR (T P (i+1)) (gt P.orders i).toNat (0,x):=λx hx=>⟨by show 0<_;omega,hx⟩;-- the product restricted
 have res:∀x y,T P (i+1) x->T P (i+1) y->fE P (f+1) i x y=fE P f (i+1) x y:=λx y hx hy=>by
  have h:=qQ hP A (0,x) (0,y) (N x hx) (N y hy);rw[D x hx,D y hy] at h;rw[h];unfold kG;simp only[Nat.add_zero,if_neg (by omega:¬(gt P.orders i).toNat<=0)];exact D _ (u.cl _ _ hx hy)
 have m:∀(x:List Int) (j k:Nat),i+1<=j->j+k=P.orders.length->fR (fE P (f+1) i) (fQ P.orders.length) x j (zeros P.orders.length) k=fR (fE P f (i+1)) (fQ P.orders.length) x j (zeros P.orders.length) k /\
   T P (i+1) (fR (fE P f (i+1)) (fQ P.orders.length) x j (zeros P.orders.length) k):=λx j k hj hk=>by
  have:=tr (λ(y z:List Int)=>T P (i+1) z/\y=z) (λy j=>fE P (f+1) i y (fQ P.orders.length j)) (λy j=>fE P f (i+1) y (fQ P.orders.length j)) x j (zeros P.orders.length) (zeros P.orders.length) k ⟨L.fS.one,rfl⟩ (by
   rintro y z l ⟨h1,rfl⟩ a b _;have r:T P (i+1) (fQ P.orders.length l):=T.unit hP (by omega) (by omega);exact⟨u.cl _ _ h1 r,res _ _ h1 r⟩)
  exact⟨this.2,this.1⟩
 have u1:fQ P.orders.length i=iz i (1,zeros P.orders.length):=by
  unfold iz fQ zeros;rfl
 have F:∀a x,a<(gt P.orders i).toNat->T P (i+1) x->nR (T P (i+1)) (gt P.orders i).toNat (a,x):=λa x ha hx=>⟨ha,hx⟩;have w:T P (i+1) (zeros P.orders.length):=T.zeros hP _;have Y:T P i (fQ P.orders.length i):=T.unit hP (Nat.le_refl _) e;have B:∀j,i<=j->j<P.orders.length->T P i (fQ P.orders.length j):=λj a b=>T.unit hP a b;-- powers of the generator
 have O:∀k,k<(gt P.orders i).toNat->iter k (λy=>fE P (f+1) i y (fQ P.orders.length i)) (zeros P.orders.length)=iz i (k,zeros P.orders.length):=by
  intro k;induction k with
  | zero=>intro _;exact K.symm
  | succ k ih=>
   intro hk;show fE P (f+1) i (iter k _ _) (fQ P.orders.length i)=_
   rw[ih (by omega),u1,qQ hP A _ _ (F k _ (by omega) w) (F 1 _ (by omega) w)];unfold kG;simp only[if_neg (by omega:¬(gt P.orders i).toNat<=k+1),E.Dg,u.el _ w]
 have W:=l8 (i:=i) hP e
 have H:∀x,T P (i+1) x->fR (fE P (f+1) i) (fQ P.orders.length) x (i+1) (zeros P.orders.length) f=x:=λx hx=>by
  rw[(m x (i+1) f (by omega) (by omega)).1,L.nf x hx]
 refine⟨G,λx hx => ?_,⟨B,λj a b => ?_,λj k a b c => ?_⟩⟩
 ·-- normal form
  rw[Em M (λj a b=>B j a (by omega))];have ad:=hx.1.2 i e;have U:=hx.drop hP e
  have h1:fR (fE P (f+1) i) (fQ P.orders.length) x (i+1) (zeros P.orders.length) f=x.set i 0:=by
   have V:fR (fE P (f+1) i) (fQ P.orders.length) x (i+1) (zeros P.orders.length) f=fR (fE P (f+1) i) (fQ P.orders.length) (x.set i 0) (i+1) (zeros P.orders.length) f:=
    BP _ _ _ _ _ _ (λj a b=>by rw[iy _ _ _ _ (by omega)])
   rw[V,H _ U]
  rw[O _ (by omega),h1];obtain⟨p,S,hpx⟩:=IC hP e hx;have Z:=qQ hP A ((gt x i).toNat,zeros P.orders.length) (0,x.set i 0) (F _ _ (by omega) w) (N _ U);rw[D _ U] at Z;rw[Z];unfold kG;simp only[Nat.add_zero,if_neg (by omega:¬(gt P.orders i).toNat<=(gt x i).toNat)];show iz i ((gt x i).toNat,fE P f (i+1) (zeros P.orders.length) (x.set i 0))=x
  rw[u.el _ U];unfold iz;simp only[List.set_set];refine mg (by simp) (λk hk => ?_);rw[List.length_set] at hk;rw[y9 _ _ _ _ hk];split
  ·rename_i h;subst h;omega
  ·rfl
 ·-- power relations
  by_cases I:j=i
  ·subst I
   rw[show P.orders.length-(j+1)=f by omega,H _ W];obtain⟨J,X⟩:∃J,(gt P.orders j).toNat=J+1:=⟨(gt P.orders j).toNat-1,by omega⟩;rw[X];show fE P (f+1) j (iter J _ _) (fQ P.orders.length j)=_
   rw[O J (by omega),u1,qQ hP A _ _ (F J _ (by omega) w) (F 1 _ (by omega) w)];unfold kG;simp only[if_pos (by omega:(gt P.orders j).toNat<=J+1),E.Dg,u.el _ w,u.er _ W];rw[show J+1-(gt P.orders j).toNat=0 by omega];exact D _ W
  ·have r:T P (i+1) (fQ P.orders.length j):=T.unit hP (by omega) b
   rw[(m _ (j+1) _ (by omega) (by omega)).1,<-L.rel.pw j (by omega) b]
   have:=zF (λ(y z:List Int)=>T P (i+1) z/\y=z) (λy=>fE P (f+1) i y (fQ P.orders.length j)) (λy=>fE P f (i+1) y (fQ P.orders.length j)) (by
    rintro y z ⟨h1,rfl⟩;exact⟨u.cl _ _ h1 r,res _ _ h1 r⟩) (gt P.orders j).toNat _ _ ⟨L.fS.one,rfl⟩
   exact this.2
 ·-- conjugate relations
  by_cases I:j=i
  ·subst I
   have Q:=xd (i:=j) hP b c;have r:T P (j+1) (fQ P.orders.length k):=T.unit hP (by omega) c;rw[show P.orders.length-(j+1)=f by omega,H _ Q];have h1:=qQ hP A (0,fQ P.orders.length k) (1,zeros P.orders.length) (N _ r) (F 1 _ (by omega) w);have V:=qQ hP A (1,zeros P.orders.length) (0,gt (gt P.conj j) (k-j-1)) (F 1 _ (by omega) w) (N _ Q);rw[D _ r,<-u1] at h1;rw[D _ Q,<-u1] at V;rw[h1,V];unfold kG;simp only[Nat.zero_add,Nat.add_zero,if_neg (by omega:¬(gt P.orders j).toNat<=1)];show iz j (1,fE P f (j+1) (gF P f j (fQ P.orders.length k)) (zeros P.orders.length))=iz j (1,fE P f (j+1) (zeros P.orders.length) (gt (gt P.conj j) (k-j-1)))
   rw[C k b c,u.er _ Q,u.el _ Q]
  ·have r:T P (i+1) (fQ P.orders.length j):=T.unit hP (by omega) (by omega)
   have hv:T P (i+1) (fQ P.orders.length k):=T.unit hP (by omega) c;have hr:=m (gt (gt P.conj j) (k-j-1)) (j+1) (P.orders.length-(j+1)) (by omega) (by omega);rw[hr.1,res _ _ hv r,res _ _ r hr.2];exact L.rel.cj j k (by omega) b c
end
theorem ID {P:Pr}(hP:Valid P) (f:Nat):∀i,i+f=P.orders.length->(∀k,i<=k->k<P.orders.length->ud P (P.orders.length-1-k) k)->jq P f i:=by
 induction f with
 | zero=>
  intro i e _;have:i=P.orders.length:=by omega
  subst this;exact jq.top hP
 | succ f j=>
  intro i e h;have L:=j (i+1) (by omega) (λk a b=>h k (by omega) b);have R:=h i (by omega) (by omega);rw[show P.orders.length-1-i=f by omega] at R;exact L.step hP e R
theorem Qf {P:Pr}(hP:Valid P) (f:Nat):∀i,i+f=P.orders.length->(∀k,i<=k->k<P.orders.length->tY P k)->jq P f i:=by
 induction f with
 | zero=>
  intro i e _;have:i=P.orders.length:=by omega
  subst this;exact jq.top hP
 | succ f j=>
  intro i e h;have L:=j (i+1) (by omega) (λk a b=>h k (by omega) b);exact L.step hP e ((L.iff hP e).1 (h i (by omega) (by omega)))
theorem Qg {P:Pr}(hP:Valid P):Iy P↔wJ P:=by
 constructor
 ·intro h k hk
  have L:=Qf hP (P.orders.length-1-k) (k+1) (by omega) (λl _ b=>h l b);exact(L.iff hP (by omega)).1 (h k hk)
 ·intro h k hk
  have L:=ID hP (P.orders.length-1-k) (k+1) (by omega) (λl _ b=>h l b);exact(L.iff hP (by omega)).2 (h k hk)
theorem E0 (P:Pr):qP P=jH P:=by
 unfold qP jH;exact decide_eq_decide.2 (and_congr_right (λhP=>Qg hP))
structure ez (P:Pr):Prop where
 v:Valid P
 all:wJ P
theorem ez.tail {P:Pr}(G:ez P) {f i:Nat}(a:i+f=P.orders.length):jq P f i:=ID G.v f i a (λk _ b=>G.all k b)
theorem ez.lvl {P:Pr}(G:ez P):jq P P.orders.length 0:=G.tail (by omega)
theorem lZ {P:Pr}(h:jH P=true):ez P:=by
 unfold jH at h;have a := @of_decide_eq_true _ (_) h;exact⟨a.1,a.2⟩
theorem pP {P:Pr}{x:List Int} : T P 0 x↔dL P.orders x:=⟨λh=>h.1,λh=>⟨h,λk hk=>by omega⟩⟩
section
variable {P:Pr}(G:ez P)
include G
theorem ez.fS:GrpOn (dL P.orders) (fC P) (zeros P.orders.length):=by
 have h:=G.lvl.fS;have e:T P 0=dL P.orders:=by funext x;exact propext pP
 rw[e] at h;exact h
theorem ez.oI {E F:List Int}(a:dL P.orders E) (hF:dL P.orders F):tv P E F=fC P E F:=G.lvl.oI G.v (by omega) (pP.2 a) (pP.2 hF)
theorem ez.Qh {a:List Int}(ha:dL P.orders a):fC P a (pL P a)=zeros P.orders.length:=(G.lvl.zb G.v (by omega) (pP.2 ha)).2
theorem ez.wQ {a:List Int}(ha:dL P.orders a) (k:Int):oK P a k=iter k.toNat (λy=>fC P y a) (zeros P.orders.length):=G.lvl.wQ G.v (by omega) (pP.2 ha) k
end
end Go.Proofs.YtoakmefajbbggaaGreat
