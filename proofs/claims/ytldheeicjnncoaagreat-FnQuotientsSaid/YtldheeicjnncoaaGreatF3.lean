/- Merged from templates. -/
import Derived.Test.YtldheeicjnncoaaGreatF2
set_option maxRecDepth 100000
set_option maxHeartbeats 8000000
namespace Go.Proofs.YtldheeicjnncoaaGreat
open Go.RowKit
def ICond1 (P:Pr) (i J:Nat):Prop:=iPow P (gt (gt P.conj i) (J-i-1)) (gt P.orders J)=iImg P i (gt P.powers J)
def ICond2 (P:Pr) (i J K:Nat):Prop:=iConj P (gt (gt P.conj i) (K-i-1)) (gt (gt P.conj i) (J-i-1))=iImg P i (gt (gt P.conj J) (K-J-1))
def ICond3 (P:Pr) (i:Nat):Prop:=iImg P i (gt P.powers i)=gt P.powers i
def ICond4 (P:Pr) (i J:Nat):Prop:=iter (gt P.orders i).toNat (λx=>iImg P i x) (unitV P.orders.length J)=iConj P (unitV P.orders.length J) (gt P.powers i)
structure ILevel (P:Pr) (i:Nat):Prop where
 c1:∀J,i<J->J<P.orders.length->ICond1 P i J
 c2:∀J K,i<J->J<K->K<P.orders.length->ICond2 P i J K
 c3:ICond3 P i
 c4:∀J,i<J->J<P.orders.length->ICond4 P i J
theorem frozen_ext {w w':World}{a:Addr}(b:Ext w w') (h:w.frozen? a=false) (e:a.block<w.heap.size):w'.frozen? a=false:=by
 rw[World.frozen?_of_block (w:=w) (b.block a.block e (by simp))];exact h
theorem ext_set4 {w p:World}{l:Nat}(q:Ext w p) (r:w.heap.size<=l) (a b c d:Value) :
  Ext w ((((p.setCell ⟨l,0,none⟩ a).setCell ⟨l,1,none⟩ b).setCell ⟨l,2,none⟩ c).setCell ⟨l,3,none⟩ d):=by
 have h1:∀(W:World) (k:Nat) (v:Value),W.grownBy (W.setCell ⟨l,k,none⟩ v) (some l):=λW k v=>
  ⟨rfl,rfl,rfl,by simp[World.setCell],λj _ m=>Below.heap_setCell _ _ _ _ (by intro e;exact m (by rw[e]))⟩
 have i:∀j,some l=some j->j<w.heap.size->none=some j:=λj m u=>by cases m;omega
 exact grown_own (grown_own (grown_own (grown_own q (h1 _ _ _) i) (h1 _ _ _) i) (h1 _ _ _) i) (h1 _ _ _) i
def fault0:Value := .agg #[.int .i64 0,.int .i64 0,.int .i64 0,.int .i64 0]
def FaultR (e:Prop) (v:Value):Prop:=(e/\v=fault0)\/(¬e/\∃a b c d:Int,a≠0/\v=.agg #[.int .i64 a,.int .i64 b,.int .i64 c,.int .i64 d])
theorem iImg_vec {P:Pr}(hP:Valid P) (i:Nat) (hi:i<P.orders.length) (x:List Int) (hx:Vec P.orders x):Vec P.orders (iImg P i x):=
 iImgTo_vec hP i hi x _ (zeros_vec' hP hx) _ (Nat.le_refl _)
theorem iConj_vec {P:Pr}(hP:Valid P) (a b:List Int) (ha:Vec P.orders a) (e:Vec P.orders b):Vec P.orders (iConj P a b):=
 tv_vec hP _ _ (iInv_vec hP b e) (tv_vec hP a b ha e)
theorem unitV_vec {P:Pr}(hP:Valid P) (j:Nat):Vec P.orders (unitV P.orders.length j):=by
 refine⟨by simp[unitV],λi hi => ?_⟩;have:=hP.ord7 i hi;by_cases h:j=i
 ·subst h;unfold unitV;rw[gt_set_eq _ _ _ (by simpa using hi)];omega
 ·unfold unitV;rw[gt_set_ne _ _ _ _ h,gt_replicate];omega
theorem levelFault_ok (P:Pr) (hP:Valid P) (w:World) (p:Value) (i:Nat) (Sp:Nat->Prop) (hp:PresP Sp w p P) (hi:i<P.orders.length) :
  Calls Tryz.prog 193 #[p,.int .i64 i] w (Ret w λ_ v=>FaultR (ILevel P i) v):=by
 have cz:=hP.n6;obtain⟨pb,po,rfl⟩:=hp.shape;have W:Ext w (w.alloc (.cells #[.int .i64 0,.int .i64 0,.int .i64 0,.int .i64 0] 174)):=World.grownBy_alloc _ _ _;have M:=hp.ext W;obtain⟨ao,capo,dM,hoi⟩:=M.ordAt;go_enter Tryz.func193,Tryz.ntmps193;go_wp2;clear dM hoi;have r0:(w.alloc (.cells #[.int .i64 0,.int .i64 0,.int .i64 0,.int .i64 0] 174)).cell? ⟨w.heap.size,0,none⟩=some (.int .i64 0):=by rw[World.cell?_alloc_at _ _ _ _ rfl];rfl
 have r1:(w.alloc (.cells #[.int .i64 0,.int .i64 0,.int .i64 0,.int .i64 0] 174)).cell? ⟨w.heap.size,1,none⟩=some (.int .i64 0):=by rw[World.cell?_alloc_at _ _ _ _ rfl];rfl
 have r2:(w.alloc (.cells #[.int .i64 0,.int .i64 0,.int .i64 0,.int .i64 0] 174)).cell? ⟨w.heap.size,2,none⟩=some (.int .i64 0):=by rw[World.cell?_alloc_at _ _ _ _ rfl];rfl
 have r3:(w.alloc (.cells #[.int .i64 0,.int .i64 0,.int .i64 0,.int .i64 0] 174)).cell? ⟨w.heap.size,3,none⟩=some (.int .i64 0):=by rw[World.cell?_alloc_at _ _ _ _ rfl];rfl
 have rf:∀k,(w.alloc (.cells #[.int .i64 0,.int .i64 0,.int .i64 0,.int .i64 0] 174)).frozen? ⟨w.heap.size,k,none⟩=false:=λk=>World.frozen?_alloc_at _ _ _ _ rfl;have rs:w.heap.size<(w.alloc (.cells #[.int .i64 0,.int .i64 0,.int .i64 0,.int .i64 0] 174)).heap.size:=by simp
 generalize w.alloc (.cells #[.int .i64 0,.int .i64 0,.int .i64 0,.int .i64 0] 174)=w0 at *;have G:=Lib.hid (And.intro r0 (And.intro r1 (And.intro r2 (And.intro r3 rf))));clear r0 r1 r2 r3 rf;have aQ:=(hP.pv i hi).1;have aj:=Lib.hid aQ;clear aQ;have aR:=hP.cl;have aS:=hP.pl;have aT:i<P.conj.length:=by omega
 have bA:i<P.powers.length:=by omega
 have aU:=hP.cv i hi;have H:=Lib.hid aU;clear aU;have aV:=Lib.hid aR;have aW:=Lib.hid aS;clear aR aS;go_loopw [7] (λZ wr=>∃J:Nat,Z=.int .i64 J/\i+1<=J/\J<=P.orders.length/\Ext w0 wr/\∀m,i<m->m<J->ICond1 P i m) (λZ _=>P.orders.length-(intOf Z).toNat)
 case atStart=>exact⟨i+1,by go_num,by omega,by omega,Ext.refl _,λm h1 h2=>by omega⟩
 case round =>
  obtain⟨J,rfl,hJ1,hJ2,e,hc1⟩:=hrel;have aD:=Lib.hid hc1;clear hc1;by_cases q:J<P.orders.length
  ·--<P1
   have l:=M.ext e;obtain⟨ao,capo,dM,hoi⟩:=l.ordAt;obtain⟨bo,oo,rfl,_,_,gh⟩:=Ints.at hoi J q;obtain⟨ap,capp,ak,hpi⟩:=l.powAt;obtain⟨bp,op,aE,N,rfl,_,_,S,U⟩:=Rows2.at hpi J (by have:=aW.out;omega);obtain⟨ac,capc,hcc,fk⟩:=l.conjAt;obtain⟨bc,oc,iQ,O,rfl,_,_,ij,gw⟩:=Rows3.at fk i aT;obtain⟨bd,od,aF,Q,rfl,_,_,hcd,hid⟩:=Rows2.at gw (J-i-1) (by rw[H.out.1];omega);have e1:∀w',Ext wr w'->w'.cell? ⟨pb,po,none⟩=some (.slice (some ⟨bo,oo,none⟩) P.orders.length capo):=λw' h=>h.cell dM (by simp);have e2:∀w',Ext wr w'->w'.cell? ⟨pb,po+1,none⟩=some (.slice (some ⟨bp,op,none⟩) P.powers.length capp):=λw' h=>h.cell ak (by simp);have e3:∀w',Ext wr w'->w'.cell? ⟨pb,po+2,none⟩=some (.slice (some ⟨bc,oc,none⟩) P.conj.length capc):=λw' h=>h.cell hcc (by simp);have e4:∀w',Ext wr w'->w'.cell? ⟨bo,oo+J,none⟩=some (.int .i64 (gt P.orders J)):=λw' h=>h.cell gh (by simp);have e5:∀w',Ext wr w'->w'.cell? ⟨bp,op+J,none⟩=some (.slice aE (gt P.powers J).length N):=λw' h=>h.cell S (by simp);have e6:∀w',Ext wr w'->w'.cell? ⟨bc,oc+i,none⟩=some (.slice (some ⟨bd,od,none⟩) (gt P.conj i).length O):=λw' h=>h.cell ij (by simp);have e7:∀w',Ext wr w'->w'.cell? ⟨bd,od+(J-i-1),none⟩=some (.slice aF (gt (gt P.conj i) (J-i-1)).length Q):=λw' h=>h.cell hcd (by simp);have b1:(0:Int)<=(J:Int)-i-1:=by omega
   have b2:(J:Int)-i-1<(gt P.conj i).length:=by rw[H.out.1];omega
   have b3:(i:Int)<P.conj.length:=by omega
   have b4:(J:Int)<P.powers.length:=by have:=aW.out;omega
   have b5:(J:Int)<P.orders.length:=by omega
   have b6:(0:Int)<=J:=by omega
   have b7:((J:Int)-i-1).toNat=J-i-1:=by omega
   have b8:(1:Int)<=(J:Int)-i:=by omega
   have s1:IntKind.i64.wrap ((J:Int)-i)=(J:Int)-i:=IntWalk.i64_in _ (by omega);have s2:IntKind.i64.wrap ((J:Int)-i-1)=(J:Int)-i-1:=IntWalk.i64_in _ (by omega);have aa:=(H.out.2 (J-i-1) (by omega)).1;have ab:=(hP.pv J q).1;have a4:=hP.ord7 J q;have L:=Lib.hid (And.intro aa (And.intro ab a4));clear aa ab a4;have ad:=(iPow_vec hP _ (gt P.orders J) L.out.1).1;have ae:=(iImg_vec hP i hi _ L.out.2.1).1;have HL:=Lib.hid (And.intro ad ae);clear ad ae;clear dM gh ak S hcc ij hcd hoi hpi fk gw;have u:=e.cell G.out.1 (by simp);have z:=e.cell G.out.2.1 (by simp);have A:=e.cell G.out.2.2.1 (by simp);have B:=e.cell G.out.2.2.2.1 (by simp);have C:=λk=>frozen_ext e (G.out.2.2.2.2 k) rs;have j:w.heap.size<wr.heap.size:=Nat.lt_of_lt_of_le rs e.size;have b:=Lib.hid (And.intro u (And.intro z (And.intro A (And.intro B C))));clear u z A B C;go_wp2;cases Y:eqB (iPow P (gt (gt P.conj i) (J-i-1)) (gt P.orders J)) (iImg P i (gt P.powers J)) with
   | true=>
    have HQ:=Lib.hid Y
    go_region_held3 (λw'=>Ext wr w') (first|exact grown_drew _ _|assumption)
     (first
      | (go_at_call 192;refine Calls.mono (Calls.rel (w0:=wr) (by assumption) (power_ok P hP _ _ _ _ _ Any Any (PresP.sub (PresP.ext l (by assumption)) (λ_ _ _=>trivial)) (Ints.sub (Ints.ext hid (by assumption)) (λ_ _ _=>trivial)) L.out.1 (by have:=L.out.2.2;omega))) ?_;rintro eA wA ⟨vA,rfl,I,hsA,r⟩)
      | (go_at_call 281;refine Calls.mono (Calls.rel2 (w0:=wr) (by assumption) (imageBy_ok P hP _ _ _ i _ Any Any hi (PresP.sub (PresP.ext l (by assumption)) (λ_ _ _=>trivial)) (Ints.sub (Ints.ext U (by assumption)) (λ_ _ _=>trivial)) L.out.2.1)) ?_;rintro eF wF ⟨vF,rfl,gQ,D,gF,fP⟩;have E:=(r.ext0 D).ints (by rw[HL.out.1];omega);have F:=fP.ints (by rw[HL.out.2];omega))
      | (go_at_call 167;refine Calls.mono (Calls.rel (w0:=wr) (by assumption) (sEqual_ok _ _ _ _ _ Any Any E F)) ?_;rintro eB wB ⟨vB,rfl,a,hsB,rfl⟩))
    clear e1 e2 e3 e4 e5 e6 e7 s1 s2 b1 b2 b7 b8;go_wp2;go_roundw
    case rel=>exact⟨J+1,by go_num,by omega,by omega,grown_trans e a,λm h1 h2=>by
     rcases Nat.lt_or_ge m J with X|X
     ·exact aD.out m h1 X
     ·have:m=J:=by omega
      rw[this];exact eqB_true.1 HQ.out⟩
    case measure=>simp[intOf];omega
   | false=>
    have HQ:=Lib.hid Y
    go_region_held3 (λw'=>Ext wr w') (first|exact grown_drew _ _|assumption)
     (first
      | (go_at_call 192;refine Calls.mono (Calls.rel (w0:=wr) (by assumption) (power_ok P hP _ _ _ _ _ Any Any (PresP.sub (PresP.ext l (by assumption)) (λ_ _ _=>trivial)) (Ints.sub (Ints.ext hid (by assumption)) (λ_ _ _=>trivial)) L.out.1 (by have:=L.out.2.2;omega))) ?_;rintro eA wA ⟨vA,rfl,I,hsA,r⟩)
      | (go_at_call 281;refine Calls.mono (Calls.rel2 (w0:=wr) (by assumption) (imageBy_ok P hP _ _ _ i _ Any Any hi (PresP.sub (PresP.ext l (by assumption)) (λ_ _ _=>trivial)) (Ints.sub (Ints.ext U (by assumption)) (λ_ _ _=>trivial)) L.out.2.1)) ?_;rintro eF wF ⟨vF,rfl,gQ,D,gF,fP⟩;have E:=(r.ext0 D).ints (by rw[HL.out.1];omega);have F:=fP.ints (by rw[HL.out.2];omega))
      | (go_at_call 167;refine Calls.mono (Calls.rel (w0:=wr) (by assumption) (sEqual_ok _ _ _ _ _ Any Any E F)) ?_;rintro eB wB ⟨vB,rfl,a,hsB,rfl⟩))
    clear e1 e2 e3 e4 e5 e6 e7 s1 s2 b1 b2 b7 b8;have c0:=a.cell b.out.1 (by simp);have c1:=a.cell b.out.2.1 (by simp);have c2:=a.cell b.out.2.2.1 (by simp);have c3:=a.cell b.out.2.2.2.1 (by simp);have am:=frozen_ext a (b.out.2.2.2.2 0) j;have an:=frozen_ext a (b.out.2.2.2.2 1) j;have aq:=frozen_ext a (b.out.2.2.2.2 2) j;have ar:=frozen_ext a (b.out.2.2.2.2 3) j;go_wp2;refine bodyPost_ret (v := .agg #[.int .i64 1,.int .i64 i,.int .i64 J,.int .i64 0]) (by simp[results,Tryz.results193,go_sem,c0,c1,c2,c3]) rfl ⟨_,rfl,ext_set4 (grown_trans W (grown_trans e a)) (Nat.le_refl _) _ _ _ _,.inr ⟨λh=>eqB_false.1 HQ.out (h.c1 J (by omega) q),_,_,_,_,by decide,rfl⟩⟩
  -->P1
  ·have ax : ∀m,i<m->m<P.orders.length->ICond1 P i m:=λm h1 h2=>aD.out m h1 (by omega)
   have bG:=Lib.hid ax;clear ax aD;go_wp2;clear q;go_loopw [8] (λZ wr=>∃J:Nat,Z=.int .i64 J/\i+1<=J/\J<=P.orders.length/\Ext w0 wr/\∀m n,i<m->m<J->m<n->n<P.orders.length->ICond2 P i m n) (λZ _=>P.orders.length-(intOf Z).toNat)
   case atStart=>exact⟨i+1,by go_num,by omega,by omega,e,λm n h1 h2=>by omega⟩
   case round =>
    clear e hJ1 hJ2;obtain⟨J,rfl,hJ1,hJ2,e,hc2⟩:=hrel;have aH:=Lib.hid hc2;clear hc2;by_cases q:J<P.orders.length
    ·--<P2
     have bH:(J:Int)<P.orders.length:=by omega
     go_wp2;go_loopw [9] (λkv wr=>∃K:Nat,kv=.int .i64 K/\J+1<=K/\K<=P.orders.length/\Ext w0 wr/\∀n,J<n->n<K->ICond2 P i J n) (λkv _=>P.orders.length-(intOf kv).toNat)
     case atStart=>exact⟨J+1,by go_num,by omega,by omega,e,λn h1 h2=>by omega⟩
     case round=>
      clear e;obtain⟨K,rfl,hK1,hK2,e,hc3⟩:=hrel;have a9:=Lib.hid hc3;clear hc3;by_cases a':K<P.orders.length
      ·have l:=M.ext e
       obtain⟨ac,capc,hcc,fk⟩:=l.conjAt;obtain⟨bc,oc,iQ,O,rfl,_,_,ij,gw⟩:=Rows3.at fk i aT;obtain⟨bd,od,aF,Q,rfl,_,_,hcd,hid⟩:=Rows2.at gw (J-i-1) (by rw[H.out.1];omega);obtain⟨au,iY,bJ,aI,jJ,_,_,j0,ay⟩:=Rows2.at gw (K-i-1) (by rw[H.out.1];omega);obtain⟨rfl,rfl⟩:au=bd/\iY=od:=by cases jJ;exact⟨rfl,rfl⟩
       have V:=(hP.cv J q);obtain⟨av,iy,oL,aJ,jK,_,_,jL,jM⟩:=Rows3.at fk J (by have:=aV.out;omega);obtain⟨rfl,rfl⟩:av=bc/\iy=oc:=by cases jK;exact⟨rfl,rfl⟩
       obtain⟨ba,jN,bK,aK,rfl,_,_,jO,az⟩:=Rows2.at jM (K-J-1) (by rw[V.1];omega);clear jJ jK;have e3:∀w',Ext wr w'->w'.cell? ⟨pb,po+2,none⟩=some (.slice (some ⟨av,iy,none⟩) P.conj.length capc):=λw' h=>h.cell hcc (by simp);have e6:∀w',Ext wr w'->w'.cell? ⟨av,iy+i,none⟩=some (.slice (some ⟨au,iY,none⟩) (gt P.conj i).length O):=λw' h=>h.cell ij (by simp);have e7:∀w',Ext wr w'->w'.cell? ⟨au,iY+(J-i-1),none⟩=some (.slice aF (gt (gt P.conj i) (J-i-1)).length Q):=λw' h=>h.cell hcd (by simp);have e8:∀w',Ext wr w'->w'.cell? ⟨au,iY+(K-i-1),none⟩=some (.slice bJ (gt (gt P.conj i) (K-i-1)).length aI):=λw' h=>h.cell j0 (by simp);have e9:∀w',Ext wr w'->w'.cell? ⟨av,iy+J,none⟩=some (.slice (some ⟨ba,jN,none⟩) (gt P.conj J).length aJ):=λw' h=>h.cell jL (by simp);have bb:∀w',Ext wr w'->w'.cell? ⟨ba,jN+(K-J-1),none⟩=some (.slice bK (gt (gt P.conj J) (K-J-1)).length aK):=λw' h=>h.cell jO (by simp);have b1:(0:Int)<=(J:Int)-i-1:=by omega
       have b2:(J:Int)-i-1<(gt P.conj i).length:=by rw[H.out.1];omega
       have b3:(i:Int)<P.conj.length:=by omega
       have b4:(J:Int)<P.conj.length:=by have:=aV.out;omega
       have b7:((J:Int)-i-1).toNat=J-i-1:=by omega
       have b8:(1:Int)<=(J:Int)-i:=by omega
       have k1:(0:Int)<=(K:Int)-i-1:=by omega
       have k2:(K:Int)-i-1<(gt P.conj i).length:=by rw[H.out.1];omega
       have k7:((K:Int)-i-1).toNat=K-i-1:=by omega
       have k8:(1:Int)<=(K:Int)-i:=by omega
       have m1:(0:Int)<=(K:Int)-J-1:=by omega
       have m2:(K:Int)-J-1<(gt P.conj J).length:=by rw[V.1];omega
       have m7:((K:Int)-J-1).toNat=K-J-1:=by omega
       have m8:(1:Int)<=(K:Int)-J:=by omega
       have b5:(K:Int)<P.orders.length:=by omega
       have s1:IntKind.i64.wrap ((J:Int)-i)=(J:Int)-i:=IntWalk.i64_in _ (by omega);have s2:IntKind.i64.wrap ((J:Int)-i-1)=(J:Int)-i-1:=IntWalk.i64_in _ (by omega);have s3:IntKind.i64.wrap ((K:Int)-i)=(K:Int)-i:=IntWalk.i64_in _ (by omega);have s4:IntKind.i64.wrap ((K:Int)-i-1)=(K:Int)-i-1:=IntWalk.i64_in _ (by omega);have s5:IntKind.i64.wrap ((K:Int)-J)=(K:Int)-J:=IntWalk.i64_in _ (by omega);have s6:IntKind.i64.wrap ((K:Int)-J-1)=(K:Int)-J-1:=IntWalk.i64_in _ (by omega);have be:=(H.out.2 (J-i-1) (by omega)).1;have bf:=(H.out.2 (K-i-1) (by omega)).1;have aA:=(V.2 (K-J-1) (by omega)).1;have L:=Lib.hid (And.intro bf (And.intro be aA));clear be bf aA V;have ad:=(iConj_vec hP _ _ L.out.1 L.out.2.1).1;have ae:=(iImg_vec hP i hi _ L.out.2.2).1;have HL:=Lib.hid (And.intro ad ae);clear ad ae;clear hcc ij hcd j0 jL jO fk gw jM;have u:=e.cell G.out.1 (by simp);have z:=e.cell G.out.2.1 (by simp);have A:=e.cell G.out.2.2.1 (by simp);have B:=e.cell G.out.2.2.2.1 (by simp);have C:=λk=>frozen_ext e (G.out.2.2.2.2 k) rs;have j:w.heap.size<wr.heap.size:=Nat.lt_of_lt_of_le rs e.size;have b:=Lib.hid (And.intro u (And.intro z (And.intro A (And.intro B C))));clear u z A B C;go_wp2;cases Y:eqB (iConj P (gt (gt P.conj i) (K-i-1)) (gt (gt P.conj i) (J-i-1))) (iImg P i (gt (gt P.conj J) (K-J-1))) with
       | true=>
        have HQ:=Lib.hid Y
        go_region_held3 (λw'=>Ext wr w') (first|exact grown_drew _ _|assumption)
         (first
          | (go_at_call 189;refine Calls.mono (Calls.rel (w0:=wr) (by assumption) (conjugate_ok P hP _ _ _ _ _ _ Any Any Any (PresP.sub (PresP.ext l (by assumption)) (λ_ _ _=>trivial)) (Ints.sub (Ints.ext ay (by assumption)) (λ_ _ _=>trivial)) (Ints.sub (Ints.ext hid (by assumption)) (λ_ _ _=>trivial)) L.out.1 L.out.2.1)) ?_;rintro eA wA ⟨vA,rfl,I,hsA,r⟩)
          | (go_at_call 281;refine Calls.mono (Calls.rel2 (w0:=wr) (by assumption) (imageBy_ok P hP _ _ _ i _ Any Any hi (PresP.sub (PresP.ext l (by assumption)) (λ_ _ _=>trivial)) (Ints.sub (Ints.ext az (by assumption)) (λ_ _ _=>trivial)) L.out.2.2)) ?_;rintro eF wF ⟨vF,rfl,gQ,D,gF,fP⟩;have E:=(r.ext0 D).ints (by rw[HL.out.1];omega);have F:=fP.ints (by rw[HL.out.2];omega))
          | (go_at_call 167;refine Calls.mono (Calls.rel (w0:=wr) (by assumption) (sEqual_ok _ _ _ _ _ Any Any E F)) ?_;rintro eB wB ⟨vB,rfl,a,hsB,rfl⟩))
        clear e3 e6 e7 e8 e9 bb s1 s2 s3 s4 s5 s6 b1 b2 b7 b8 k1 k2 k7 k8 m1 m2 m7 m8;go_wp2;go_roundw
        case rel=>exact⟨K+1,by go_num,by omega,by omega,grown_trans e a,λn h1 h2=>by
         rcases Nat.lt_or_ge n K with X|X
         ·exact a9.out n h1 X
         ·have:n=K:=by omega
          rw[this];exact eqB_true.1 HQ.out⟩
        case measure=>simp[intOf];omega
       | false=>
        have HQ:=Lib.hid Y
        go_region_held3 (λw'=>Ext wr w') (first|exact grown_drew _ _|assumption)
         (first
          | (go_at_call 189;refine Calls.mono (Calls.rel (w0:=wr) (by assumption) (conjugate_ok P hP _ _ _ _ _ _ Any Any Any (PresP.sub (PresP.ext l (by assumption)) (λ_ _ _=>trivial)) (Ints.sub (Ints.ext ay (by assumption)) (λ_ _ _=>trivial)) (Ints.sub (Ints.ext hid (by assumption)) (λ_ _ _=>trivial)) L.out.1 L.out.2.1)) ?_;rintro eA wA ⟨vA,rfl,I,hsA,r⟩)
          | (go_at_call 281;refine Calls.mono (Calls.rel2 (w0:=wr) (by assumption) (imageBy_ok P hP _ _ _ i _ Any Any hi (PresP.sub (PresP.ext l (by assumption)) (λ_ _ _=>trivial)) (Ints.sub (Ints.ext az (by assumption)) (λ_ _ _=>trivial)) L.out.2.2)) ?_;rintro eF wF ⟨vF,rfl,gQ,D,gF,fP⟩;have E:=(r.ext0 D).ints (by rw[HL.out.1];omega);have F:=fP.ints (by rw[HL.out.2];omega))
          | (go_at_call 167;refine Calls.mono (Calls.rel (w0:=wr) (by assumption) (sEqual_ok _ _ _ _ _ Any Any E F)) ?_;rintro eB wB ⟨vB,rfl,a,hsB,rfl⟩))
        clear e3 e6 e7 e8 e9 bb s1 s2 s3 s4 s5 s6 b1 b2 b7 b8 k1 k2 k7 k8 m1 m2 m7 m8;have c0:=a.cell b.out.1 (by simp);have c1:=a.cell b.out.2.1 (by simp);have c2:=a.cell b.out.2.2.1 (by simp);have c3:=a.cell b.out.2.2.2.1 (by simp);have am:=frozen_ext a (b.out.2.2.2.2 0) j;have an:=frozen_ext a (b.out.2.2.2.2 1) j;have aq:=frozen_ext a (b.out.2.2.2.2 2) j;have ar:=frozen_ext a (b.out.2.2.2.2 3) j;go_wp2;refine bodyPost_ret (v := .agg #[.int .i64 2,.int .i64 i,.int .i64 J,.int .i64 K]) (by simp[results,Tryz.results193,go_sem,c0,c1,c2,c3]) rfl ⟨_,rfl,ext_set4 (grown_trans W (grown_trans e a)) (Nat.le_refl _) _ _ _ _,.inr ⟨λh=>eqB_false.1 HQ.out (h.c2 J K (by omega) (by omega) a'),_,_,_,_,by decide,rfl⟩⟩
      ·have cF:K=P.orders.length:=by omega
       go_wp2;go_roundw
       case rel=>exact⟨J+1,by go_num,by omega,by omega,e,λm n h1 h2 X h4=>by
         rcases Nat.lt_or_ge m J with h5|h5
         ·exact aH.out m n h1 h5 X h4
         ·have:m=J:=by omega
          subst this;exact a9.out n X (by omega)⟩
       case measure=>simp[intOf];omega
    -->P2
    ·have ag:∀m n,i<m->m<n->n<P.orders.length->ICond2 P i m n:=λm n h1 h2 X=>aH.out m n h1 (by omega) h2 X
     have bL:=Lib.hid ag;clear ag aH;obtain⟨cH,qR,oM,mD⟩:=M.powAt;obtain⟨bp,op,aE,N,rfl,_,_,oN,R⟩:=Rows2.at mD i bA;have ak:=e.cell oM (by simp);have S:=e.cell oN (by simp);have bg:=(iImg_vec hP i hi _ aj.out).1;have bM:=Lib.hid bg;clear bg mD;have u:=e.cell G.out.1 (by simp);have z:=e.cell G.out.2.1 (by simp);have A:=e.cell G.out.2.2.1 (by simp);have B:=e.cell G.out.2.2.2.1 (by simp);have C:=λk=>frozen_ext e (G.out.2.2.2.2 k) rs;have j:w.heap.size<wr.heap.size:=Nat.lt_of_lt_of_le rs e.size;have b:=Lib.hid (And.intro u (And.intro z (And.intro A (And.intro B C))));clear u z A B C;go_wp2_with fail
     refine Calls.mono (imageBy_ok P hP wr _ _ i _ Any Any hi (PresP.sub (M.ext e) (λ_ _ _=>trivial)) (Ints.sub (Ints.ext R e) (λ_ _ _=>trivial)) aj.out) ?_;rintro eA wA ⟨vA,rfl,I,r⟩;go_wp2_with fail
     refine Calls.mono (sEqual_ok _ _ _ _ wA Any Any (r.ints (by rw[bM.out];omega)) (Ints.sub (Ints.ext R (grown_trans e I)) (λ_ _ _=>trivial))) ?_;rintro eB wB ⟨vB,rfl,iz,rfl⟩;have a:Ext wr wB:=grown_trans I iz;cases Y:eqB (iImg P i (gt P.powers i)) (gt P.powers i) with
     | false=>
      have HQ:=Lib.hid Y;have c0:=a.cell b.out.1 (by simp);have c1:=a.cell b.out.2.1 (by simp);have c2:=a.cell b.out.2.2.1 (by simp);have c3:=a.cell b.out.2.2.2.1 (by simp);have am:=frozen_ext a (b.out.2.2.2.2 0) j;have an:=frozen_ext a (b.out.2.2.2.2 1) j;have aq:=frozen_ext a (b.out.2.2.2.2 2) j;have ar:=frozen_ext a (b.out.2.2.2.2 3) j;go_wp2;refine bodyPost_ret (v := .agg #[.int .i64 3,.int .i64 i,.int .i64 0,.int .i64 0]) (by simp[results,Tryz.results193,go_sem,c0,c1,c2,c3]) rfl ⟨_,rfl,ext_set4 (grown_trans W (grown_trans e a)) (Nat.le_refl _) _ _ _ _,.inr ⟨λh=>eqB_false.1 HQ.out h.c3,_,_,_,_,by decide,rfl⟩⟩
     | true =>
      have HQ:=Lib.hid (eqB_true.1 Y);have bh:=grown_trans e a;clear ak S;go_wp2;clear Y;have U:Ints Sp w0 (.slice aE (gt P.powers i).length N) (gt P.powers i):=R;go_loopw [11] (λZ wr=>∃J:Nat,Z=.int .i64 J/\i+1<=J/\J<=P.orders.length/\Ext w0 wr/\∀m,i<m->m<J->ICond4 P i m) (λZ _=>P.orders.length-(intOf Z).toNat)
      case atStart=>exact⟨i+1,by go_num,by omega,by omega,bh,λm h1 h2=>by omega⟩
      case round=>
       clear e I a bh r hJ1 hJ2 b j iz q;obtain⟨J,rfl,hJ1,hJ2,e,iB⟩:=hrel;have bi:=Lib.hid iB;clear iB;have u:=e.cell G.out.1 (by simp);have z:=e.cell G.out.2.1 (by simp);have A:=e.cell G.out.2.2.1 (by simp);have B:=e.cell G.out.2.2.2.1 (by simp);have C:=λk=>frozen_ext e (G.out.2.2.2.2 k) rs;have j:w.heap.size<wr.heap.size:=Nat.lt_of_lt_of_le rs e.size;have b:=Lib.hid (And.intro u (And.intro z (And.intro A (And.intro B C))));clear u z A B C;by_cases q:J<P.orders.length
       ·have bH:(J:Int)<P.orders.length:=by omega
        go_wp2_with fail
        refine Calls.mono (unitVector_ok P.orders.length J wr q (by omega)) ?_;rintro eU wU ⟨vU,rfl,bj,j3⟩;obtain⟨cI,capo5,dM,hoi⟩:=(M.ext (grown_trans e bj)).ordAt;obtain⟨bo,oo,rfl,_,_,gh⟩:=Ints.at hoi i hi;have bN:=j3.ints (by rw[(unitV_vec hP J).1];omega);have aB:=hP.ord7 i hi;have cJ:0<=gt P.orders i:=by omega
        have cK:gt P.orders i<=7:=aB.2;clear aB;go_wp2;clear dM gh hoi;obtain⟨wo,rfl⟩:∃wo:World,wo=wr:=⟨_,rfl⟩;go_loopw [12,160] (λxv mv w2=>∃m:Nat,mv=.int .i64 m/\m<=(gt P.orders i).toNat/\Ext wo w2/\Ints Any w2 xv (iter m (λx=>iImg P i x) (unitV P.orders.length J))) (λ_ mv _=>(gt P.orders i).toNat-(intOf mv).toNat)
        case atStart=>exact⟨0,rfl,by omega,bj,bN⟩
        case round=>
         obtain⟨m,rfl,hm,ah,hX⟩:=hrel;have bk:Vec P.orders (iter m (λx=>iImg P i x) (unitV P.orders.length J)):=iter_inv (Vec P.orders) _ (λy hy=>iImg_vec hP i hi y hy) _ _ (unitV_vec hP J);have aL:=Lib.hid bk;clear bk;by_cases cx:(m:Int)<gt P.orders i
         ·go_wp2_with fail
          refine Calls.mono (imageBy_ok P hP wr _ _ i _ Any Any hi (PresP.sub (M.ext (grown_trans e ah)) (λ_ _ _=>trivial)) hX aL.out) ?_;rintro eA wA ⟨vA,rfl,I,r⟩;have bl:=iImg_vec hP i hi _ aL.out;have bm:=r.ints (by rw[bl.1];omega);clear bl;go_wp2;go_roundw
          case rel=>exact⟨m+1,by go_num,by omega,grown_trans ah I,bm⟩
          case measure=>simp[intOf];omega
         ·have bn:m=(gt P.orders i).toNat:=by omega
          have bq:=(unitV_vec hP J).1;have br:=aL.out.1;have bt:=(iConj_vec hP _ _ (unitV_vec hP J) aj.out).1;have aM:=Lib.hid (And.intro bq (And.intro br bt));clear bq br bt;have bQ:Ints Any wr u12 (iter (gt P.orders i).toNat (λx=>iImg P i x) (unitV P.orders.length J)):=by rw[<-bn];exact hX
          have aC:(iter (gt P.orders i).toNat (λx=>iImg P i x) (unitV P.orders.length J)).length=P.orders.length:=by rw[<-bn];exact aM.out.2.1
          have cy:=Lib.hid aC;clear aC hX;go_wp2_with fail
          refine Calls.mono (unitVector_ok P.orders.length J wr q (by omega)) ?_;rintro eV wV ⟨vV,rfl,aw,bR⟩;go_wp2_with fail
          refine Calls.mono (conjugate_ok P hP wV _ _ _ (unitV P.orders.length J) (gt P.powers i) Any Any Any (PresP.sub (M.ext (grown_trans e (grown_trans ah aw))) (λ_ _ _=>trivial)) (bR.ints (by rw[aM.out.1];omega)) (Ints.sub (Ints.ext U (grown_trans e (grown_trans ah aw))) (λ_ _ _=>trivial)) (unitV_vec hP J) aj.out) ?_;rintro eC wC ⟨vC,rfl,bu,bS⟩;go_wp2_with fail
          refine Calls.mono (sEqual_ok _ _ _ _ wC Any Any (bQ.ext (grown_trans aw bu)) (bS.ints (by rw[aM.out.2.2];omega))) ?_;rintro eB wB ⟨vB,rfl,bv,rfl⟩;have a:Ext wo wB:=grown_trans ah (grown_trans aw (grown_trans bu bv));cases Y:eqB (iter (gt P.orders i).toNat (λx=>iImg P i x) (unitV P.orders.length J)) (iConj P (unitV P.orders.length J) (gt P.powers i)) with
          | true=>
           have aN:=Lib.hid Y;go_wp2;go_roundw
           case rel=>exact⟨J+1,by go_num,by omega,by omega,grown_trans e a,λm h1 h2=>by
            rcases Nat.lt_or_ge m J with X|X
            ·exact bi.out m h1 X
            ·have:m=J:=by omega
             rw[this];exact eqB_true.1 aN.out⟩
           case measure=>simp[intOf];omega
          | false=>
           have aN:=Lib.hid Y;have c0:=a.cell b.out.1 (by simp);have c1:=a.cell b.out.2.1 (by simp);have c2:=a.cell b.out.2.2.1 (by simp);have c3:=a.cell b.out.2.2.2.1 (by simp);have am:=frozen_ext a (b.out.2.2.2.2 0) j;have an:=frozen_ext a (b.out.2.2.2.2 1) j;have aq:=frozen_ext a (b.out.2.2.2.2 2) j;have ar:=frozen_ext a (b.out.2.2.2.2 3) j;go_wp2;refine bodyPost_ret (v := .agg #[.int .i64 4,.int .i64 i,.int .i64 J,.int .i64 0]) (by simp[results,Tryz.results193,go_sem,c0,c1,c2,c3]) rfl ⟨_,rfl,ext_set4 (grown_trans W (grown_trans e a)) (Nat.le_refl _) _ _ _ _,.inr ⟨λh=>eqB_false.1 aN.out (h.c4 J (by omega) q),_,_,_,_,by decide,rfl⟩⟩
       ·have bT:J=P.orders.length:=by omega
        subst bT;have c0:=b.out.1;have c1:=b.out.2.1;have c2:=b.out.2.2.1;have c3:=b.out.2.2.2.1;have am:=b.out.2.2.2.2 0;have an:=b.out.2.2.2.2 1;have aq:=b.out.2.2.2.2 2;have ar:=b.out.2.2.2.2 3;go_wp2;refine bodyPost_ret (v := .agg #[.int .i64 0,.int .i64 0,.int .i64 0,.int .i64 0]) (by simp[results,Tryz.results193,go_sem,c0,c1,c2,c3]) rfl ⟨_,rfl,ext_set4 (grown_trans W e) (Nat.le_refl _) _ _ _ _,.inl ⟨⟨bG.out,bL.out,HQ.out,bi.out⟩,rfl⟩⟩
def RCond1 (P:Pr) (f i J:Nat):Prop:=rRep (rAt P f (i+1)) (zeros P.orders.length) (gt (gt P.conj i) (J-i-1)) (gt P.orders J).toNat=rImage P f i (gt P.powers J)
def RCond2 (P:Pr) (f i J K:Nat):Prop:=rAt P f (i+1) (gt (gt P.conj i) (K-i-1)) (gt (gt P.conj i) (J-i-1))=rAt P f (i+1) (gt (gt P.conj i) (J-i-1)) (rImage P f i (gt (gt P.conj J) (K-J-1)))
def RCond3 (P:Pr) (f i:Nat):Prop:=rImage P f i (gt P.powers i)=gt P.powers i
def RCond4 (P:Pr) (f i J:Nat):Prop:=rAt P f (i+1) (gt P.powers i) (iter (gt P.orders i).toNat (λx=>rImage P f i x) (unitV P.orders.length J))=rAt P f (i+1) (unitV P.orders.length J) (gt P.powers i)
structure RLevel (P:Pr) (f i:Nat):Prop where
 c1:∀J,i<J->J<P.orders.length->RCond1 P f i J
 c2:∀J K,i<J->J<K->K<P.orders.length->RCond2 P f i J K
 c3:RCond3 P f i
 c4:∀J,i<J->J<P.orders.length->RCond4 P f i J
theorem rImage_vec {P:Pr}(hP:Valid P) (f i:Nat) (hi:i+(f+1)=P.orders.length) (x:List Int):Vec P.orders (rImage P f i x):=
 rImgTo_vec hP f i hi (rAt_vec hP f) _ _ (zeros_vec hP) f (Nat.le_refl _)
theorem rRepF_vec {P:Pr}(hP:Valid P) (f i:Nat) (hi:i+f=P.orders.length):∀(g:Nat) (o b:List Int) (k:Nat),Vec P.orders o->Vec P.orders b->Vec P.orders (rRepF (rAt P f i) g o b k):=by
 intro g;induction g with
 | zero=>intro o b k a _;exact a
 | succ g j=>
  intro o b k a e;simp only[rRepF];split
  ·exact a
  ·refine j _ _ _ ?_ (rAt_vec hP f i _ _ hi e e)
   split
   ·exact rAt_vec hP f i _ _ hi a e
   ·exact a
theorem l08Level_ok (P:Pr) (hP:Valid P) (w:World) (pv:Value) (i f:Nat) (Sp:Nat->Prop) (bO:PresV Sp w pv P) (O:i+(f+1)=P.orders.length) :
  Calls Tryz.prog 352 #[pv,.int .i64 i] w (Ret w λ_ v=>FaultR (RLevel P f i) v):=by
 have hi:i<P.orders.length:=by omega
 have cy:=hP.n6;obtain⟨vo,vp,vc,rfl,h3⟩:=bO;have a9:=PresP.box h3 28;have U:Ext w ((w.alloc (.cells #[vo,vp,vc] 28)).alloc (.cells #[.int .i64 0,.int .i64 0,.int .i64 0,.int .i64 0] 174)):=grown_trans (World.grownBy_alloc _ _ _) (World.grownBy_alloc _ _ _);have aj:=a9.ext (World.grownBy_alloc (w.alloc (.cells #[vo,vp,vc] 28)) (.cells #[.int .i64 0,.int .i64 0,.int .i64 0,.int .i64 0] 174) none);obtain⟨ao,capo,dM,hoi⟩:=aj.ordAt;go_enter Tryz.func352,Tryz.ntmps352;go_wp2;clear dM hoi;have ah:(w.alloc (.cells #[vo,vp,vc] 28)).heap.size=w.heap.size+1:=by simp
 have r0:((w.alloc (.cells #[vo,vp,vc] 28)).alloc (.cells #[.int .i64 0,.int .i64 0,.int .i64 0,.int .i64 0] 174)).cell? ⟨w.heap.size+1,0,none⟩=some (.int .i64 0):=by rw[World.cell?_alloc_at _ _ _ _ ah.symm];rfl
 have r1:((w.alloc (.cells #[vo,vp,vc] 28)).alloc (.cells #[.int .i64 0,.int .i64 0,.int .i64 0,.int .i64 0] 174)).cell? ⟨w.heap.size+1,1,none⟩=some (.int .i64 0):=by rw[World.cell?_alloc_at _ _ _ _ ah.symm];rfl
 have r2:((w.alloc (.cells #[vo,vp,vc] 28)).alloc (.cells #[.int .i64 0,.int .i64 0,.int .i64 0,.int .i64 0] 174)).cell? ⟨w.heap.size+1,2,none⟩=some (.int .i64 0):=by rw[World.cell?_alloc_at _ _ _ _ ah.symm];rfl
 have r3:((w.alloc (.cells #[vo,vp,vc] 28)).alloc (.cells #[.int .i64 0,.int .i64 0,.int .i64 0,.int .i64 0] 174)).cell? ⟨w.heap.size+1,3,none⟩=some (.int .i64 0):=by rw[World.cell?_alloc_at _ _ _ _ ah.symm];rfl
 have rf:∀k,((w.alloc (.cells #[vo,vp,vc] 28)).alloc (.cells #[.int .i64 0,.int .i64 0,.int .i64 0,.int .i64 0] 174)).frozen? ⟨w.heap.size+1,k,none⟩=false:=λk=>World.frozen?_alloc_at _ _ _ _ ah.symm;have rs:w.heap.size+1<((w.alloc (.cells #[vo,vp,vc] 28)).alloc (.cells #[.int .i64 0,.int .i64 0,.int .i64 0,.int .i64 0] 174)).heap.size:=by simp
 clear ah a9;generalize (w.alloc (.cells #[vo,vp,vc] 28)).alloc (.cells #[.int .i64 0,.int .i64 0,.int .i64 0,.int .i64 0] 174)=w0 at *;have Q:=Lib.hid (And.intro r0 (And.intro r1 (And.intro r2 (And.intro r3 rf))));clear r0 r1 r2 r3 rf;have a':=(hP.pv i hi).1;have ab:=Lib.hid a';clear a';have ba:=hP.cl;have bb:=hP.pl;have be:i<P.conj.length:=by omega
 have bQ:i<P.powers.length:=by omega
 have bf:=hP.cv i hi;have S:=Lib.hid bf;clear bf;have bg:=Lib.hid ba;have bh:=Lib.hid bb;clear ba bb;go_loopw [7] (λjv wr=>∃J:Nat,jv=.int .i64 J/\i+1<=J/\J<=P.orders.length/\Ext w0 wr/\∀m,i<m->m<J->RCond1 P f i m) (λjv _=>P.orders.length-(intOf jv).toNat)
 case atStart=>exact⟨i+1,by go_num,by omega,by omega,Ext.refl _,λm h1 h2=>by omega⟩
 case round =>
  obtain⟨J,rfl,hJ1,hJ2,j,hc1⟩:=hrel;have aR:=Lib.hid hc1;clear hc1;by_cases A:J<P.orders.length
  ·--<P1
   have bi:(J:Int)<P.orders.length:=by omega
   obtain⟨al,iF,iZ,_,_,hb1,B,C,e⟩:=(aj.ext j).at;obtain⟨ao,capo,rfl,_,_⟩:=e.o.shape;obtain⟨bo,oo,rfl,_,_,gh⟩:=Ints.at e.o J A;obtain⟨ap,capp,rfl,_,_⟩:=Sl.shape e.p;obtain⟨bp,op,am,D,rfl,_,_,ig,R⟩:=Rows2.at e.p J (by have:=bh.out;omega);obtain⟨ac,capc,rfl,_,_⟩:=Sl.shape e.c;obtain⟨bc,oc,iQ,an,rfl,_,_,ij,gw⟩:=Rows3.at e.c i be;obtain⟨bd,od,aS,ad,rfl,_,_,hcd,hid⟩:=Rows2.at gw (J-i-1) (by rw[S.out.1];omega);have e1:∀w',Ext wr w'->w'.cell? ⟨w.heap.size,0,none⟩=some (.slice (some ⟨bo,oo,none⟩) P.orders.length capo):=λw' h=>h.cell hb1 (by simp);have e2:∀w',Ext wr w'->w'.cell? ⟨w.heap.size,1,none⟩=some (.slice (some ⟨bp,op,none⟩) P.powers.length capp):=λw' h=>h.cell (by simpa using B) (by simp);have e3:∀w',Ext wr w'->w'.cell? ⟨w.heap.size,2,none⟩=some (.slice (some ⟨bc,oc,none⟩) P.conj.length capc):=λw' h=>h.cell (by simpa using C) (by simp);have e4:∀w',Ext wr w'->w'.cell? ⟨bo,oo+J,none⟩=some (.int .i64 (gt P.orders J)):=λw' h=>h.cell gh (by simp);have e5:∀w',Ext wr w'->w'.cell? ⟨bp,op+J,none⟩=some (.slice am (gt P.powers J).length D):=λw' h=>h.cell ig (by simp);have e6:∀w',Ext wr w'->w'.cell? ⟨bc,oc+i,none⟩=some (.slice (some ⟨bd,od,none⟩) (gt P.conj i).length an):=λw' h=>h.cell ij (by simp);have e7:∀w',Ext wr w'->w'.cell? ⟨bd,od+(J-i-1),none⟩=some (.slice aS (gt (gt P.conj i) (J-i-1)).length ad):=λw' h=>h.cell hcd (by simp);have b1:(0:Int)<=(J:Int)-i-1:=by omega
   have b2:(J:Int)-i-1<(gt P.conj i).length:=by rw[S.out.1];omega
   have b3:(i:Int)<P.conj.length:=by omega
   have b4:(J:Int)<P.powers.length:=by have:=bh.out;omega
   have b6:(0:Int)<=J:=by omega
   have b7:((J:Int)-i-1).toNat=J-i-1:=by omega
   have b8:(1:Int)<=(J:Int)-i:=by omega
   have s1:IntKind.i64.wrap ((J:Int)-i)=(J:Int)-i:=IntWalk.i64_in _ (by omega);have s2:IntKind.i64.wrap ((J:Int)-i-1)=(J:Int)-i-1:=IntWalk.i64_in _ (by omega);have s3:IntKind.i64.wrap ((i:Int)+1)=(i:Int)+1:=IntWalk.i64_in _ (by omega);have aq:=(S.out.2 (J-i-1) (by omega)).1;have ar:=(hP.pv J A).1;have bm:=hP.ord7 J A;have V:=Lib.hid (And.intro aq (And.intro ar bm));clear aq ar bm;have W:(rRep (rAt P f (i+1)) (zeros P.orders.length) (gt (gt P.conj i) (J-i-1)) (gt P.orders J).toNat).length=P.orders.length:=(rRepF_vec hP f (i+1) (by omega) _ _ _ _ (zeros_vec hP) V.out.1).1;have X:=(rImage_vec hP f i O (gt P.powers J)).1;have Y:=Lib.hid (And.intro W X);clear W X;clear hb1 B C gh ig ij hcd gw;have F:=j.cell Q.out.1 (by simp);have G:=j.cell Q.out.2.1 (by simp);have H:=j.cell Q.out.2.2.1 (by simp);have I:=j.cell Q.out.2.2.2.1 (by simp);have L:=λk=>frozen_ext j (Q.out.2.2.2.2 k) rs;have l:w.heap.size+1<wr.heap.size:=Nat.lt_of_lt_of_le rs j.size;have b:=Lib.hid (And.intro F (And.intro G (And.intro H (And.intro I L))));clear F G H I L;go_wp2
   go_region_held3 (λw'=>Ext wr w') (first|exact grown_drew _ _|assumption)
    (first
     | (go_at_call 310;refine Calls.mono (Calls.rel (w0:=wr) (by assumption) (l08Repeat_ok P hP _ _ _ (i+1) f (by omega) _ _ Any Any ⟨_,_,_,rfl,Pres3.ext e (by assumption)⟩ (Ints.ext hid (by assumption)) V.out.1 (by have:=V.out.2.2;omega) (by have:=V.out.2.2;omega))) ?_;rintro eA Z ⟨vA,rfl,q,hsA,u⟩))
   clear s1 s2 s3 b1 b2 b7 b8 e6 e7 e4;have f1:∀w',Ext Z w'->w'.cell? ⟨w.heap.size,0,none⟩=some (.slice (some ⟨bo,oo,none⟩) P.orders.length capo):=λw' h=>e1 w' (grown_trans q h);have f2:∀w',Ext Z w'->w'.cell? ⟨w.heap.size,1,none⟩=some (.slice (some ⟨bp,op,none⟩) P.powers.length capp):=λw' h=>e2 w' (grown_trans q h);have f3:∀w',Ext Z w'->w'.cell? ⟨w.heap.size,2,none⟩=some (.slice (some ⟨bc,oc,none⟩) P.conj.length capc):=λw' h=>e3 w' (grown_trans q h);have f5:∀w',Ext Z w'->w'.cell? ⟨bp,op+J,none⟩=some (.slice am (gt P.powers J).length D):=λw' h=>e5 w' (grown_trans q h);clear e1 e2 e3 e5;go_wp2;cases hq:eqB (rRep (rAt P f (i+1)) (zeros P.orders.length) (gt (gt P.conj i) (J-i-1)) (gt P.orders J).toNat) (rImage P f i (gt P.powers J)) with
   | true=>
    have HQ:=Lib.hid hq
    go_region_held3 (λw'=>Ext Z w') (first|exact grown_drew _ _|assumption)
     (first
      | (go_at_call 376;refine Calls.mono (Calls.rel2 (w0:=Z) (by assumption) (l08Image_of P hP f (l08At_ok P hP f) _ _ _ i _ Any Any O ⟨_,_,_,rfl,Pres3.ext (Pres3.ext e q) (by assumption)⟩ (Ints.ext (Ints.ext R q) (by assumption)) V.out.2.1)) ?_;rintro eF wF ⟨vF,rfl,z,mE,gF,fP⟩;have r:=(u.ext0 z).ints (by rw[Y.out.1];omega);have av:=fP.ints (by rw[Y.out.2];omega))
      | (go_at_call 250;refine Calls.mono (Calls.rel (w0:=Z) (by assumption) (l01Same_ok _ _ _ _ _ Any Any r av)) ?_;rintro eB wB ⟨vB,rfl,iz,hsB,rfl⟩))
    clear f1 f2 f3 f5;have a:Ext wr wB:=grown_trans q iz;go_wp2;go_roundw
    case rel=>exact⟨J+1,by go_num,by omega,by omega,grown_trans j a,λm h1 h2=>by
     rcases Nat.lt_or_ge m J with h3|h3
     ·exact aR.out m h1 h3
     ·have:m=J:=by omega
      rw[this];exact eqB_true.1 HQ.out⟩
    case measure=>simp[intOf];omega
   | false=>
    have HQ:=Lib.hid hq
    go_region_held3 (λw'=>Ext Z w') (first|exact grown_drew _ _|assumption)
     (first
      | (go_at_call 376;refine Calls.mono (Calls.rel2 (w0:=Z) (by assumption) (l08Image_of P hP f (l08At_ok P hP f) _ _ _ i _ Any Any O ⟨_,_,_,rfl,Pres3.ext (Pres3.ext e q) (by assumption)⟩ (Ints.ext (Ints.ext R q) (by assumption)) V.out.2.1)) ?_;rintro eF wF ⟨vF,rfl,z,mE,gF,fP⟩;have r:=(u.ext0 z).ints (by rw[Y.out.1];omega);have av:=fP.ints (by rw[Y.out.2];omega))
      | (go_at_call 250;refine Calls.mono (Calls.rel (w0:=Z) (by assumption) (l01Same_ok _ _ _ _ _ Any Any r av)) ?_;rintro eB wB ⟨vB,rfl,iz,hsB,rfl⟩))
    clear f1 f2 f3 f5;have a:Ext wr wB:=grown_trans q iz;have c0:=a.cell b.out.1 (by simp);have c1:=a.cell b.out.2.1 (by simp);have c2:=a.cell b.out.2.2.1 (by simp);have c3:=a.cell b.out.2.2.2.1 (by simp);have aA:=frozen_ext a (b.out.2.2.2.2 0) l;have aB:=frozen_ext a (b.out.2.2.2.2 1) l;have aC:=frozen_ext a (b.out.2.2.2.2 2) l;have aD:=frozen_ext a (b.out.2.2.2.2 3) l;go_wp2;refine bodyPost_ret (v := .agg #[.int .i64 1,.int .i64 i,.int .i64 J,.int .i64 0]) (by simp[results,Tryz.results352,go_sem,c0,c1,c2,c3]) rfl ⟨_,rfl,ext_set4 (grown_trans U (grown_trans j a)) (by omega) _ _ _ _,.inr ⟨λh=>eqB_false.1 HQ.out (h.c1 J (by omega) A),_,_,_,_,by decide,rfl⟩⟩
  -->P1
  ·have aM : ∀m,i<m->m<P.orders.length->RCond1 P f i m:=λm h1 h2=>aR.out m h1 (by omega)
   have bV:=Lib.hid aM;clear aM aR;go_wp2;clear A;go_loopw [9] (λjv wr=>∃J:Nat,jv=.int .i64 J/\i+1<=J/\J<=P.orders.length/\Ext w0 wr/\∀m n,i<m->m<J->m<n->n<P.orders.length->RCond2 P f i m n) (λjv _=>P.orders.length-(intOf jv).toNat)
   case atStart=>exact⟨i+1,by go_num,by omega,by omega,j,λm n h1 h2=>by omega⟩
   case round =>
    clear j hJ1 hJ2;obtain⟨J,rfl,hJ1,hJ2,j,hc2⟩:=hrel;have aT:=Lib.hid hc2;clear hc2;by_cases A:J<P.orders.length
    ·--<P2
     have bi:(J:Int)<P.orders.length:=by omega
     go_wp2;go_loopw [10] (λkv wr=>∃K:Nat,kv=.int .i64 K/\J+1<=K/\K<=P.orders.length/\Ext w0 wr/\∀n,J<n->n<K->RCond2 P f i J n) (λkv _=>P.orders.length-(intOf kv).toNat)
     case atStart=>exact⟨J+1,by go_num,by omega,by omega,j,λn h1 h2=>by omega⟩
     case round=>
      clear j;obtain⟨K,rfl,hK1,hK2,j,hc3⟩:=hrel;have bn:=Lib.hid hc3;clear hc3;by_cases bq:K<P.orders.length
      ·obtain ⟨al,iF,iZ,_,_,hb1,B,C,e⟩:=(aj.ext j).at
       obtain⟨ac,capc,rfl,_,_⟩:=Sl.shape e.c;obtain⟨bc,oc,iQ,an,rfl,_,_,ij,gw⟩:=Rows3.at e.c i be;obtain⟨bd,od,aS,ad,rfl,_,_,hcd,hid⟩:=Rows2.at gw (J-i-1) (by rw[S.out.1];omega);obtain⟨bX,iY,bY,aU,jJ,_,_,j0,mF⟩:=Rows2.at gw (K-i-1) (by rw[S.out.1];omega);obtain⟨rfl,rfl⟩:bX=bd/\iY=od:=by cases jJ;exact⟨rfl,rfl⟩
       have ag:=(hP.cv J A);obtain⟨aE,iy,oL,aV,jK,_,_,jL,jM⟩:=Rows3.at e.c J (by have:=bg.out;omega);obtain⟨rfl,rfl⟩:aE=bc/\iy=oc:=by cases jK;exact⟨rfl,rfl⟩
       obtain⟨br,jN,bZ,aW,rfl,_,_,jO,aN⟩:=Rows2.at jM (K-J-1) (by rw[ag.1];omega);clear jJ jK;have e1:∀w',Ext wr w'->w'.cell? ⟨w.heap.size,0,none⟩=some al:=λw' h=>h.cell hb1 (by simp);have e2:∀w',Ext wr w'->w'.cell? ⟨w.heap.size,1,none⟩=some iF:=λw' h=>h.cell (by simpa using B) (by simp);have e3:∀w',Ext wr w'->w'.cell? ⟨w.heap.size,2,none⟩=some (.slice (some ⟨aE,iy,none⟩) P.conj.length capc):=λw' h=>h.cell (by simpa using C) (by simp);have bt:=e3 wr (Ext.refl _);have e9:∀w',Ext wr w'->w'.cell? ⟨aE,iy+J,none⟩=some (.slice (some ⟨br,jN,none⟩) (gt P.conj J).length aV):=λw' h=>h.cell jL (by simp);have aF:∀w',Ext wr w'->w'.cell? ⟨br,jN+(K-J-1),none⟩=some (.slice bZ (gt (gt P.conj J) (K-J-1)).length aW):=λw' h=>h.cell jO (by simp);have b1:(0:Int)<=(J:Int)-i-1:=by omega
       have b2:(J:Int)-i-1<(gt P.conj i).length:=by rw[S.out.1];omega
       have b3:(i:Int)<P.conj.length:=by omega
       have b4:(J:Int)<P.conj.length:=by have:=bg.out;omega
       have b7:((J:Int)-i-1).toNat=J-i-1:=by omega
       have b8:(1:Int)<=(J:Int)-i:=by omega
       have k1:(0:Int)<=(K:Int)-i-1:=by omega
       have k2:(K:Int)-i-1<(gt P.conj i).length:=by rw[S.out.1];omega
       have k7:((K:Int)-i-1).toNat=K-i-1:=by omega
       have k8:(1:Int)<=(K:Int)-i:=by omega
       have m1:(0:Int)<=(K:Int)-J-1:=by omega
       have m2:(K:Int)-J-1<(gt P.conj J).length:=by rw[ag.1];omega
       have m7:((K:Int)-J-1).toNat=K-J-1:=by omega
       have m8:(1:Int)<=(K:Int)-J:=by omega
       have b5:(K:Int)<P.orders.length:=by omega
       have s1:IntKind.i64.wrap ((J:Int)-i)=(J:Int)-i:=IntWalk.i64_in _ (by omega);have s2:IntKind.i64.wrap ((J:Int)-i-1)=(J:Int)-i-1:=IntWalk.i64_in _ (by omega);have s3:IntKind.i64.wrap ((K:Int)-i)=(K:Int)-i:=IntWalk.i64_in _ (by omega);have s4:IntKind.i64.wrap ((K:Int)-i-1)=(K:Int)-i-1:=IntWalk.i64_in _ (by omega);have s5:IntKind.i64.wrap ((K:Int)-J)=(K:Int)-J:=IntWalk.i64_in _ (by omega);have s6:IntKind.i64.wrap ((K:Int)-J-1)=(K:Int)-J-1:=IntWalk.i64_in _ (by omega);have s7:IntKind.i64.wrap ((i:Int)+1)=(i:Int)+1:=IntWalk.i64_in _ (by omega);have bu:=(S.out.2 (J-i-1) (by omega)).1;have bv:=(S.out.2 (K-i-1) (by omega)).1;have aO:=(ag.2 (K-J-1) (by omega)).1;have V:=Lib.hid (And.intro bv (And.intro bu aO));clear bu bv aO ag;have aX:=rImage_vec hP f i O (gt (gt P.conj J) (K-J-1));have W:=(rAt_vec hP f (i+1) _ _ (by omega) V.out.1 V.out.2.1).1;have X:=(rAt_vec hP f (i+1) _ _ (by omega) V.out.2.1 aX).1;have Y:=Lib.hid (And.intro W (And.intro X aX));clear W X aX;have F:=j.cell Q.out.1 (by simp);have G:=j.cell Q.out.2.1 (by simp);have H:=j.cell Q.out.2.2.1 (by simp);have I:=j.cell Q.out.2.2.2.1 (by simp);have L:=λk=>frozen_ext j (Q.out.2.2.2.2 k) rs;have l:w.heap.size+1<wr.heap.size:=Nat.lt_of_lt_of_le rs j.size;have b:=Lib.hid (And.intro F (And.intro G (And.intro H (And.intro I L))));clear F G H I L;have E:=Lib.hid (And.intro e1 (And.intro e2 (And.intro e3 (And.intro e9 aF))));clear e1 e2 e3 e9 aF;clear hb1 B C;go_wp2;go_quiet (fail)
       rename_i nq _;have aY:Ext wr (wr.drewN nq):=grown_drewN _ _ _;clear ij hcd j0 jL jO gw jM bt;obtain⟨wq,aZ⟩:∃wq:World,wq=wr.drewN nq:=⟨_,rfl⟩;rw[<-aZ] at aY;rw[<-aZ];clear aZ;obtain⟨e1,e2,e3,e9,aF⟩:=E.out;go_wp2
       go_region_held3 (λw'=>Ext wr w') (first|exact grown_trans aY (grown_drew _ _)|exact aY|exact grown_drew _ _|assumption)
        (first
         | (go_at_call 376;refine Calls.mono (Calls.rel (w0:=wr) (by assumption) (l08Image_of P hP f (l08At_ok P hP f) _ _ _ i _ Any Any O ⟨_,_,_,rfl,Pres3.ext e (by assumption)⟩ (Ints.ext aN (by assumption)) V.out.2.2)) ?_;rintro eF wF ⟨vF,rfl,z,mE,fP⟩))
       have bw:=fP.ints (by rw[Y.out.2.2.1];omega);have bx:Ints Any wF (.slice bY (gt (gt P.conj i) (K-i-1)).length aU) _:=Ints.ext mF z;have aG:Ints Any wF (.slice aS (gt (gt P.conj i) (J-i-1)).length ad) _:=Ints.ext hid z;have aH:=Pres3.ext e z;have f1:∀w',Ext wF w'->w'.cell? ⟨w.heap.size,0,none⟩=some al:=λw' h=>e1 w' (grown_trans z h);have f2:∀w',Ext wF w'->w'.cell? ⟨w.heap.size,1,none⟩=some iF:=λw' h=>e2 w' (grown_trans z h);have f3:∀w',Ext wF w'->w'.cell? ⟨w.heap.size,2,none⟩=some (.slice (some ⟨aE,iy,none⟩) P.conj.length capc):=λw' h=>e3 w' (grown_trans z h);clear e1 e2 e3 e9 aF E s1 s2 s3 s4 s5 s6 b1 b2 b7 b8 k1 k2 k7 k8 m1 m2 m7 m8 aN mF hid e fP;go_wp2;cases hq:eqB (rAt P f (i+1) (gt (gt P.conj i) (K-i-1)) (gt (gt P.conj i) (J-i-1))) (rAt P f (i+1) (gt (gt P.conj i) (J-i-1)) (rImage P f i (gt (gt P.conj J) (K-J-1)))) with
       | true=>
        have HQ:=Lib.hid hq
        go_region_held3 (λw'=>Ext wF w') (first|exact grown_drew _ _|assumption)
         (first
          | (go_at_call_of 346 (vF);refine Calls.mono (Calls.rel2 (w0:=wF) (by assumption) (l08At_ok P hP f _ _ _ _ (i+1) _ _ Any Any Any (by omega) ⟨_,_,_,rfl,Pres3.ext aH (by assumption)⟩ (Ints.ext aG (by assumption)) (Ints.ext bw (by assumption)) V.out.2.1 Y.out.2.2)) ?_;rintro eG wG ⟨vG,rfl,jP,M,kM,iO⟩;have r:=(u.ext0 M).ints (by rw[Y.out.1];omega);have N:=iO.ints (by rw[Y.out.2.1];omega))
          | (go_at_call 346;refine Calls.mono (Calls.rel (w0:=wF) (by assumption) (l08At_ok P hP f _ _ _ _ (i+1) _ _ Any Any Any (by omega) ⟨_,_,_,rfl,Pres3.ext aH (by assumption)⟩ (Ints.ext bx (by assumption)) (Ints.ext aG (by assumption)) V.out.1 V.out.2.1)) ?_;rintro eA Z ⟨vA,rfl,q,hsA,u⟩)
          | (go_at_call 250;refine Calls.mono (Calls.rel (w0:=wF) (by assumption) (l01Same_ok _ _ _ _ _ Any Any r N)) ?_;rintro eB wB ⟨vB,rfl,iP,hsB,rfl⟩))
        clear f1 f2 f3;have a:Ext wr wB:=grown_trans z iP;go_wp2;go_roundw
        case rel=>exact⟨K+1,by go_num,by omega,by omega,grown_trans j a,λn h1 h2=>by
         rcases Nat.lt_or_ge n K with h3|h3
         ·exact bn.out n h1 h3
         ·have:n=K:=by omega
          rw[this];exact eqB_true.1 HQ.out⟩
        case measure=>simp[intOf];omega
       | false=>
        have HQ:=Lib.hid hq
        go_region_held3 (λw'=>Ext wF w') (first|exact grown_drew _ _|assumption)
         (first
          | (go_at_call_of 346 (vF);refine Calls.mono (Calls.rel2 (w0:=wF) (by assumption) (l08At_ok P hP f _ _ _ _ (i+1) _ _ Any Any Any (by omega) ⟨_,_,_,rfl,Pres3.ext aH (by assumption)⟩ (Ints.ext aG (by assumption)) (Ints.ext bw (by assumption)) V.out.2.1 Y.out.2.2)) ?_;rintro eG wG ⟨vG,rfl,jP,M,kM,iO⟩;have r:=(u.ext0 M).ints (by rw[Y.out.1];omega);have N:=iO.ints (by rw[Y.out.2.1];omega))
          | (go_at_call 346;refine Calls.mono (Calls.rel (w0:=wF) (by assumption) (l08At_ok P hP f _ _ _ _ (i+1) _ _ Any Any Any (by omega) ⟨_,_,_,rfl,Pres3.ext aH (by assumption)⟩ (Ints.ext bx (by assumption)) (Ints.ext aG (by assumption)) V.out.1 V.out.2.1)) ?_;rintro eA Z ⟨vA,rfl,q,hsA,u⟩)
          | (go_at_call 250;refine Calls.mono (Calls.rel (w0:=wF) (by assumption) (l01Same_ok _ _ _ _ _ Any Any r N)) ?_;rintro eB wB ⟨vB,rfl,iP,hsB,rfl⟩))
        clear f1 f2 f3;have a:Ext wr wB:=grown_trans z iP;have c0:=a.cell b.out.1 (by simp);have c1:=a.cell b.out.2.1 (by simp);have c2:=a.cell b.out.2.2.1 (by simp);have c3:=a.cell b.out.2.2.2.1 (by simp);have aA:=frozen_ext a (b.out.2.2.2.2 0) l;have aB:=frozen_ext a (b.out.2.2.2.2 1) l;have aC:=frozen_ext a (b.out.2.2.2.2 2) l;have aD:=frozen_ext a (b.out.2.2.2.2 3) l;go_wp2;refine bodyPost_ret (v := .agg #[.int .i64 2,.int .i64 i,.int .i64 J,.int .i64 K]) (by simp[results,Tryz.results352,go_sem,c0,c1,c2,c3]) rfl ⟨_,rfl,ext_set4 (grown_trans U (grown_trans j a)) (by omega) _ _ _ _,.inr ⟨λh=>eqB_false.1 HQ.out (h.c2 J K (by omega) (by omega) bq),_,_,_,_,by decide,rfl⟩⟩
      ·have cR:K=P.orders.length:=by omega
       go_wp2;go_roundw
       case rel=>exact⟨J+1,by go_num,by omega,by omega,j,λm n h1 h2 h3 h4=>by
         rcases Nat.lt_or_ge m J with h5|h5
         ·exact aT.out m n h1 h5 h3 h4
         ·have:m=J:=by omega
          subst this;exact bn.out n h3 (by omega)⟩
       case measure=>simp[intOf];omega
    -->P2
    ·have aw:∀m n,i<m->m<n->n<P.orders.length->RCond2 P f i m n:=λm n h1 h2 h3=>aT.out m n h1 (by omega) h2 h3
     have ca:=Lib.hid aw;clear aw aT;obtain⟨al,iF,iZ,_,_,hb1,B,C,e⟩:=(aj.ext j).at;obtain⟨ap,capp,rfl,_,_⟩:=Sl.shape e.p;obtain⟨bp,op,am,D,rfl,_,_,ig,R⟩:=Rows2.at e.p i bQ;have bz:=(rImage_vec hP f i O (gt P.powers i)).1;have cb:=Lib.hid bz;clear bz;have F:=j.cell Q.out.1 (by simp);have G:=j.cell Q.out.2.1 (by simp);have H:=j.cell Q.out.2.2.1 (by simp);have I:=j.cell Q.out.2.2.2.1 (by simp);have L:=λk=>frozen_ext j (Q.out.2.2.2.2 k) rs;have l:w.heap.size+1<wr.heap.size:=Nat.lt_of_lt_of_le rs j.size;have b:=Lib.hid (And.intro F (And.intro G (And.intro H (And.intro I L))));clear F G H I L;go_wp2_with fail
     refine Calls.mono (l08Image_of P hP f (l08At_ok P hP f) wr _ _ i _ Any Any O ⟨_,_,_,rfl,e⟩ R ab.out) ?_;rintro eA Z ⟨vA,rfl,q,u⟩;go_wp2_with fail
     refine Calls.mono (l01Same_ok _ _ _ _ Z Any Any (u.ints (by rw[cb.out];omega)) (Ints.ext R q)) ?_;rintro eB wB ⟨vB,rfl,iz,rfl⟩;have a:Ext wr wB:=grown_trans q iz;have ax:Ints Any wB (.slice am (gt P.powers i).length D) (gt P.powers i):=Ints.ext R a;cases hq:eqB (rImage P f i (gt P.powers i)) (gt P.powers i) with
     | false=>
      have HQ:=Lib.hid hq;have c0:=a.cell b.out.1 (by simp);have c1:=a.cell b.out.2.1 (by simp);have c2:=a.cell b.out.2.2.1 (by simp);have c3:=a.cell b.out.2.2.2.1 (by simp);have aA:=frozen_ext a (b.out.2.2.2.2 0) l;have aB:=frozen_ext a (b.out.2.2.2.2 1) l;have aC:=frozen_ext a (b.out.2.2.2.2 2) l;have aD:=frozen_ext a (b.out.2.2.2.2 3) l;go_wp2;refine bodyPost_ret (v := .agg #[.int .i64 3,.int .i64 i,.int .i64 0,.int .i64 0]) (by simp[results,Tryz.results352,go_sem,c0,c1,c2,c3]) rfl ⟨_,rfl,ext_set4 (grown_trans U (grown_trans j a)) (by omega) _ _ _ _,.inr ⟨λh=>eqB_false.1 HQ.out h.c3,_,_,_,_,by decide,rfl⟩⟩
     | true =>
      --<P4
      have HQ:=Lib.hid (eqB_true.1 hq);have bA:=grown_trans j a;clear ig hb1 B C e;go_wp2;clear hq;obtain⟨wz,rfl⟩:∃wz:World,wz=wB:=⟨_,rfl⟩;go_loopw [15] (λjv wr=>∃J:Nat,jv=.int .i64 J/\i+1<=J/\J<=P.orders.length/\Ext w0 wr/\Ext wz wr/\∀m,i<m->m<J->RCond4 P f i m) (λjv _=>P.orders.length-(intOf jv).toNat)
      case atStart=>exact⟨i+1,by go_num,by omega,by omega,bA,Ext.refl _,λm h1 h2=>by omega⟩
      case round=>
       clear j q a bA u hJ1 hJ2 b l iz A;obtain⟨J,rfl,hJ1,hJ2,j,bB,iB⟩:=hrel;have bC:=Lib.hid iB;clear iB;have F:=j.cell Q.out.1 (by simp);have G:=j.cell Q.out.2.1 (by simp);have H:=j.cell Q.out.2.2.1 (by simp);have I:=j.cell Q.out.2.2.2.1 (by simp);have L:=λk=>frozen_ext j (Q.out.2.2.2.2 k) rs;have l:w.heap.size+1<wr.heap.size:=Nat.lt_of_lt_of_le rs j.size;have b:=Lib.hid (And.intro F (And.intro G (And.intro H (And.intro I L))));clear F G H I L;by_cases A:J<P.orders.length
       ·have bi:(J:Int)<P.orders.length:=by omega
        go_wp2_with fail
        refine Calls.mono (l07Unit_ok P.orders.length J wr A (by omega)) ?_;rintro eU wU ⟨vU,rfl,oO,j3⟩;have a0:=j3.ints (by rw[(unitV_vec hP J).1];omega);have aQ:=hP.ord7 i hi;have cU:0<=gt P.orders i:=by omega
        have cV:gt P.orders i<=7:=aQ.2;clear aQ;go_wp2;obtain⟨wo,rfl⟩:∃wo:World,wo=wr:=⟨_,rfl⟩;go_loopw [17,18] (λxv mv w2=>∃m:Nat,mv=.int .i64 m/\m<=(gt P.orders i).toNat/\Ext wU w2/\Ints Any w2 xv (iter m (λx=>rImage P f i x) (unitV P.orders.length J))) (λ_ mv _=>(gt P.orders i).toNat-(intOf mv).toNat)
        case atStart=>exact⟨0,rfl,by omega,Ext.refl _,a0⟩
        case round=>
         obtain⟨m,rfl,hm,hg2,hX⟩:=hrel;have aI:=grown_trans oO hg2;have cg:=grown_trans j aI;have bD:Vec P.orders (iter m (λx=>rImage P f i x) (unitV P.orders.length J)):=iter_inv (Vec P.orders) _ (λy hy=>rImage_vec hP f i O y) _ _ (unitV_vec hP J);have a1:=Lib.hid bD;clear bD;obtain⟨al,iF,iZ,_,_,hb1,B,C,e⟩:=(aj.ext cg).at;obtain⟨cX,capo5,rfl,_,_⟩:=e.o.shape;obtain⟨bo,oo,rfl,_,_,gh⟩:=Ints.at e.o i hi;by_cases cw:(m:Int)<gt P.orders i
         ·go_wp2_with fail
          refine Calls.mono (l08Image_of P hP f (l08At_ok P hP f) wr _ _ i _ Any Any O ⟨_,_,_,rfl,e⟩ hX a1.out) ?_;rintro eA Z ⟨vA,rfl,q,u⟩;have bE:=rImage_vec hP f i O (iter m (λx=>rImage P f i x) (unitV P.orders.length J));have bF:=u.ints (by rw[bE.1];omega);clear bE hb1 B C gh;go_wp2;go_roundw
          case rel=>exact⟨m+1,by go_num,by omega,grown_trans hg2 q,bF⟩
          case measure=>simp[intOf];omega
         ·have bG:m=(gt P.orders i).toNat:=by omega
          have a2:=a1.out;have bH:Ints Any wr u17 (iter (gt P.orders i).toNat (λx=>rImage P f i x) (unitV P.orders.length J)):=by rw[<-bG];exact hX
          rw[bG] at a2;have a3:=Lib.hid a2;clear a2 hX a1;have W:=(rAt_vec hP f (i+1) _ _ (by omega) ab.out a3.out).1;have X:=(rAt_vec hP f (i+1) _ _ (by omega) (unitV_vec hP J) ab.out).1;have Y:=Lib.hid (And.intro W X);clear W X;have s3:IntKind.i64.wrap ((i:Int)+1)=(i:Int)+1:=IntWalk.i64_in _ (by omega);have aJ:Ints Any wr (.slice am (gt P.powers i).length D) (gt P.powers i):=Ints.ext ax (grown_trans bB aI);have bI:Ints Any wr vU (unitV P.orders.length J):=a0.ext hg2;have f1:∀w',Ext wr w'->w'.cell? ⟨w.heap.size,0,none⟩=some (.slice (some ⟨bo,oo,none⟩) P.orders.length capo5):=λw' h=>h.cell hb1 (by simp);have f2:∀w',Ext wr w'->w'.cell? ⟨w.heap.size,1,none⟩=some iF:=λw' h=>h.cell (by simpa using B) (by simp);have f3:∀w',Ext wr w'->w'.cell? ⟨w.heap.size,2,none⟩=some iZ:=λw' h=>h.cell (by simpa using C) (by simp);clear ax a0 j3;go_wp2;clear hb1 B C gh;cases hq:eqB (rAt P f (i+1) (gt P.powers i) (iter (gt P.orders i).toNat (λx=>rImage P f i x) (unitV P.orders.length J))) (rAt P f (i+1) (unitV P.orders.length J) (gt P.powers i)) with
          | true=>
           have a4:=Lib.hid hq
           go_region_held3 (λw'=>Ext wr w') (first|exact grown_drew _ _|assumption)
            (first
             | (go_at_call_of 346 (vU);refine Calls.mono (Calls.rel2 (w0:=wr) (by assumption) (l08At_ok P hP f _ _ _ _ (i+1) _ _ Any Any Any (by omega) ⟨_,_,_,rfl,Pres3.ext e (by assumption)⟩ (Ints.ext bI (by assumption)) (Ints.ext aJ (by assumption)) (unitV_vec hP J) ab.out)) ?_;rintro eG wG ⟨vG,rfl,jP,M,kM,iO⟩;have r:=(u.ext0 M).ints (by rw[Y.out.1];omega);have N:=iO.ints (by rw[Y.out.2];omega))
             | (go_at_call 346;refine Calls.mono (Calls.rel (w0:=wr) (by assumption) (l08At_ok P hP f _ _ _ _ (i+1) _ _ Any Any Any (by omega) ⟨_,_,_,rfl,Pres3.ext e (by assumption)⟩ (Ints.ext aJ (by assumption)) (Ints.ext bH (by assumption)) ab.out a3.out)) ?_;rintro eA Z ⟨vA,rfl,q,hsA,u⟩)
             | (go_at_call 250;refine Calls.mono (Calls.rel (w0:=wr) (by assumption) (l01Same_ok _ _ _ _ _ Any Any r N)) ?_;rintro eB wB ⟨vB,rfl,iP,hsB,rfl⟩))
           clear f1 f2 f3;have a:Ext wo wB:=grown_trans aI iP;go_wp2;go_roundw
           case rel=>exact⟨J+1,by go_num,by omega,by omega,grown_trans j a,grown_trans bB a,λm h1 h2=>by
            rcases Nat.lt_or_ge m J with h3|h3
            ·exact bC.out m h1 h3
            ·have:m=J:=by omega
             rw[this];exact eqB_true.1 a4.out⟩
           case measure=>simp[intOf];omega
          | false=>
           have a4:=Lib.hid hq
           go_region_held3 (λw'=>Ext wr w') (first|exact grown_drew _ _|assumption)
            (first
             | (go_at_call_of 346 (vU);refine Calls.mono (Calls.rel2 (w0:=wr) (by assumption) (l08At_ok P hP f _ _ _ _ (i+1) _ _ Any Any Any (by omega) ⟨_,_,_,rfl,Pres3.ext e (by assumption)⟩ (Ints.ext bI (by assumption)) (Ints.ext aJ (by assumption)) (unitV_vec hP J) ab.out)) ?_;rintro eG wG ⟨vG,rfl,jP,M,kM,iO⟩;have r:=(u.ext0 M).ints (by rw[Y.out.1];omega);have N:=iO.ints (by rw[Y.out.2];omega))
             | (go_at_call 346;refine Calls.mono (Calls.rel (w0:=wr) (by assumption) (l08At_ok P hP f _ _ _ _ (i+1) _ _ Any Any Any (by omega) ⟨_,_,_,rfl,Pres3.ext e (by assumption)⟩ (Ints.ext aJ (by assumption)) (Ints.ext bH (by assumption)) ab.out a3.out)) ?_;rintro eA Z ⟨vA,rfl,q,hsA,u⟩)
             | (go_at_call 250;refine Calls.mono (Calls.rel (w0:=wr) (by assumption) (l01Same_ok _ _ _ _ _ Any Any r N)) ?_;rintro eB wB ⟨vB,rfl,iP,hsB,rfl⟩))
           clear f1 f2 f3;have a:Ext wo wB:=grown_trans aI iP;have c0:=a.cell b.out.1 (by simp);have c1:=a.cell b.out.2.1 (by simp);have c2:=a.cell b.out.2.2.1 (by simp);have c3:=a.cell b.out.2.2.2.1 (by simp);have aA:=frozen_ext a (b.out.2.2.2.2 0) l;have aB:=frozen_ext a (b.out.2.2.2.2 1) l;have aC:=frozen_ext a (b.out.2.2.2.2 2) l;have aD:=frozen_ext a (b.out.2.2.2.2 3) l;go_wp2;refine bodyPost_ret (v := .agg #[.int .i64 4,.int .i64 i,.int .i64 J,.int .i64 0]) (by simp[results,Tryz.results352,go_sem,c0,c1,c2,c3]) rfl ⟨_,rfl,ext_set4 (grown_trans U (grown_trans j a)) (by omega) _ _ _ _,.inr ⟨λh=>eqB_false.1 a4.out (h.c4 J (by omega) A),_,_,_,_,by decide,rfl⟩⟩
       ·have ch:J=P.orders.length:=by omega
        subst ch;have c0:=b.out.1;have c1:=b.out.2.1;have c2:=b.out.2.2.1;have c3:=b.out.2.2.2.1;have aA:=b.out.2.2.2.2 0;have aB:=b.out.2.2.2.2 1;have aC:=b.out.2.2.2.2 2;have aD:=b.out.2.2.2.2 3;go_wp2;refine bodyPost_ret (v := .agg #[.int .i64 0,.int .i64 0,.int .i64 0,.int .i64 0]) (by simp[results,Tryz.results352,go_sem,c0,c1,c2,c3]) rfl ⟨_,rfl,ext_set4 (grown_trans U j) (by omega) _ _ _ _,.inl ⟨⟨bV.out,ca.out,HQ.out,bC.out⟩,rfl⟩⟩
      -->P4
def IAll (P:Pr):Prop:=∀k,k<P.orders.length->ILevel P k
def RAll (P:Pr):Prop:=∀k,k<P.orders.length->RLevel P (P.orders.length-1-k) k
open Classical in
noncomputable def iconsB (P:Pr):Bool:=decide (Valid P/\IAll P)
open Classical in
noncomputable def rconsB (P:Pr):Bool:=decide (Valid P/\RAll P)
theorem l08Fault_ok (P:Pr) (hP:Valid P) (w:World) (pv:Value) (Sp:Nat->Prop) (H:PresV Sp w pv P) :
  Calls Tryz.prog 306 #[pv] w (Ret w λ_ v=>FaultR (RAll P) v):=by
 have ad:=hP.n6;obtain⟨vo,vp,vc,rfl,G⟩:=H;have r:=PresP.box G 28;have l:Ext w ((w.alloc (.cells #[vo,vp,vc] 28)).alloc (.cells #[.int .i64 0,.int .i64 0,.int .i64 0,.int .i64 0] 174)):=grown_trans (World.grownBy_alloc _ _ _) (World.grownBy_alloc _ _ _);have u:=r.ext (World.grownBy_alloc (w.alloc (.cells #[vo,vp,vc] 28)) (.cells #[.int .i64 0,.int .i64 0,.int .i64 0,.int .i64 0] 174) none);obtain⟨ao,capo,dM,hoi⟩:=u.ordAt;go_enter Tryz.func306,Tryz.ntmps306;go_wp2;clear dM hoi;have b:(w.alloc (.cells #[vo,vp,vc] 28)).heap.size=w.heap.size+1:=by simp
 have R:((w.alloc (.cells #[vo,vp,vc] 28)).alloc (.cells #[.int .i64 0,.int .i64 0,.int .i64 0,.int .i64 0] 174)).cell? ⟨w.heap.size+1,0,none⟩=some (.int .i64 0):=by rw[World.cell?_alloc_at _ _ _ _ b.symm];rfl
 have S:((w.alloc (.cells #[vo,vp,vc] 28)).alloc (.cells #[.int .i64 0,.int .i64 0,.int .i64 0,.int .i64 0] 174)).cell? ⟨w.heap.size+1,1,none⟩=some (.int .i64 0):=by rw[World.cell?_alloc_at _ _ _ _ b.symm];rfl
 have U:((w.alloc (.cells #[vo,vp,vc] 28)).alloc (.cells #[.int .i64 0,.int .i64 0,.int .i64 0,.int .i64 0] 174)).cell? ⟨w.heap.size+1,2,none⟩=some (.int .i64 0):=by rw[World.cell?_alloc_at _ _ _ _ b.symm];rfl
 have V:((w.alloc (.cells #[vo,vp,vc] 28)).alloc (.cells #[.int .i64 0,.int .i64 0,.int .i64 0,.int .i64 0] 174)).cell? ⟨w.heap.size+1,3,none⟩=some (.int .i64 0):=by rw[World.cell?_alloc_at _ _ _ _ b.symm];rfl
 have W:∀k,((w.alloc (.cells #[vo,vp,vc] 28)).alloc (.cells #[.int .i64 0,.int .i64 0,.int .i64 0,.int .i64 0] 174)).frozen? ⟨w.heap.size+1,k,none⟩=false:=λk=>World.frozen?_alloc_at _ _ _ _ b.symm;have rs:w.heap.size+1<((w.alloc (.cells #[vo,vp,vc] 28)).alloc (.cells #[.int .i64 0,.int .i64 0,.int .i64 0,.int .i64 0] 174)).heap.size:=by simp
 clear b r;generalize (w.alloc (.cells #[vo,vp,vc] 28)).alloc (.cells #[.int .i64 0,.int .i64 0,.int .i64 0,.int .i64 0] 174)=w0 at *;have y:=Lib.hid (And.intro R (And.intro S (And.intro U (And.intro V W))));clear R S U V W;go_loopw [3] (λI wr=>∃c:Nat,I=.int .i64 ((c:Int)-1)/\c<=P.orders.length/\Ext w0 wr/\∀m,c<=m->m<P.orders.length->RLevel P (P.orders.length-1-m) m) (λI _=>(intOf I+1).toNat)
 case atStart=>exact⟨P.orders.length,by go_num,by omega,Ext.refl _,λm h1 X=>by omega⟩
 case round=>
  obtain⟨c,rfl,hc,e,jQ⟩:=hrel;have z:=Lib.hid jQ;clear jQ;have A:=e.cell y.out.1 (by simp);have B:=e.cell y.out.2.1 (by simp);have C:=e.cell y.out.2.2.1 (by simp);have D:=e.cell y.out.2.2.2.1 (by simp);have E:=λk=>frozen_ext e (y.out.2.2.2.2 k) rs;have i:w.heap.size+1<wr.heap.size:=Nat.lt_of_lt_of_le rs e.size;have a:=Lib.hid (And.intro A (And.intro B (And.intro C (And.intro D E))));clear A B C D E;by_cases Y:1<=c
  ·obtain ⟨c1,rfl⟩:∃c1,c=c1+1:=⟨c-1,by omega⟩
   have Z:((c1+1:Nat):Int)-1=c1:=by omega
   rw[Z];obtain⟨ae,iF,iZ,_,_,hb1,hb2,hb3,kN⟩:=(u.ext e).at;simp at hb2 hb3
   go_wp2_with fail
   refine Calls.mono (l08Level_ok P hP wr _ c1 (P.orders.length-1-c1) _ ⟨_,_,_,rfl,kN⟩ (by omega)) ?_;rintro eA wA ⟨vA,rfl,p,J⟩;clear hb1 hb2 hb3 Z;have gA:=grown_trans p (World.grownBy_alloc wA (.cells #[.int .i64 0,.int .i64 0,.int .i64 0,.int .i64 0] 174) none);rcases J with⟨q,hv⟩|⟨F,k0,k1,k2,k3,hk,rfl⟩
   ·unfold fault0 at hv
    subst hv;go_wp2;go_roundw
    case rel=>exact⟨c1,by go_num,by omega,grown_trans e (grown_trans p (World.grownBy_alloc _ _ _)),λm h1 X=>by
     rcases Nat.lt_or_ge c1 m with G|G
     ·exact z.out m G X
     ·have:m=c1:=by omega
      rw[this];exact q⟩
    case measure=>simp[intOf]
   ·have j:Ext wr (wA.alloc (.cells #[.int .i64 k0,.int .i64 k1,.int .i64 k2,.int .i64 k3] 174)):=grown_trans p (World.grownBy_alloc _ _ _)
    have c0:=j.cell a.out.1 (by simp);have K:=j.cell a.out.2.1 (by simp);have c2:=j.cell a.out.2.2.1 (by simp);have c3:=j.cell a.out.2.2.2.1 (by simp);have L:=frozen_ext j (a.out.2.2.2.2 0) i;have M:=frozen_ext j (a.out.2.2.2.2 1) i;have N:=frozen_ext j (a.out.2.2.2.2 2) i;have O:=frozen_ext j (a.out.2.2.2.2 3) i;go_wp2;refine bodyPost_ret (v := .agg #[.int .i64 k0,.int .i64 k1,.int .i64 k2,.int .i64 k3]) (by simp[results,Tryz.results306,go_sem,c0,K,c2,c3]) rfl ⟨_,rfl,ext_set4 (grown_trans l (grown_trans e j)) (by omega) _ _ _ _,.inr ⟨λh=>F (h c1 (by omega)),_,_,_,_,hk,rfl⟩⟩
  ·have Q:c=0:=by omega
   subst Q;have c0:=a.out.1;have c1:=a.out.2.1;have c2:=a.out.2.2.1;have c3:=a.out.2.2.2.1;have L:=a.out.2.2.2.2 0;have M:=a.out.2.2.2.2 1;have N:=a.out.2.2.2.2 2;have O:=a.out.2.2.2.2 3;go_wp2;refine bodyPost_ret (v := .agg #[.int .i64 0,.int .i64 0,.int .i64 0,.int .i64 0]) (by simp[results,Tryz.results306,go_sem,c0,c1,c2,c3]) rfl ⟨_,rfl,ext_set4 (grown_trans l e) (by omega) _ _ _ _,.inl ⟨λm h=>z.out m (by omega) h,rfl⟩⟩
open Classical in
theorem faultR_of {e:Prop}{v:Value}(h:FaultR e v):∃a b c d:Int,v=.agg #[.int .i64 a,.int .i64 b,.int .i64 c,.int .i64 d]/\(a == 0)=decide e:=by
 rcases h with⟨i,rfl⟩|⟨j,a,b,c,d,ha,rfl⟩
 ·exact⟨0,0,0,0,rfl,by simp[i]⟩
 ·exact⟨a,b,c,d,rfl,by simp[j,ha]⟩
open Classical in
theorem l08Consistent_ok (P:Pr) (hP:Valid P) (w:World) (pv:Value) (j:Nat->Prop) (e:PresV j w pv P) :
  Calls Tryz.prog 232 #[pv] w (Ret w λ_ v=>v=.bool (decide (RAll P))):=by
 obtain⟨vo,vp,vc,rfl,h3⟩:=e;have k:=PresP.box h3 28;have i:Ext w (w.alloc (.cells #[vo,vp,vc] 28)):=World.grownBy_alloc _ _ _;go_enter Tryz.func232,Tryz.ntmps232;go_wp2_with fail
 refine Calls.mono (l08Fault_ok P hP _ _ _ ⟨_,_,_,rfl,Pres3.ext h3 (World.grownBy_alloc _ _ _)⟩) ?_;rintro m p ⟨q,rfl,eu,oP⟩;obtain⟨a,b,c,d,rfl,hab⟩:=faultR_of oP;have l:∀w:World,(Instr.field 174 (.agg #[.int .i64 a,.int .i64 b,.int .i64 c,.int .i64 d]) 0).run Tryz.prog w=.ok (.int .i64 a) w:=λ_=>by kernel_rfl
 go_wp2;exact bodyPost_ret (v := .bool (decide (RAll P))) (by simp[results,Tryz.results232,go_sem]) rfl ⟨_,rfl,grown_trans i eu,rfl⟩
open Classical in
theorem l08Group_ok (P:Pr) (w:World) (pv:Value) (l:Nat->Prop) (i:PresV l w pv P) :
  Calls Tryz.prog 140 #[pv] w (Ret w λ_ v=>v=.bool (rconsB P)):=by
 obtain⟨vo,vp,vc,rfl,h3⟩:=i;have j:=PresP.box h3 28;have b:Ext w (w.alloc (.cells #[vo,vp,vc] 28)):=World.grownBy_alloc _ _ _;go_enter Tryz.func140,Tryz.ntmps140;go_wp2_with fail
 refine Calls.mono (sIsPresentation_ok _ _ P _ ⟨_,_,_,rfl,Pres3.ext h3 (World.grownBy_alloc _ _ _)⟩) ?_;rintro p q ⟨r,rfl,a,rfl⟩;obtain⟨m,iF,iZ,_,_,hb1,hb2,hb3,kN⟩:=(j.ext a).at;simp at hb2 hb3
 by_cases e:Valid P
 ·have h1:validB P=true:=by simp[validB,e]
  rw[h1];go_wp2_with fail
  refine Calls.mono (l08Consistent_ok P e _ _ _ ⟨_,_,_,rfl,kN⟩) ?_;rintro u y ⟨z,rfl,k,rfl⟩;go_wp2;exact bodyPost_ret (v := .bool (rconsB P)) (by simp[results,Tryz.results140,go_sem,rconsB,e]) rfl ⟨_,rfl,grown_trans b (grown_trans a k),rfl⟩
 ·have h1:validB P=false:=by simp[validB,e]
  rw[h1];go_wp2;exact bodyPost_ret (v := .bool (rconsB P)) (by simp[results,Tryz.results140,go_sem,rconsB,e]) rfl ⟨_,rfl,grown_trans b a,rfl⟩
def IFrom (P:Pr) (c:Nat):Prop:=c<=P.orders.length/\(∀m,c<=m->m<P.orders.length->ILevel P m)/\(0<c->¬ILevel P (c-1))
open Classical in
theorem consistentFrom_ok (P:Pr) (hP:Valid P) (w:World) (p:Value) (z:Nat->Prop) (j:PresP z w p P) :
  Calls Tryz.prog 94 #[p] w (Ret w λ_ v=>∃c:Nat,v=.int .i64 c/\IFrom P c):=by
 have A:=hP.n6;obtain⟨pb,po,rfl,_⟩:=j.shape;obtain⟨B,capo,dM,hoi⟩:=j.ordAt;go_enter Tryz.func94,Tryz.ntmps94;go_wp2;clear dM hoi;go_loopw [3] (λk wr=>∃c:Nat,k=.int .i64 (c:Int)/\c<=P.orders.length/\Ext w wr/\∀m,c<=m->m<P.orders.length->ILevel P m) (λk _=>(intOf k).toNat)
 case atStart=>exact⟨P.orders.length,by go_num,by omega,Ext.refl _,λm h1 r=>by omega⟩
 case round=>
  obtain⟨c,rfl,hc,i,jQ⟩:=hrel;have a:=Lib.hid jQ;clear jQ;by_cases u:1<=c
  ·obtain ⟨c1,rfl⟩:∃c1,c=c1+1:=⟨c-1,by omega⟩
   go_wp2_with fail
   refine Calls.mono (levelFault_ok P hP wr _ c1 _ (j.ext i) (by omega)) ?_;rintro C D ⟨E,rfl,eu,l⟩;rcases l with⟨b,hv⟩|⟨e,k0,k1,k2,k3,hk,rfl⟩
   ·unfold fault0 at hv
    subst hv;go_wp2;go_roundw
    case rel=>exact⟨c1,by go_num,by omega,grown_trans i eu,λm h1 r=>by
     rcases Nat.lt_or_ge c1 m with y|y
     ·exact a.out m y r
     ·have:m=c1:=by omega
      rw[this];exact b⟩
    case measure=>simp[intOf]
   ·go_wp2
    exact bodyPost_ret (v := .int .i64 ((c1+1:Nat):Int)) (by simp[results,Tryz.results94,go_sem]) rfl ⟨_,rfl,grown_trans i eu,c1+1,rfl,hc,a.out,λ_=>by simpa using e⟩
  ·have q:c=0:=by omega
   subst q;go_wp2;exact bodyPost_ret (v := .int .i64 ((0:Nat):Int)) (by simp[results,Tryz.results94,go_sem]) rfl ⟨_,rfl,i,0,rfl,by omega,a.out,λh=>by omega⟩
open Classical in
theorem isConsistent_ok (P:Pr) (w:World) (pv:Value) (m:Nat->Prop) (i:PresV m w pv P) :
  Calls Tryz.prog 21 #[pv] w (Ret w λ_ v=>v=.bool (iconsB P)):=by
 obtain⟨vo,vp,vc,rfl,h3⟩:=i;have j:=PresP.box h3 28;have b:Ext w (w.alloc (.cells #[vo,vp,vc] 28)):=World.grownBy_alloc _ _ _;go_enter Tryz.func21,Tryz.ntmps21;go_wp2_with fail
 refine Calls.mono (isPresentation_ok _ _ P _ ⟨_,_,_,rfl,Pres3.ext h3 (World.grownBy_alloc _ _ _)⟩) ?_;rintro r u ⟨y,rfl,a,rfl⟩;by_cases e:Valid P
 ·have h1:validB P=true:=by simp[validB,e]
  rw[h1];go_wp2_with fail
  refine Calls.mono (consistentFrom_ok P e _ _ _ (j.ext a)) ?_;rintro z A ⟨B,rfl,l,c,rfl,hc⟩
  have p:((c:Int) == 0)=iconsB P:=by
   obtain⟨q,hc2,hc3⟩:=hc;cases c with
   | zero=>simp[iconsB,e];exact λk hk=>hc2 k (Nat.zero_le _) hk
   | succ c=>
    have:iconsB P=false:=by
     simp only[iconsB,decide_eq_false_iff_not];rintro⟨_,h⟩;exact hc3 (by omega) (h c (by omega))
    rw[this];simp;omega
  go_wp2;exact bodyPost_ret (v := .bool (iconsB P)) (by simp[results,Tryz.results21,go_sem]) rfl ⟨_,rfl,grown_trans b (grown_trans a l),rfl⟩
 ·have h1:validB P=false:=by simp[validB,e]
  rw[h1];go_wp2;exact bodyPost_ret (v := .bool (iconsB P)) (by simp[results,Tryz.results21,go_sem,iconsB,e]) rfl ⟨_,rfl,grown_trans b a,rfl⟩
end Go.Proofs.YtldheeicjnncoaaGreat
namespace Go.Proofs.YtldheeicjnncoaaGreat
def T (P:Pr) (i:Nat) (x:List Int):Prop:=Vec P.orders x/\∀k,k<i->gt x k=0
theorem T.up {P:Pr}{i:Nat}{x:List Int}(h:T P i x) (a:gt x i=0):T P (i+1) x:=⟨h.1,λk hk=>by
 rcases Nat.lt_succ_iff_lt_or_eq.1 hk with h1|h1
 ·exact h.2 k h1
 ·rw[h1];exact a⟩
theorem T.down {P:Pr}{i j:Nat}{x:List Int}(h:T P j x) (a:i<=j):T P i x:=⟨h.1,λk hk=>h.2 k (by omega)⟩
theorem T.of_zeroTo {P:Pr}{i:Nat}{x:List Int}(h:Vec P.orders x) (a:ZeroTo i x):T P (i+1) x:=⟨h,λk hk=>a k (by omega)⟩
theorem T.zeros {P:Pr}(hP:Valid P) (i:Nat):T P i (zeros P.orders.length):=⟨zeros_vec hP,λ_ _=>gt_replicate _ _⟩
theorem T.drop {P:Pr}(hP:Valid P) {i:Nat}(hi:i<P.orders.length) {x:List Int}(h:T P i x):T P (i+1) (x.set i 0):=by
 have a:=hP.ord7 i hi;refine⟨h.1.set i 0 ⟨by omega,λ_=>by omega⟩,λk hk => ?_⟩;by_cases e:i=k
 ·subst e;rw[gt_set_eq _ _ _ (by rw[h.1.1];exact hi)]
 ·rw[gt_set_ne _ _ _ _ e];exact h.2 k (by omega)
theorem T.put {P:Pr}{i:Nat}{x:List Int}(h:T P (i+1) x) {a:Int}(ha:0<=a/\(i<P.orders.length->a<gt P.orders i)):T P i (x.set i a):=
 ⟨h.1.set i a ha,λk hk=>by rw[gt_set_ne _ _ _ _ (by omega)];exact h.2 k (by omega)⟩
theorem gt_set_if {α:Type} [Inhabited α] (l:List α) (i j:Nat) (x:α) (a:j<l.length):gt (l.set i x) j=if i=j then x else gt l j:=by
 by_cases h:i=j
 ·subst h;rw[gt_set_eq _ _ _ a,if_pos rfl]
 ·rw[gt_set_ne _ _ _ _ h,if_neg h]
theorem gt_unit (n j k:Nat) (hk:k<n):gt (unitV n j) k=if j=k then 1 else 0:=by
 unfold unitV;rw[gt_set_if _ _ _ _ (by simpa using hk),gt_replicate]
theorem T.unit {P:Pr}(hP:Valid P) {i j:Nat}(a:i<=j) (b:j<P.orders.length):T P i (unitV P.orders.length j):=
 ⟨unitV_vec hP j,λk hk=>by rw[gt_unit _ _ _ (by omega),if_neg (by omega)]⟩
theorem Vec.ext {o x y:List Int}(hx:Vec o x) (hy:Vec o y) (h:∀k,k<o.length->gt x k=gt y k):x=y:=
 ext_gt (by rw[hx.1,hy.1]) (λk hk=>h k (by rw[<-hx.1];exact hk))
theorem T.top {P:Pr}(hP:Valid P) {x:List Int}(h:T P P.orders.length x):x=Go.Proofs.YtldheeicjnncoaaGreat.zeros P.orders.length:=
 Vec.ext h.1 (zeros_vec hP) (λk hk=>by rw[h.2 k hk];exact(gt_replicate _ _).symm)
theorem rAt_T {P:Pr}(hP:Valid P) (f:Nat):∀i A B,i+f=P.orders.length->Vec P.orders A->Vec P.orders B->T P i (rAt P f i A B):=by
 induction f with
 | zero=>intro i A B _ _ _;exact T.zeros hP i
 | succ f b=>
  intro i A B hi a hB;refine⟨rAt_vec hP _ i A B hi a hB,λk hk => ?_⟩;have q:=hP.ord7 i (by omega);have e:=a.2 i (by omega);have j:=hB.2 i (by omega)
  have m:Vec P.orders (iter (gt B i).toNat (λl=>rImgTo (rAt P f (i+1)) (gt P.conj i) i l (zeros P.orders.length) f) (A.set i 0)):=
   iter_inv (Vec P.orders) _ (λy hy=>rImgTo_vec hP f i hi (rAt_vec hP f) _ _ (zeros_vec hP) f (Nat.le_refl _)) _ _ (a.set i 0 ⟨by omega,λ_=>by omega⟩)
  have p:Vec P.orders (B.set i 0):=hB.set i 0 ⟨by omega,λ_=>by omega⟩;have hr:=b (i+1) _ _ (by omega) m p;simp only[rAt];split
  ·rw [gt_set_ne _ _ _ _ (by omega)]
   exact(b (i+1) _ _ (by omega) (hP.pv i (by omega)).1 hr.1).2 k (by omega)
  ·rw [gt_set_ne _ _ _ _ (by omega)]
   exact hr.2 k (by omega)
theorem tg_T {P:Pr}(hP:Valid P) {i:Nat}{E:List Int}(hE:T P i E) {j:Nat}(b:i<=j) (a:j<P.orders.length):T P i (tg P E j):=
 ⟨tg_vec hP E j hE.1 a,λk hk=>by
  have:=(tgen_entries hP P.orders.length E j hE.1 a (by omega)).1 k (by omega);have e:gt (tg P E j) k=gt E k:=this;rw[e];exact hE.2 k hk⟩
theorem tv_T {P:Pr}(hP:Valid P) {i:Nat}{E F:List Int}(hE:T P i E) (hF:T P i F):T P i (tv P E F):=by
 unfold tv tvec;rw[tvecTo_acc,hF.1.1];refine acc_inv (T P i) _ _ _ _ _ hE (λy j hy _ b a=>tg_T hP hy ?_ (by omega));have:¬j<i:=λh=>a (hF.2 j h);omega
structure Lvl (P:Pr) (f i:Nat):Prop where
 grp:GrpOn (T P i) (rAt P f i) (zeros P.orders.length)
 nf:∀x,T P i x->npr (rAt P f i) (unitV P.orders.length) x i (zeros P.orders.length) f=x
 rel:Holds P (T P i) (rAt P f i) (zeros P.orders.length) (unitV P.orders.length) i
theorem Lvl.top {P:Pr}(hP:Valid P):Lvl P 0 P.orders.length:=by
 have e:=T.zeros hP P.orders.length;refine⟨⟨⟨λ_ _ _ _=>e,e,λ_ _ _ _ _ _=>rfl,λx hx=>(hx.top hP).symm,λx hx=>(hx.top hP).symm⟩,λx _=>⟨_,e,rfl,rfl⟩⟩,λx hx => ?_,⟨λj a b=>by omega,λj a b=>by omega,λj k a b c=>by omega⟩⟩;exact(hx.top hP).symm
section
variable {P:Pr}{f i:Nat}
theorem Lvl.tv_eq (hP:Valid P) (hi:i+f=P.orders.length) (L:Lvl P f i) {E F:List Int}(hE:T P i E) (hF:T P i F):tv P E F=rAt P f i E F:=by
 have h:=vd_tv hP L.grp.toMonOn (by omega) L.rel E F hE.1 hF.1 hF.2;rw[show P.orders.length-i=f by omega,L.nf _ hE,L.nf _ hF,L.nf _ (tv_T hP hE hF)] at h;exact h
theorem Lvl.tg_eq (hP:Valid P) (hi:i+f=P.orders.length) (L:Lvl P f i) {E:List Int}(hE:T P i E) {j:Nat}(a:i<=j) (b:j<P.orders.length):tg P E j=rAt P f i E (unitV P.orders.length j):=by
 have h:=vd_tg hP L.grp.toMonOn L.rel E j hE.1 a b;rw[show P.orders.length-i=f by omega,L.nf _ hE,L.nf _ (tg_T hP hE a b)] at h;exact h
theorem Lvl.iPow_eq (hP:Valid P) (hi:i+f=P.orders.length) (L:Lvl P f i) {a:List Int}(ha:T P i a) (k:Int):iPow P a k=iter k.toNat (λy=>rAt P f i y a) (zeros P.orders.length):=by
 unfold iPow;rw[ha.1.1];exact iter_congr (T P i) _ _ (λx hx=>tv_T hP hx ha) (λx hx=>L.tv_eq hP hi hx ha) _ _ (T.zeros hP i)
theorem rRepF_pow {S:List Int->Prop}{m:List Int->List Int->List Int}{e:List Int}(M:MonOn S m e):∀(f:Nat) (out base:List Int) (k:Nat),S out->S base->k<=f ->
  rRepF m f out base k=m out (iter k (λy=>m y base) e):=by
 intro f;induction f with
 | zero=>
  intro out base k i a hk;have:k=0:=by omega
  subst this;exact(M.er out i).symm
 | succ f r=>
  intro out base k i a hk;simp only[rRepF];split
  ·rename_i h;subst h;exact(M.er out i).symm
  ·rename_i h
   have j:=M.cl _ _ a a
   have l:∀q,iter q (λy=>m y (m base base)) e=iter (2*q) (λy=>m y base) e:=by
    intro q;induction q with
    | zero=>rfl
    | succ q p=>
     show m (iter q (λy=>m y (m base base)) e) (m base base)=m (m (iter (2*q) (λy=>m y base) e) base) base
     rw[p,M.ass _ _ _ (M.pow_cl a M.one _) a a]
   by_cases b:k%2=1
   ·rw [if_pos b,r _ _ _ (M.cl _ _ i a) j (by omega),l,M.ass _ _ _ i a (M.pow_cl a M.one _)]
    congr 1
    have h1:=M.pow_add a 1 (2*(k/2));rw[show 1+2*(k/2)=k by omega] at h1;rw[h1];show m base _=m (m e base) _
    rw[M.el base a]
   ·rw[if_neg b,r _ _ _ i j (by omega),l,show 2*(k/2)=k by omega]
theorem Lvl.rRep_eq (L:Lvl P f i) {a:List Int}(ha:T P i a) (k:Nat):rRep (rAt P f i) (zeros P.orders.length) a k=iter k (λy=>rAt P f i y a) (zeros P.orders.length):=by
 unfold rRep;rw[rRepF_pow L.grp.toMonOn k _ _ k L.grp.one ha (Nat.le_refl _)];exact L.grp.el _ (L.grp.toMonOn.pow_cl ha L.grp.one k)
theorem Lvl.iInv_eq (hP:Valid P) (hi:i+f=P.orders.length) (L:Lvl P f i) {a:List Int}(ha:T P i a):T P i (iInv P a)/\rAt P f i a (iInv P a)=zeros P.orders.length:=by
 have key:∀k,k<=P.orders.length->T P i (invTo P a k).1/\T P i (invTo P a k).2/\(invTo P a k).1=rAt P f i a (invTo P a k).2/\∀l,l<k->gt (invTo P a k).1 l=0:=by
  intro k;induction k with
  | zero=>
   intro _;refine⟨ha,by simp only[invTo];rw[ha.1.1];exact T.zeros hP i,?_,λl j=>by omega⟩;simp only[invTo];rw[ha.1.1];exact(L.grp.er a ha).symm
  | succ k u=>
   intro hk;obtain⟨h1,h2,p,h4⟩:=u (by omega);simp only[invTo];by_cases q:gt (invTo P a k).1 k=0
   ·have w:left_ (gt P.orders k) (gt (invTo P a k).1 k)=0:=by unfold left_;rw[if_pos q]
    rw[w];refine⟨h1,h2,p,λl j => ?_⟩;rcases Nat.lt_succ_iff_lt_or_eq.1 j with h|h
    ·exact h4 l h
    ·rw[h];exact q
   ·have b:i<=k:=by
     have:¬k<i:=λh=>q (h1.2 k h);omega
    have z:=iter_rel (λ(x y:List Int)=>T P i x/\T P i y/\x=rAt P f i a y/\∀l,l<k->gt x l=0) (λe=>tg P e k) (λe=>tg P e k) (by
     rintro x y ⟨m,g2,g3,g4⟩;refine⟨tg_T hP m b (by omega),tg_T hP g2 b (by omega),?_,λl j => ?_⟩
     ·show tg P x k=rAt P f i a (tg P y k)
      rw[L.tg_eq hP hi m b (by omega),L.tg_eq hP hi g2 b (by omega),g3,L.grp.ass _ _ _ ha g2 (T.unit hP b (by omega))]
     ·have A:=(tgen_entries hP P.orders.length x k m.1 (by omega) (by omega)).1 l j
      have B:gt (tg P x k) l=gt x l:=A;show gt (tg P x k) l=0
      rw[B];exact g4 l j) (left_ (gt P.orders k) (gt (invTo P a k).1 k)) _ _ ⟨h1,h2,p,h4⟩
    obtain⟨m,g2,g3,g4⟩:=z;refine⟨m,g2,g3,λl j => ?_⟩;rcases Nat.lt_succ_iff_lt_or_eq.1 j with h|h
    ·exact g4 l h
    ·have r:=(iter_tg hP (invTo P a k).1 k (by omega) h1.1 q _ (Nat.le_refl _)).2
     rw[if_pos rfl] at r;rw[h];exact r
 obtain⟨h1,h2,p,h4⟩:=key P.orders.length (Nat.le_refl _);have C:iInv P a=(invTo P a P.orders.length).2:=by unfold iInv;rw[ha.1.1]
 rw[C];refine⟨h2,?_⟩;rw[<-p];exact T.top hP ⟨h1.1,h4⟩
theorem Lvl.iConj_iff (hP:Valid P) (hi:i+f=P.orders.length) (L:Lvl P f i) {a b z:List Int}(ha:T P i a) (e:T P i b) (k:T P i z):iConj P a b=z↔rAt P f i a b=rAt P f i b z:=by
 obtain⟨h1,l⟩:=L.iInv_eq hP hi e;have j:=tv_T hP ha e;unfold iConj;rw[L.tv_eq hP hi h1 j,L.tv_eq hP hi ha e];exact L.grp.solve e h1 (L.grp.cl _ _ ha e) k l
end
section
variable {P:Pr}{f i:Nat}
theorem rImage_T (hP:Valid P) (hi:i+(f+1)=P.orders.length) (x:List Int):T P (i+1) (rImage P f i x):=by
 unfold rImage;rw[rImgTo_acc];refine acc_inv (T P (i+1)) _ _ _ _ _ (T.zeros hP _) (λy j hy a b _ => ?_);exact rAt_T hP f (i+1) _ _ (by omega) hy.1 ((hP.cv i (by omega)).2 (j-i-1) (by omega)).1
theorem cj_T (hP:Valid P) {j:Nat}(hi:i<j) (a:j<P.orders.length):T P (i+1) (gt (gt P.conj i) (j-i-1)):=
 T.of_zeroTo ((hP.cv i (by omega)).2 (j-i-1) (by omega)).1 ((hP.cv i (by omega)).2 (j-i-1) (by omega)).2
theorem pw_T (hP:Valid P) (hi:i<P.orders.length):T P (i+1) (gt P.powers i):=T.of_zeroTo (hP.pv i hi).1 (hP.pv i hi).2
theorem Lvl.iImg_eq (hP:Valid P) (hi:i+(f+1)=P.orders.length) (L:Lvl P f (i+1)) {x:List Int}(hx:x.length=P.orders.length):iImg P i x=rImage P f i x:=by
 unfold iImg rImage;rw[(hP.cv i (by omega)).1,show P.orders.length-1-i=f by omega,hx,rImgTo_acc,rImgTo_acc]
 exact (acc_rel (λy z:List Int=>y=z/\T P (i+1) y) _ _ x (i+1) _ _ f ⟨rfl,T.zeros hP _⟩ (by
  rintro y z j ⟨rfl,hy⟩ a b _;have e:=cj_T (i:=i) hP (j:=j) (by omega) (by omega);exact⟨L.tv_eq hP (by omega) hy e,tv_T hP hy e⟩)).1
theorem Lvl.iff (hP:Valid P) (hi:i+(f+1)=P.orders.length) (L:Lvl P f (i+1)):ILevel P i↔RLevel P f i:=by
 have e:i+1+f=P.orders.length:=by omega
 have m:∀J,i<J->J<P.orders.length->(ICond1 P i J↔RCond1 P f i J):=λJ a b=>by
  unfold ICond1 RCond1;have p:=cj_T (i:=i) hP a b;rw[L.iPow_eq hP e p,L.rRep_eq p,L.iImg_eq hP hi (hP.pv J b).1.1]
 have q:∀J K,i<J->J<K->K<P.orders.length->(ICond2 P i J K↔RCond2 P f i J K):=λJ K a b c=>by
  unfold ICond2 RCond2;have h1:=cj_T (i:=i) hP (j:=K) (by omega) c;have k:=cj_T (i:=i) hP (j:=J) a (by omega);rw[L.iImg_eq hP hi (((hP.cv J (by omega)).2 (K-J-1) (by omega)).1.1)];exact L.iConj_iff hP e h1 k (rImage_T hP hi _)
 have r:ICond3 P i↔RCond3 P f i:=by
  unfold ICond3 RCond3;rw[L.iImg_eq hP hi (hP.pv i (by omega)).1.1]
 have u:∀J,i<J->J<P.orders.length->(ICond4 P i J↔RCond4 P f i J):=λJ a b=>by
  unfold ICond4 RCond4;have l:T P (i+1) (unitV P.orders.length J):=T.unit hP (by omega) b
  have h1:iter (gt P.orders i).toNat (λx=>iImg P i x) (unitV P.orders.length J)=iter (gt P.orders i).toNat (λx=>rImage P f i x) (unitV P.orders.length J):=
   iter_congr (Vec P.orders) _ _ (λx hx=>iImg_vec hP i (by omega) x hx) (λx hx=>L.iImg_eq hP hi hx.1) _ _ l.1
  have k:T P (i+1) (iter (gt P.orders i).toNat (λx=>rImage P f i x) (unitV P.orders.length J)):=iter_inv (T P (i+1)) _ (λx _=>rImage_T hP hi x) _ _ l;rw[h1,eq_comm,L.iConj_iff hP e l (pw_T hP (by omega)) k,eq_comm]
 constructor
 ·intro h
  exact⟨λJ a b=>(m J a b).1 (h.c1 J a b),λJ K a b c=>(q J K a b c).1 (h.c2 J K a b c),r.1 h.c3,λJ a b=>(u J a b).1 (h.c4 J a b)⟩
 ·intro h
  exact⟨λJ a b=>(m J a b).2 (h.c1 J a b),λJ K a b c=>(q J K a b c).2 (h.c2 J K a b c),r.2 h.c3,λJ a b=>(u J a b).2 (h.c4 J a b)⟩
end
section
variable {P:Pr}{f i:Nat}
def prV (i:Nat) (p:Nat × List Int):List Int:=p.2.set i (p.1:Int)
theorem prV_T (hP:Valid P) (hi:i<P.orders.length) {p:Nat × List Int}(a:ExS (T P (i+1)) (gt P.orders i).toNat p):T P i (prV i p):=by
 have b:=hP.ord7 i hi;have h1:=a.1;exact a.2.put ⟨by omega,λ_=>by omega⟩
theorem prV_sur (hP:Valid P) (hi:i<P.orders.length) {x:List Int}(hx:T P i x):∃p,ExS (T P (i+1)) (gt P.orders i).toNat p/\prV i p=x:=by
 have b:=hP.ord7 i hi;have a:=hx.1.2 i hi;refine⟨((gt x i).toNat,x.set i 0),⟨by show(gt x i).toNat<_;omega,hx.drop hP hi⟩,?_⟩;unfold prV;simp only[List.set_set];refine ext_gt (by simp) (λk hk => ?_);rw[List.length_set] at hk;rw[gt_set_if _ _ _ _ hk];split
 ·rename_i h;subst h;omega
 ·rfl
theorem set_zero_of {x:List Int}(h:T P (i+1) x):x.set i 0=x:=by
 refine ext_gt (by simp) (λk hk => ?_);rw[List.length_set] at hk;rw[gt_set_if _ _ _ _ hk];split
 ·rename_i e;subst e;exact(h.2 i (by omega)).symm
 ·rfl
theorem prV_mul (hP:Valid P) (hi:i+(f+1)=P.orders.length) (p q:Nat × List Int) (k:ExS (T P (i+1)) (gt P.orders i).toNat p) (m:ExS (T P (i+1)) (gt P.orders i).toNat q) :
  rAt P (f+1) i (prV i p) (prV i q)=prV i (exm (rAt P f (i+1)) (rImage P f i) (gt P.powers i) (gt P.orders i).toNat p q):=by
 obtain⟨a,x⟩:=p;obtain⟨b,y⟩:=q;obtain⟨ha,hx⟩:=k;obtain⟨r,hy⟩:=m;simp only at ha r hx hy;have z:=hP.ord7 i (by omega);have u:gt (prV i (a,x)) i=(a:Int):=gt_set_eq _ _ _ (by show i<x.length;rw[hx.1.1];omega);have gb:gt (prV i (b,y)) i=(b:Int):=gt_set_eq _ _ _ (by show i<y.length;rw[hy.1.1];omega);have w:(prV i (a,x)).set i 0=x:=by unfold prV;rw[List.set_set];exact set_zero_of hx
 have sb:(prV i (b,y)).set i 0=y:=by unfold prV;rw[List.set_set];exact set_zero_of hy
 simp only[rAt,u,gb,w,sb];unfold exm;simp only;have e:(λl=>rImgTo (rAt P f (i+1)) (gt P.conj i) i l (zeros P.orders.length) f)=rImage P f i:=rfl;rw[e,show((b:Int)).toNat=b by omega];by_cases j:(gt P.orders i).toNat<=a+b
 ·rw [if_pos (by omega),if_pos j]
  unfold prV;simp only;congr 1
  omega
 ·rw [if_neg (by omega),if_neg j]
  unfold prV;simp only;congr 1
theorem Lvl.ext (hP:Valid P) (hi:i+(f+1)=P.orders.length) (L:Lvl P f (i+1)) (R:RLevel P f i) :
  ExtOk (T P (i+1)) (rAt P f (i+1)) (zeros P.orders.length) (rImage P f i) (gt P.powers i) (gt P.orders i).toNat /\
   ∀j,i<j->j<P.orders.length->rImage P f i (unitV P.orders.length j)=gt (gt P.conj i) (j-i-1):=by
 have M:=L.grp.toMonOn;have J:=hP.ord7 i (by omega);have K:P.orders.length-(i+1)=f:=by omega
 have p:∀j,i+1<=j->j<P.orders.length->T P (i+1) (gt (gt P.conj i) (j-i-1)):=λj a b=>cj_T hP (by omega) b
 have l:∀x,rImage P f i x=npr (rAt P f (i+1)) (λj=>gt (gt P.conj i) (j-i-1)) x (i+1) (zeros P.orders.length) f:=λx=>by
  unfold rImage npr;rw[rImgTo_acc]
 have m:∀(j:Nat) (x:List Int),i<j->j<P.orders.length->ZeroTo j x->rImage P f i x=npr (rAt P f (i+1)) (λj=>gt (gt P.conj i) (j-i-1)) x (j+1) (zeros P.orders.length) (P.orders.length-(j+1)):=λj x a b F=>by
  rw[l];unfold npr;rw[show f=(j-i)+(P.orders.length-(j+1)) by omega,acc_split,acc_zero _ _ _ _ (j-i) (λk _ c=>F k (by omega)),show i+1+(j-i)=j+1 by omega]
 have H:Holds P (T P (i+1)) (rAt P f (i+1)) (zeros P.orders.length) (λj=>gt (gt P.conj i) (j-i-1)) (i+1):=by
  refine⟨p,λj a b => ?_,λj k a b c => ?_⟩
  ·have h:=R.c1 j (by omega) b
   unfold RCond1 at h;rw[L.rRep_eq (p j a b),m j _ (by omega) b (hP.pv j b).2] at h;exact h
  ·have h:=R.c2 j k (by omega) b c
   unfold RCond2 at h;rw[m j _ (by omega) (by omega) ((hP.cv j (by omega)).2 (k-j-1) (by omega)).2] at h;exact h
 have hom:∀A B,Vec P.orders A->Vec P.orders B->rImage P f i (rAt P f (i+1) A B)=rAt P f (i+1) (rImage P f i A) (rImage P f i B):=λA B G hB=>by
  rw[l,l,l];exact vd_at hP M f (i+1) (by omega) H A B G hB
 have q:∀j,i<j->j<P.orders.length->rImage P f i (unitV P.orders.length j)=gt (gt P.conj i) (j-i-1):=λj a b=>by
  rw[l];unfold npr
  rw [show f=(j-(i+1))+((P.orders.length-(j+1))+1) by omega,acc_split,acc_zero _ _ _ _ (j-(i+1)) (λk _ c=>by rw[gt_unit _ _ _ (by omega),if_neg (by omega)]),acc_front,show i+1+(j-(i+1))=j by omega,
   acc_zero _ _ (j+1) _ _ (λk c d=>by rw[gt_unit _ _ _ (by omega),if_neg (by omega)]),gt_unit _ _ _ b,if_pos rfl]
  show rAt P _ (i+1) (zeros P.orders.length) _=_
  rw[show j-(i+1)+(P.orders.length-(j+1)+1)=f by omega];exact M.el _ (p j (by omega) b)
 refine⟨?_,q⟩;have w:=pw_T (i:=i) hP (by omega)
 have ihom:∀(k:Nat) (x y:List Int),T P (i+1) x->T P (i+1) y->iter k (rImage P f i) (rAt P f (i+1) x y)=rAt P f (i+1) (iter k (rImage P f i) x) (iter k (rImage P f i) y):=by
  intro k x y hx hy
  have:=(iter_rel (λ(u:List Int) (v:List Int × List Int)=>T P (i+1) v.1/\T P (i+1) v.2/\u=rAt P f (i+1) v.1 v.2) (rImage P f i) (λv=>(rImage P f i v.1,rImage P f i v.2)) (by
   rintro u ⟨v1,v2⟩ ⟨h1,h2,rfl⟩;exact⟨rImage_T hP hi _,rImage_T hP hi _,hom _ _ h1.1 h2.1⟩) k (rAt P f (i+1) x y) (x,y) ⟨hx,hy,rfl⟩).2.2
  rw[this]
  have e:∀k,iter k (λv:List Int × List Int=>(rImage P f i v.1,rImage P f i v.2)) (x,y)=(iter k (rImage P f i) x,iter k (rImage P f i) y):=by
   intro k;induction k with
   | zero=>rfl
   | succ k D=>show(λv:List Int × List Int=>(rImage P f i v.1,rImage P f i v.2)) (iter k _ (x,y))=_;rw[D];rfl
  rw[e]
 have icl:∀(k:Nat) (x:List Int),T P (i+1) x->T P (i+1) (iter k (rImage P f i) x):=λk x hx=>iter_inv (T P (i+1)) _ (λy _=>rImage_T hP hi y) k x hx;refine⟨by omega,L.grp,λx _=>rImage_T hP hi x,λx y hx hy=>hom x y hx.1 hy.1,w,R.c3,?_⟩;intro x hx
 have z:rImage P f i (zeros P.orders.length)=zeros P.orders.length:=by
  rw[l];exact acc_zero _ _ _ _ _ (λj _ _=>gt_replicate _ _)
 have r:∀k,iter k (rImage P f i) (zeros P.orders.length)=zeros P.orders.length:=by
  intro k;induction k with
  | zero=>rfl
  | succ k D=>show rImage P f i (iter k _ _)=_;rw[D,z]
 have key:(λy=>T P (i+1) y/\rAt P f (i+1) (gt P.powers i) (iter (gt P.orders i).toNat (rImage P f i) y)=rAt P f (i+1) y (gt P.powers i)) (npr (rAt P f (i+1)) (unitV P.orders.length) x (i+1) (zeros P.orders.length) f):=by
  unfold npr;refine acc_inv (λy=>T P (i+1) y/\rAt P f (i+1) (gt P.powers i) (iter (gt P.orders i).toNat (rImage P f i) y)=rAt P f (i+1) y (gt P.powers i)) _ _ _ _ _ ⟨L.grp.one,by rw[r,M.er _ w,M.el _ w]⟩ (λy j hy a b _ => ?_);obtain⟨h1,h2⟩:=hy;have C:T P (i+1) (unitV P.orders.length j):=T.unit hP a (by omega);have E:=R.c4 j (by omega) (by omega);unfold RCond4 at E;refine⟨M.cl _ _ h1 C,?_⟩;rw[ihom _ _ _ h1 C,<-M.ass _ _ _ w (icl _ _ h1) (icl _ _ C),h2,M.ass _ _ _ h1 w (icl _ _ C)];have I:rAt P f (i+1) (gt P.powers i) (iter (gt P.orders i).toNat (rImage P f i) (unitV P.orders.length j))=rAt P f (i+1) (unitV P.orders.length j) (gt P.powers i):=E;rw[I,M.ass _ _ _ h1 C w]
 rw[L.nf x hx] at key;exact key.2
theorem Lvl.step (hP:Valid P) (hi:i+(f+1)=P.orders.length) (L:Lvl P f (i+1)) (R:RLevel P f i):Lvl P (f+1) i:=by
 obtain⟨E,B⟩:=L.ext hP hi R;have e:i<P.orders.length:=by omega
 have ho:=hP.ord7 i e;have u:=L.grp.toMonOn;have J:prV i (0,zeros P.orders.length)=zeros P.orders.length:=set_zero_of (P:=P) (T.zeros hP (i+1))
 have G:GrpOn (T P i) (rAt P (f+1) i) (zeros P.orders.length):=
  E.group.carry (prV i) (λp Q=>prV_T hP e Q) (λy hy=>prV_sur hP e hy) J (λp q Q Z=>prV_mul hP hi p q Q Z)
 have M:=G.toMonOn;have C:∀x,T P (i+1) x->prV i (0,x)=x:=λx hx=>set_zero_of hx;have K:∀x,T P (i+1) x->ExS (T P (i+1)) (gt P.orders i).toNat (0,x):=λx hx=>⟨by show 0<_;omega,hx⟩;-- the product restricted
 have res:∀x y,T P (i+1) x->T P (i+1) y->rAt P (f+1) i x y=rAt P f (i+1) x y:=λx y hx hy=>by
  have h:=prV_mul hP hi (0,x) (0,y) (K x hx) (K y hy);rw[C x hx,C y hy] at h;rw[h];unfold exm;simp only[Nat.add_zero,if_neg (by omega:¬(gt P.orders i).toNat<=0)];exact C _ (u.cl _ _ hx hy)
 have m:∀(x:List Int) (j k:Nat),i+1<=j->j+k=P.orders.length->npr (rAt P (f+1) i) (unitV P.orders.length) x j (zeros P.orders.length) k=npr (rAt P f (i+1)) (unitV P.orders.length) x j (zeros P.orders.length) k /\
   T P (i+1) (npr (rAt P f (i+1)) (unitV P.orders.length) x j (zeros P.orders.length) k):=λx j k hj hk=>by
  have:=acc_rel (λ(y z:List Int)=>T P (i+1) z/\y=z) (λy j=>rAt P (f+1) i y (unitV P.orders.length j)) (λy j=>rAt P f (i+1) y (unitV P.orders.length j)) x j (zeros P.orders.length) (zeros P.orders.length) k ⟨L.grp.one,rfl⟩ (by
   rintro y z l ⟨h1,rfl⟩ a b _;have r:T P (i+1) (unitV P.orders.length l):=T.unit hP (by omega) (by omega);exact⟨u.cl _ _ h1 r,res _ _ h1 r⟩)
  exact⟨this.2,this.1⟩
 have u1:unitV P.orders.length i=prV i (1,zeros P.orders.length):=by
  unfold prV unitV zeros;rfl
 have D:∀a x,a<(gt P.orders i).toNat->T P (i+1) x->ExS (T P (i+1)) (gt P.orders i).toNat (a,x):=λa x ha hx=>⟨ha,hx⟩;have w:T P (i+1) (zeros P.orders.length):=T.zeros hP _;have X:T P i (unitV P.orders.length i):=T.unit hP (Nat.le_refl _) e;have A:∀j,i<=j->j<P.orders.length->T P i (unitV P.orders.length j):=λj a b=>T.unit hP a b;-- powers of the generator
 have N:∀k,k<(gt P.orders i).toNat->iter k (λy=>rAt P (f+1) i y (unitV P.orders.length i)) (zeros P.orders.length)=prV i (k,zeros P.orders.length):=by
  intro k;induction k with
  | zero=>intro _;exact J.symm
  | succ k ih=>
   intro hk;show rAt P (f+1) i (iter k _ _) (unitV P.orders.length i)=_
   rw[ih (by omega),u1,prV_mul hP hi _ _ (D k _ (by omega) w) (D 1 _ (by omega) w)];unfold exm;simp only[if_neg (by omega:¬(gt P.orders i).toNat<=k+1),E.ione,u.el _ w]
 have V:=pw_T (i:=i) hP e
 have F:∀x,T P (i+1) x->npr (rAt P (f+1) i) (unitV P.orders.length) x (i+1) (zeros P.orders.length) f=x:=λx hx=>by
  rw[(m x (i+1) f (by omega) (by omega)).1,L.nf x hx]
 refine⟨G,λx hx => ?_,⟨A,λj a b => ?_,λj k a b c => ?_⟩⟩
 ·-- normal form
  rw[npr_front M (λj a b=>A j a (by omega))];have ab:=hx.1.2 i e;have S:=hx.drop hP e
  have h1:npr (rAt P (f+1) i) (unitV P.orders.length) x (i+1) (zeros P.orders.length) f=x.set i 0:=by
   have U:npr (rAt P (f+1) i) (unitV P.orders.length) x (i+1) (zeros P.orders.length) f=npr (rAt P (f+1) i) (unitV P.orders.length) (x.set i 0) (i+1) (zeros P.orders.length) f:=
    acc_congr _ _ _ _ _ _ (λj a b=>by rw[gt_set_ne _ _ _ _ (by omega)])
   rw[U,F _ S]
  rw[N _ (by omega),h1];obtain⟨p,Q,hpx⟩:=prV_sur hP e hx;have Y:=prV_mul hP hi ((gt x i).toNat,zeros P.orders.length) (0,x.set i 0) (D _ _ (by omega) w) (K _ S);rw[C _ S] at Y;rw[Y];unfold exm;simp only[Nat.add_zero,if_neg (by omega:¬(gt P.orders i).toNat<=(gt x i).toNat)];show prV i ((gt x i).toNat,rAt P f (i+1) (zeros P.orders.length) (x.set i 0))=x
  rw[u.el _ S];unfold prV;simp only[List.set_set];refine ext_gt (by simp) (λk hk => ?_);rw[List.length_set] at hk;rw[gt_set_if _ _ _ _ hk];split
  ·rename_i h;subst h;omega
  ·rfl
 ·-- power relations
  by_cases H:j=i
  ·subst H
   rw[show P.orders.length-(j+1)=f by omega,F _ V];obtain⟨I,W⟩:∃I,(gt P.orders j).toNat=I+1:=⟨(gt P.orders j).toNat-1,by omega⟩;rw[W];show rAt P (f+1) j (iter I _ _) (unitV P.orders.length j)=_
   rw[N I (by omega),u1,prV_mul hP hi _ _ (D I _ (by omega) w) (D 1 _ (by omega) w)];unfold exm;simp only[if_pos (by omega:(gt P.orders j).toNat<=I+1),E.ione,u.el _ w,u.er _ V];rw[show I+1-(gt P.orders j).toNat=0 by omega];exact C _ V
  ·have r:T P (i+1) (unitV P.orders.length j):=T.unit hP (by omega) b
   rw[(m _ (j+1) _ (by omega) (by omega)).1,<-L.rel.pw j (by omega) b]
   have:=iter_rel (λ(y z:List Int)=>T P (i+1) z/\y=z) (λy=>rAt P (f+1) i y (unitV P.orders.length j)) (λy=>rAt P f (i+1) y (unitV P.orders.length j)) (by
    rintro y z ⟨h1,rfl⟩;exact⟨u.cl _ _ h1 r,res _ _ h1 r⟩) (gt P.orders j).toNat _ _ ⟨L.grp.one,rfl⟩
   exact this.2
 ·-- conjugate relations
  by_cases H:j=i
  ·subst H
   have O:=cj_T (i:=j) hP b c;have r:T P (j+1) (unitV P.orders.length k):=T.unit hP (by omega) c;rw[show P.orders.length-(j+1)=f by omega,F _ O];have h1:=prV_mul hP hi (0,unitV P.orders.length k) (1,zeros P.orders.length) (K _ r) (D 1 _ (by omega) w);have U:=prV_mul hP hi (1,zeros P.orders.length) (0,gt (gt P.conj j) (k-j-1)) (D 1 _ (by omega) w) (K _ O);rw[C _ r,<-u1] at h1;rw[C _ O,<-u1] at U;rw[h1,U];unfold exm;simp only[Nat.zero_add,Nat.add_zero,if_neg (by omega:¬(gt P.orders j).toNat<=1)];show prV j (1,rAt P f (j+1) (rImage P f j (unitV P.orders.length k)) (zeros P.orders.length))=prV j (1,rAt P f (j+1) (zeros P.orders.length) (gt (gt P.conj j) (k-j-1)))
   rw[B k b c,u.er _ O,u.el _ O]
  ·have r:T P (i+1) (unitV P.orders.length j):=T.unit hP (by omega) (by omega)
   have hv:T P (i+1) (unitV P.orders.length k):=T.unit hP (by omega) c;have hr:=m (gt (gt P.conj j) (k-j-1)) (j+1) (P.orders.length-(j+1)) (by omega) (by omega);rw[hr.1,res _ _ hv r,res _ _ r hr.2];exact L.rel.cj j k (by omega) b c
end
theorem lvl_of_R {P:Pr}(hP:Valid P) (f:Nat):∀i,i+f=P.orders.length->(∀k,i<=k->k<P.orders.length->RLevel P (P.orders.length-1-k) k)->Lvl P f i:=by
 induction f with
 | zero=>
  intro i hi _;have:i=P.orders.length:=by omega
  subst this;exact Lvl.top hP
 | succ f e=>
  intro i hi h;have L:=e (i+1) (by omega) (λk a b=>h k (by omega) b);have R:=h i (by omega) (by omega);rw[show P.orders.length-1-i=f by omega] at R;exact L.step hP hi R
theorem lvl_of_I {P:Pr}(hP:Valid P) (f:Nat):∀i,i+f=P.orders.length->(∀k,i<=k->k<P.orders.length->ILevel P k)->Lvl P f i:=by
 induction f with
 | zero=>
  intro i hi _;have:i=P.orders.length:=by omega
  subst this;exact Lvl.top hP
 | succ f e=>
  intro i hi h;have L:=e (i+1) (by omega) (λk a b=>h k (by omega) b);exact L.step hP hi ((L.iff hP hi).1 (h i (by omega) (by omega)))
theorem all_iff {P:Pr}(hP:Valid P):IAll P↔RAll P:=by
 constructor
 ·intro h k hk
  have L:=lvl_of_I hP (P.orders.length-1-k) (k+1) (by omega) (λl _ b=>h l b);exact(L.iff hP (by omega)).1 (h k hk)
 ·intro h k hk
  have L:=lvl_of_R hP (P.orders.length-1-k) (k+1) (by omega) (λl _ b=>h l b);exact(L.iff hP (by omega)).2 (h k hk)
theorem icons_eq (P:Pr):iconsB P=rconsB P:=by
 unfold iconsB rconsB;exact decide_eq_decide.2 (and_congr_right (λhP=>all_iff hP))
structure Grp (P:Pr):Prop where
 v:Valid P
 all:RAll P
theorem Grp.tail {P:Pr}(G:Grp P) {f i:Nat}(hi:i+f=P.orders.length):Lvl P f i:=lvl_of_R G.v f i hi (λk _ b=>G.all k b)
theorem Grp.lvl {P:Pr}(G:Grp P):Lvl P P.orders.length 0:=G.tail (by omega)
theorem grp_of_r {P:Pr}(h:rconsB P=true):Grp P:=by
 unfold rconsB at h;have a := @of_decide_eq_true _ (_) h;exact⟨a.1,a.2⟩
theorem T_zero {P:Pr}{x:List Int} : T P 0 x↔Vec P.orders x:=⟨λh=>h.1,λh=>⟨h,λk hk=>by omega⟩⟩
section
variable {P:Pr}(G:Grp P)
include G
theorem Grp.grp:GrpOn (Vec P.orders) (rMul P) (zeros P.orders.length):=by
 have h:=G.lvl.grp;have e:T P 0=Vec P.orders:=by funext x;exact propext T_zero
 rw[e] at h;exact h
theorem Grp.tv_eq {E F:List Int}(hE:Vec P.orders E) (hF:Vec P.orders F):tv P E F=rMul P E F:=G.lvl.tv_eq G.v (by omega) (T_zero.2 hE) (T_zero.2 hF)
theorem Grp.nf {x:List Int}(hx:Vec P.orders x):npr (rMul P) (unitV P.orders.length) x 0 (zeros P.orders.length) P.orders.length=x:=G.lvl.nf x (T_zero.2 hx)
theorem Grp.iInv_mul {a:List Int}(ha:Vec P.orders a):rMul P a (iInv P a)=zeros P.orders.length:=(G.lvl.iInv_eq G.v (by omega) (T_zero.2 ha)).2
theorem Grp.rel:Holds P (Vec P.orders) (rMul P) (zeros P.orders.length) (unitV P.orders.length) 0:=by
 have h:=G.lvl.rel;have e:T P 0=Vec P.orders:=by funext x;exact propext T_zero
 rw[e] at h;exact h
theorem Grp.iPow_eq {a:List Int}(ha:Vec P.orders a) (k:Int):iPow P a k=iter k.toNat (λy=>rMul P y a) (zeros P.orders.length):=G.lvl.iPow_eq G.v (by omega) (T_zero.2 ha) k
end
end Go.Proofs.YtldheeicjnncoaaGreat
