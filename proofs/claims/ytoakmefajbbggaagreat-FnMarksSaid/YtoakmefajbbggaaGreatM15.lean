/- Merged from templates. -/
import Derived.Test.YtoakmefajbbggaaGreatM14
set_option maxRecDepth 100000
set_option maxHeartbeats 8000000
namespace Go.Proofs.YtoakmefajbbggaaGreat
open Go.RowKit
attribute [local go_sem ↓] Go.wp_at_zero Go.wp_at_succ
theorem CZ {w b:World}{sb m N M B:Nat}{x y z:Value}(p:w.grownBy b (some sb)) (A:w.heap.size<B) (i:Src m b sb) (q:m<=w.heap.size) (hP:sL N B b x y z) (r:N<=M) :
  mA w (some sb) (qJ m sb (tT M w.heap.size)) (.returned (.agg #[x,y,z])) (((b.setCell ⟨w.heap.size,0,none⟩ x).setCell ⟨w.heap.size,1,none⟩ y).setCell ⟨w.heap.size,2,none⟩ z):=by
 have l:=jh b w.heap.size x y z;obtain⟨Q,h1,h2⟩:=hP;exact⟨_,rfl,fu p l (λj u a=>by cases u;omega),⟨x,y,z,rfl,Q,h1.mono r,h2.mono (λk hk a=>⟨by have hk:B<=k:=hk;show w.heap.size<=k;omega,Nat.lt_of_lt_of_le a l.size,l.block k a (λe=>by have hk:B<=k:=hk;have:=Option.some.inj e;omega)⟩)⟩,i.own l (λk hk=>by cases hk;exact q)⟩
theorem j4 (w:World) (L:List Int) (a:L.length<=1000):Ints (λk=>k=w.heap.size) (w.alloc (.cells (L.map (Value.int .i64)).toArray 2)) (.slice (some ⟨w.heap.size,0,none⟩) L.length L.length) L:=by
 have h:Own 0 (w.alloc (.cells (L.map (Value.int .i64)).toArray 2)) (.slice (some ⟨w.heap.size,0,none⟩) L.length L.length) L:=by
  have:=World.ownsRow_lit (base:=0) (e:=2) (size:=1) w (L.map (Value.int .i64)).toArray L.length (Nat.zero_le _) (by unfold maxLen;omega) (by simp);simpa using this
 exact iD h (by omega) (λk hk=>ku hk)
theorem vH (w:World) (a:List Value) (R:List (List Int)) (b:a.length=R.length) (j:R.length<=1000) (h:∀i,i<R.length->Ints Any w (gt a i) (gt R i)) :
  dK Any (w.alloc (.cells a.toArray 24)) (.slice (some ⟨w.heap.size,0,none⟩) R.length R.length) R:=by
 refine⟨_,_,rfl,⟨Nat.le_refl _,by omega,λh=>by cases h⟩,λi e=>⟨w.heap.size,0,gt a i,rfl,trivial,by simp,?_,Ints.ext (h i e) (World.grownBy_alloc _ _ _)⟩⟩;rw[World.cell?_alloc_at _ _ _ _ rfl];simp[gt,b,e]
set_option maxHeartbeats 16000000 in
theorem GK (B0:Nat) (w:World) (sb:Nat) (aD:B0<=w.heap.size) (hs:Src B0 w sb) :
  Calls Tryz.prog 220 #[.pointer (some ⟨sb,0,none⟩)] w (mA w (some sb) (qJ B0 sb (tT 18 w.heap.size))):=by
 have ba:=hs.lt;have aE:=fG.made w 28 (.slice none 0 0) (.slice none 0 0) (.slice none 0 0);have aF:Ext w (w.alloc (.cells #[.slice none 0 0,.slice none 0 0,.slice none 0 0] 28)):=World.grownBy_alloc _ _ _;have aW:(w.alloc (.cells #[.slice none 0 0,.slice none 0 0,.slice none 0 0] 28)).heap.size=w.heap.size+1:=by simp
 have aX:=Lib.hid hs;clear hs;go_enter Tryz.func220,Tryz.ntmps220;go_wp2_with fail
 generalize w.alloc (.cells #[.slice none 0 0,.slice none 0 0,.slice none 0 0] 28)=w0 at *;refine Calls.mono (kZ B0 w0 sb 9 (aX.out.ext aF)) ?_;rintro e1 u ⟨v1,rfl,al,x,rfl,hx0,hx1,hs1⟩;have ak:=fG.keep aE al.size (al.block _ aE.1 (λe=>by have:=Option.some.inj e;omega));have am:=dy (fH (some sb) aF) al;have bb:w.heap.size+1<=u.heap.size:=by have:=al.size;omega
 have hx:=hx1 (by omega);have ab:=Lib.hid hs1;clear hx0 hx1 al aE aF aW hs1;rcases(show x=0\/x=1\/x=2\/x=3\/x=4\/x=5\/x=6\/x=7\/x=8 by omega) with rfl|rfl|rfl|rfl|rfl|rfl|rfl|rfl|rfl
 all_goals clear hx
 ·have aK:=World.grownBy_alloc u (.cells #[] 2) (some sb)
  have aL:Own u.heap.size (u.alloc (.cells #[] 2)) (.slice (some ⟨u.heap.size,0,none⟩) 0 0) []:=World.ownsRow_lit u #[] 0 (Nat.le_refl _) (by decide) rfl;have aM:=(ab.out.ext (World.grownBy_alloc u (.cells #[] 2) none));have D:=Lib.hid aM;clear aM;go_wp2_with fail
  generalize u.alloc (.cells #[] 2)=wE at *;refine Calls.mono (kZ B0 wE sb 5 D.out) ?_;rintro e2 a ⟨v2,rfl,V,k,rfl,GL,hk1,hs2⟩;have hk:=hk1 (by omega);clear GL hk1;have aN:=aL.kept V (by simp[Value.ownBlock];omega);have b:=dy aK V;have aO:=Lib.hid hs2;clear hs2 aK aL V;go_wp2_with fail
  go_loopw [3,4] (λov kv wr=>∃(k:Int) (o:List Int) (v4:Value),v4=ov/\kv=.int .i64 k/\0<=k/\k<=4/\Hid (o.length+k<=4)/\u.grownBy wr (some sb)/\Own u.heap.size wr v4 o/\Hid (Src B0 wr sb)) (λ_ kv _=>(intOf kv).toNat)
  case atStart=>exact⟨k,[],_,rfl,rfl,hk.1,by omega,Lib.hid (by simp;omega),b,aN,aO⟩
  case round=>
   clear aN b aO hk;obtain⟨k,o,v4,rfl,rfl,GL,hk4,vJ,hg,hO,N⟩:=hrel;have be:=hg.size;by_cases bf:0<k
   ·have aP:∀j,v4.ownBlock=some j->u.heap.size<=j:=λj hj=>(hO.lt j hj).1
    have aG:o.length<=1000000:=by have:=vJ.out;omega
    have HO:=Lib.hid (And.intro aP aG);clear aP aG;go_wp2_with fail
    have O:Ext wr (wr.alloc (.cells #[.int .i64 2,.int .i64 2,.int .i64 3] 2)):=World.grownBy_alloc _ _ _;have hL:Ints (λk=>k=wr.heap.size) (wr.alloc (.cells #[.int .i64 2,.int .i64 2,.int .i64 3] 2)) (.slice (some ⟨wr.heap.size,0,none⟩) 3 3) [2,2,3]:=j4 wr [2,2,3] (by simp);have av:(wr.alloc (.cells #[.int .i64 2,.int .i64 2,.int .i64 3] 2)).heap.size=wr.heap.size+1:=by simp
    generalize wr.alloc (.cells #[.int .i64 2,.int .i64 2,.int .i64 3] 2)=wL at *;refine Calls.mono (Go.Proofs.YtoakmefajbbggaaGreat.u7 B0 wL sb _ [2,2,3] _ (N.out.ext O) hL (λk hk=>by omega) (by simp) (by simp)) ?_;rintro e3 I ⟨v3,rfl,l,i,Y,rfl,hs3⟩;generalize gt ([2,2,3]:List Int) i=m at *;have az:=dy (fH (some sb) O) l;have aY:=hO.kept az (.inr (λe=>by have:=HO.out.1 sb e;omega));have aA:=dy hg az;have aZ:=Lib.hid hs3;clear hs3 O l hL Y hO;go_wp2_with (first|(at_builtin;refine qB rfl _ _ rfl u.heap.size v4 o m rfl I aY rfl rfl HO.out.2 aA.size ?_;intro v5 w5 a0 aR)|fail)
    have a4:Src B0 w5 sb:=aZ.out.own aR (λj hj=>by have:=HO.out.1 j hj;omega);have aS:u.grownBy w5 (some sb):=fu aA aR (λj hj bh=>by have:=HO.out.1 j hj;omega);have aG:(o++[m]).length=o.length+1:=by simp
    go_roundw
    case rel=>exact⟨k-1,o++[m],v5,rfl,rfl,by omega,by omega,Lib.hid (by have:=vJ.out;omega),aS,a0,Lib.hid a4⟩
    case measure=>simp[intOf];omega
   ·have a5:=hO.ints (show o.length<=9223372036854775807 by have:=vJ.out;omega)
    have a6:=vJ.out;have a7:o.length<=100:=by omega
    clear a6 hO;go_wp2_with fail
    refine Calls.mono (qd wr _ o _ a5 a7) ?_;rintro e3 I ⟨v3,rfl,l,vo,vp,vc,rfl,nP⟩;have E:sL 18 wr.heap.size I vo vp vc:=⟨j0 o,vk o (by have:=vJ.out;omega),nP.p3⟩;obtain⟨a1,n1,c1,a2,n2,c2,a3,n3,c3,rfl,rfl,rfl⟩:=E.shape;clear nP;have p:u.grownBy I (some sb):=dy hg (fH (some sb) l);have Z:=fG.keep ak p.size (p.block _ ak.1 (λe=>by have:=Option.some.inj e;omega));have X:=dy am p;obtain⟨b0,b1,b2,b3,b4⟩:=id Z;have hZ:=Z.all (.slice a1 n1 c1) (.slice a2 n2 c2) (.slice a3 n3 c3);obtain⟨-,z0,z1,z2,-⟩:=id hZ;have HF:=Lib.hid (And.intro X (And.intro E (N.out.ext l)));clear hZ X E Z;go_wp2_with fail
    refine bodyPost_ret (v := .agg #[.slice a1 n1 c1,.slice a2 n2 c2,.slice a3 n3 c3]) (by simp[results,Tryz.results220,go_sem,z0,z1,z2]) rfl ?_;exact CZ HF.out.1 (B:=wr.heap.size) (by omega) HF.out.2.2 aD HF.out.2.1 (by omega)
 ·skip
  go_wp2_with fail
  have O:Ext u (u.alloc (.cells #[.int .i64 1,.int .i64 4,.int .i64 6,.int .i64 8,.int .i64 9,.int .i64 12,.int .i64 5,.int .i64 7,.int .i64 27,.int .i64 25,.int .i64 36] 2)):=World.grownBy_alloc _ _ _;have hL:Ints (λk=>k=u.heap.size) (u.alloc (.cells #[.int .i64 1,.int .i64 4,.int .i64 6,.int .i64 8,.int .i64 9,.int .i64 12,.int .i64 5,.int .i64 7,.int .i64 27,.int .i64 25,.int .i64 36] 2)) (.slice (some ⟨u.heap.size,0,none⟩) 11 11) [1,4,6,8,9,12,5,7,27,25,36]:=j4 u [1,4,6,8,9,12,5,7,27,25,36] (by simp);have av:(u.alloc (.cells #[.int .i64 1,.int .i64 4,.int .i64 6,.int .i64 8,.int .i64 9,.int .i64 12,.int .i64 5,.int .i64 7,.int .i64 27,.int .i64 25,.int .i64 36] 2)).heap.size=u.heap.size+1:=by simp
  generalize u.alloc (.cells #[.int .i64 1,.int .i64 4,.int .i64 6,.int .i64 8,.int .i64 9,.int .i64 12,.int .i64 5,.int .i64 7,.int .i64 27,.int .i64 25,.int .i64 36] 2)=wL at *;refine Calls.mono (Go.Proofs.YtoakmefajbbggaaGreat.u7 B0 wL sb _ [1,4,6,8,9,12,5,7,27,25,36] _ (ab.out.ext O) hL (λk hk=>by omega) (by simp) (by simp)) ?_;rintro e2 a ⟨v2,rfl,V,i,Y,rfl,hs2⟩;have hm:∀y∈([1,4,6,8,9,12,5,7,27,25,36]:List Int),1<=y/\y<=36:=by simp
  have aH:=hm _ (fT Y);generalize gt ([1,4,6,8,9,12,5,7,27,25,36]:List Int) i=m at *;clear hm Y hL;have b:=dy (fH (some sb) O) V;have ah:w.heap.size+1<=a.heap.size:=by have:=b.size;omega
  clear O V;have D:=Lib.hid hs2;clear hs2;obtain⟨m,rfl⟩:=Int.eq_ofNat_of_zero_le (show 0<=m by omega);go_wp2_with fail
  refine Calls.mono (Nt a m (by omega)) ?_;rintro e3 I ⟨v3,rfl,l,vo,vp,vc,c,rfl,hP⟩;obtain⟨_,_,_,he,E⟩:=hP.q;cases he
  obtain⟨a1,n1,c1,a2,n2,c2,a3,n3,c3,rfl,rfl,rfl⟩:=E.shape;have p:u.grownBy I (some sb):=dy b (fH (some sb) l);have Z:=fG.keep ak p.size (p.block _ ak.1 (λe=>by have:=Option.some.inj e;omega));have X:=dy am p;obtain⟨b0,b1,b2,b3,b4⟩:=id Z;have aI:=World.grownBy_alloc (((I.setCell ⟨w.heap.size,0,none⟩ (.slice a1 n1 c1)).setCell ⟨w.heap.size,1,none⟩ (.slice a2 n2 c2)).setCell ⟨w.heap.size,2,none⟩ (.slice a3 n3 c3)) (.cells #[.slice a1 n1 c1,.slice a2 n2 c2,.slice a3 n3 c3] 28) none;have hZ:=(Z.all (.slice a1 n1 c1) (.slice a2 n2 c2) (.slice a3 n3 c3)).ext aI;obtain⟨-,z0,z1,z2,-⟩:=id hZ;have HF:=Lib.hid (And.intro X (And.intro E (And.intro (D.out.ext l) aI)));clear hZ X E Z aI;go_wp2_with fail
  refine bodyPost_ret (v := .agg #[.slice a1 n1 c1,.slice a2 n2 c2,.slice a3 n3 c3]) (by simp[results,Tryz.results220,go_sem,z0,z1,z2]) rfl ?_;obtain⟨_,he,k1,⟨q1,q2,q3,k2,Q,k4,k5⟩,k3⟩:=CZ (M:=18) HF.out.1 (B:=a.heap.size) (by omega) HF.out.2.2.1 aD HF.out.2.1 (by omega);cases he
  cases k2
  exact⟨_,rfl,dy k1 (fH (some sb) HF.out.2.2.2),⟨_,_,_,rfl,Q,k4,k5.ext HF.out.2.2.2⟩,k3.ext HF.out.2.2.2⟩
 focus
  go_wp2_with fail
  have O:Ext u (u.alloc (.cells #[.int .i64 3,.int .i64 4,.int .i64 5,.int .i64 6,.int .i64 7,.int .i64 8,.int .i64 9,.int .i64 12] 2)):=World.grownBy_alloc _ _ _;have hL:Ints (λk=>k=u.heap.size) (u.alloc (.cells #[.int .i64 3,.int .i64 4,.int .i64 5,.int .i64 6,.int .i64 7,.int .i64 8,.int .i64 9,.int .i64 12] 2)) (.slice (some ⟨u.heap.size,0,none⟩) 8 8) [3,4,5,6,7,8,9,12]:=j4 u [3,4,5,6,7,8,9,12] (by simp);have av:(u.alloc (.cells #[.int .i64 3,.int .i64 4,.int .i64 5,.int .i64 6,.int .i64 7,.int .i64 8,.int .i64 9,.int .i64 12] 2)).heap.size=u.heap.size+1:=by simp
  generalize u.alloc (.cells #[.int .i64 3,.int .i64 4,.int .i64 5,.int .i64 6,.int .i64 7,.int .i64 8,.int .i64 9,.int .i64 12] 2)=wL at *;refine Calls.mono (Go.Proofs.YtoakmefajbbggaaGreat.u7 B0 wL sb _ [3,4,5,6,7,8,9,12] _ (ab.out.ext O) hL (λk hk=>by omega) (by simp) (by simp)) ?_;rintro e2 a ⟨v2,rfl,V,i,Y,rfl,hs2⟩;have hm:∀y∈([3,4,5,6,7,8,9,12]:List Int),3<=y/\y<=12:=by simp
  have aH:=hm _ (fT Y);generalize gt ([3,4,5,6,7,8,9,12]:List Int) i=m at *;clear hm Y hL;have b:=dy (fH (some sb) O) V;have ah:w.heap.size+1<=a.heap.size:=by have:=b.size;omega
  clear O V;have D:=Lib.hid hs2;clear hs2;have a8:0<=m/2/\m/2<=6:=by omega
  go_wp2_with fail
  refine Calls.mono (sN a 2 m (m-1) 0 (by omega) (by omega) (by omega) (by omega)) ?_;rintro e3 I ⟨v3,rfl,l,hP⟩;obtain⟨vo,vp,vc,rfl,E⟩:=hP.q;have p:u.grownBy I (some sb):=dy b (fH (some sb) l);have N:=D.out.ext l
 rotate_left
 focus
  go_wp2_with fail
  have O:Ext u (u.alloc (.cells #[.int .i64 4,.int .i64 6,.int .i64 8,.int .i64 12] 2)):=World.grownBy_alloc _ _ _;have hL:Ints (λk=>k=u.heap.size) (u.alloc (.cells #[.int .i64 4,.int .i64 6,.int .i64 8,.int .i64 12] 2)) (.slice (some ⟨u.heap.size,0,none⟩) 4 4) [4,6,8,12]:=j4 u [4,6,8,12] (by simp);have av:(u.alloc (.cells #[.int .i64 4,.int .i64 6,.int .i64 8,.int .i64 12] 2)).heap.size=u.heap.size+1:=by simp
  generalize u.alloc (.cells #[.int .i64 4,.int .i64 6,.int .i64 8,.int .i64 12] 2)=wL at *;refine Calls.mono (Go.Proofs.YtoakmefajbbggaaGreat.u7 B0 wL sb _ [4,6,8,12] _ (ab.out.ext O) hL (λk hk=>by omega) (by simp) (by simp)) ?_;rintro e2 a ⟨v2,rfl,V,i,Y,rfl,hs2⟩;have hm:∀y∈([4,6,8,12]:List Int),3<=y/\y<=12:=by simp
  have aH:=hm _ (fT Y);generalize gt ([4,6,8,12]:List Int) i=m at *;clear hm Y hL;have b:=dy (fH (some sb) O) V;have ah:w.heap.size+1<=a.heap.size:=by have:=b.size;omega
  clear O V;have D:=Lib.hid hs2;clear hs2;have a8:0<=m/2/\m/2<=6:=by omega
  go_wp2_with fail
  refine Calls.mono (sN a 2 m (m-1) (m/2) (by omega) (by omega) (by omega) (by omega)) ?_;rintro e3 I ⟨v3,rfl,l,hP⟩;obtain⟨vo,vp,vc,rfl,E⟩:=hP.q;have p:u.grownBy I (some sb):=dy b (fH (some sb) l);have N:=D.out.ext l
 rotate_left
 focus
  go_wp2_with fail
  refine Calls.mono (kZ B0 u sb 6 ab.out) ?_;rintro e2 a ⟨v2,rfl,b,y,rfl,hy0,hy1,hs2⟩;have hy:=hy1 (by omega);have D:=Lib.hid hs2;have ah:w.heap.size+1<=a.heap.size:=by have:=b.size;omega
  clear hy0 hy1 hs2;rcases(show y=0\/y=1\/y=2\/y=3\/y=4\/y=5 by omega) with rfl|rfl|rfl|rfl|rfl|rfl
  all_goals clear hy
  focus
   go_wp2_with fail
   refine Calls.mono (sN a 3 7 2 0 (by omega) (by omega) (by omega) (by omega)) ?_;rintro e3 I ⟨v3,rfl,l,hP⟩;obtain⟨vo,vp,vc,rfl,E⟩:=hP.q;have p:u.grownBy I (some sb):=dy b (fH (some sb) l);have N:=D.out.ext l
  rotate_left
  focus
   go_wp2_with fail
   refine Calls.mono (sN a 4 5 2 0 (by omega) (by omega) (by omega) (by omega)) ?_;rintro e3 I ⟨v3,rfl,l,hP⟩;obtain⟨vo,vp,vc,rfl,E⟩:=hP.q;have p:u.grownBy I (some sb):=dy b (fH (some sb) l);have N:=D.out.ext l
  rotate_left
  focus
   go_wp2_with fail
   refine Calls.mono (sN a 2 8 3 0 (by omega) (by omega) (by omega) (by omega)) ?_;rintro e3 I ⟨v3,rfl,l,hP⟩;obtain⟨vo,vp,vc,rfl,E⟩:=hP.q;have p:u.grownBy I (some sb):=dy b (fH (some sb) l);have N:=D.out.ext l
  rotate_left
  focus
   go_wp2_with fail
   refine Calls.mono (sN a 2 8 5 0 (by omega) (by omega) (by omega) (by omega)) ?_;rintro e3 I ⟨v3,rfl,l,hP⟩;obtain⟨vo,vp,vc,rfl,E⟩:=hP.q;have p:u.grownBy I (some sb):=dy b (fH (some sb) l);have N:=D.out.ext l
  rotate_left
  focus
   go_wp2_with fail
   refine Calls.mono (sN a 4 4 3 0 (by omega) (by omega) (by omega) (by omega)) ?_;rintro e3 I ⟨v3,rfl,l,hP⟩;obtain⟨vo,vp,vc,rfl,E⟩:=hP.q;have p:u.grownBy I (some sb):=dy b (fH (some sb) l);have N:=D.out.ext l
  rotate_left
  focus
   go_wp2_with fail
   refine Calls.mono (sN a 3 9 4 0 (by omega) (by omega) (by omega) (by omega)) ?_;rintro e3 I ⟨v3,rfl,l,hP⟩;obtain⟨vo,vp,vc,rfl,E⟩:=hP.q;have p:u.grownBy I (some sb):=dy b (fH (some sb) l);have N:=D.out.ext l
  rotate_left
 rotate_left 6
 focus
  go_wp2_with fail
  have O:Ext u (u.alloc (.cells #[.int .i64 2,.int .i64 3,.int .i64 2,.int .i64 3,.int .i64 5] 2)):=World.grownBy_alloc _ _ _;have hL:Ints (λk=>k=u.heap.size) (u.alloc (.cells #[.int .i64 2,.int .i64 3,.int .i64 2,.int .i64 3,.int .i64 5] 2)) (.slice (some ⟨u.heap.size,0,none⟩) 5 5) [2,3,2,3,5]:=j4 u [2,3,2,3,5] (by simp);have av:(u.alloc (.cells #[.int .i64 2,.int .i64 3,.int .i64 2,.int .i64 3,.int .i64 5] 2)).heap.size=u.heap.size+1:=by simp
  generalize u.alloc (.cells #[.int .i64 2,.int .i64 3,.int .i64 2,.int .i64 3,.int .i64 5] 2)=wL at *;refine Calls.mono (Go.Proofs.YtoakmefajbbggaaGreat.u7 B0 wL sb _ [2,3,2,3,5] _ (ab.out.ext O) hL (λk hk=>by omega) (by simp) (by simp)) ?_;rintro e2 a ⟨v2,rfl,V,i,Y,rfl,hs2⟩;have hm:∀y∈([2,3,2,3,5]:List Int),2<=y/\y<=5:=by simp
  have aH:=hm _ (fT Y);generalize gt ([2,3,2,3,5]:List Int) i=m at *;clear hm Y hL;have b:=dy (fH (some sb) O) V;have ah:w.heap.size+1<=a.heap.size:=by have:=b.size;omega
  clear O V;have D:=Lib.hid hs2;clear hs2;go_wp2_with fail
  refine Calls.mono (NB B0 a sb m (by omega) D.out) ?_;rintro e3 I ⟨v3,rfl,l,hP,hs3⟩;obtain⟨vo,vp,vc,rfl,E⟩:=hP.q;have p:u.grownBy I (some sb):=dy b l;have N:=hs3
 rotate_left
 focus
  go_wp2_with fail
  refine Calls.mono (kZ B0 u sb 6 ab.out) ?_;rintro e2 a ⟨v2,rfl,b,y,rfl,hy0,hy1,hs2⟩;have hy:=hy1 (by omega);have D:=Lib.hid hs2;have ah:w.heap.size+1<=a.heap.size:=by have:=b.size;omega
  clear hy0 hy1 hs2;rcases(show y=0\/y=1\/y=2\/y=3\/y=4\/y=5 by omega) with rfl|rfl|rfl|rfl|rfl|rfl
  all_goals clear hy
  focus
   go_wp2_with fail
   have F:Ext a (a.alloc (.cells #[.int .i64 2,.int .i64 0] 2)):=World.grownBy_alloc _ _ _;have R:Ints Any (a.alloc (.cells #[.int .i64 2,.int .i64 0] 2)) (.slice (some ⟨a.heap.size,0,none⟩) 2 2) [2,0]:=Ints.sub (j4 a [2,0] (by simp)) (λ_ _ _=>trivial);have r:(a.alloc (.cells #[.int .i64 2,.int .i64 0] 2)).heap.size=a.heap.size+1:=by simp
   generalize a.alloc (.cells #[.int .i64 2,.int .i64 0] 2)=u0 at *;have z:Ext u0 (u0.alloc (.cells #[.int .i64 0,.int .i64 2] 2)):=World.grownBy_alloc _ _ _;have J:Ints Any (u0.alloc (.cells #[.int .i64 0,.int .i64 2] 2)) (.slice (some ⟨u0.heap.size,0,none⟩) 2 2) [0,2]:=Ints.sub (j4 u0 [0,2] (by simp)) (λ_ _ _=>trivial);have C:(u0.alloc (.cells #[.int .i64 0,.int .i64 2] 2)).heap.size=u0.heap.size+1:=by simp
   generalize u0.alloc (.cells #[.int .i64 0,.int .i64 2] 2)=u1 at *;rw[r] at J;have S:=Ints.ext (R) z;have T:=J
   have G:∀i,i<([[2,0],[0,2]]:List (List Int)).length->Ints Any u1 (gt ([.slice (some ⟨a.heap.size,0,none⟩) 2 2,.slice (some ⟨a.heap.size+1,0,none⟩) 2 2]:List Value) i) (gt ([[2,0],[0,2]]:List (List Int)) i):=by
    intro i Y;rcases(show i=0\/i=1 by simp at Y;omega) with rfl|rfl
    ·exact S
    ·exact T
   have K:=vH u1 [.slice (some ⟨a.heap.size,0,none⟩) 2 2,.slice (some ⟨a.heap.size+1,0,none⟩) 2 2] [[2,0],[0,2]] rfl (by simp) G;have U:=World.grownBy_alloc u1 (.cells #[.slice (some ⟨a.heap.size,0,none⟩) 2 2,.slice (some ⟨a.heap.size+1,0,none⟩) 2 2] 24) none;have A:Ext a (u1.alloc (.cells #[.slice (some ⟨a.heap.size,0,none⟩) 2 2,.slice (some ⟨a.heap.size+1,0,none⟩) 2 2] 24)):=dy F (dy z U);have ao:u1.heap.size=a.heap.size+2:=by omega
   rw[C,r] at K;refine Calls.mono (vw _ 3 2 _ [[2,0],[0,2]] Any K (by unfold oG Sm;simp) (by omega) (by omega) (by simp)) ?_;rintro e3 I ⟨v3,rfl,l,hP⟩;have hP:=hP.q.mono (B':=a.heap.size) (Nat.le_refl _) A.size;have H:Ext a I:=dy A l;clear K U A G S R F r T J z C;obtain⟨vo,vp,vc,rfl,E⟩:=hP;have p:u.grownBy I (some sb):=dy b (fH (some sb) H);have N:=D.out.ext H
  rotate_left
  focus
   go_wp2_with fail
   have F:Ext a (a.alloc (.cells #[.int .i64 0,.int .i64 1] 2)):=World.grownBy_alloc _ _ _;have R:Ints Any (a.alloc (.cells #[.int .i64 0,.int .i64 1] 2)) (.slice (some ⟨a.heap.size,0,none⟩) 2 2) [0,1]:=Ints.sub (j4 a [0,1] (by simp)) (λ_ _ _=>trivial);have r:(a.alloc (.cells #[.int .i64 0,.int .i64 1] 2)).heap.size=a.heap.size+1:=by simp
   generalize a.alloc (.cells #[.int .i64 0,.int .i64 1] 2)=u0 at *;have z:Ext u0 (u0.alloc (.cells #[.int .i64 2,.int .i64 0] 2)):=World.grownBy_alloc _ _ _;have J:Ints Any (u0.alloc (.cells #[.int .i64 2,.int .i64 0] 2)) (.slice (some ⟨u0.heap.size,0,none⟩) 2 2) [2,0]:=Ints.sub (j4 u0 [2,0] (by simp)) (λ_ _ _=>trivial);have C:(u0.alloc (.cells #[.int .i64 2,.int .i64 0] 2)).heap.size=u0.heap.size+1:=by simp
   generalize u0.alloc (.cells #[.int .i64 2,.int .i64 0] 2)=u1 at *;rw[r] at J;have S:=Ints.ext (R) z;have T:=J
   have G:∀i,i<([[0,1],[2,0]]:List (List Int)).length->Ints Any u1 (gt ([.slice (some ⟨a.heap.size,0,none⟩) 2 2,.slice (some ⟨a.heap.size+1,0,none⟩) 2 2]:List Value) i) (gt ([[0,1],[2,0]]:List (List Int)) i):=by
    intro i Y;rcases(show i=0\/i=1 by simp at Y;omega) with rfl|rfl
    ·exact S
    ·exact T
   have K:=vH u1 [.slice (some ⟨a.heap.size,0,none⟩) 2 2,.slice (some ⟨a.heap.size+1,0,none⟩) 2 2] [[0,1],[2,0]] rfl (by simp) G;have U:=World.grownBy_alloc u1 (.cells #[.slice (some ⟨a.heap.size,0,none⟩) 2 2,.slice (some ⟨a.heap.size+1,0,none⟩) 2 2] 24) none;have A:Ext a (u1.alloc (.cells #[.slice (some ⟨a.heap.size,0,none⟩) 2 2,.slice (some ⟨a.heap.size+1,0,none⟩) 2 2] 24)):=dy F (dy z U);have ao:u1.heap.size=a.heap.size+2:=by omega
   rw[C,r] at K;refine Calls.mono (vw _ 3 4 _ [[0,1],[2,0]] Any K (by unfold oG Sm;simp) (by omega) (by omega) (by simp)) ?_;rintro e3 I ⟨v3,rfl,l,hP⟩;have hP:=hP.q.mono (B':=a.heap.size) (Nat.le_refl _) A.size;have H:Ext a I:=dy A l;clear K U A G S R F r T J z C;obtain⟨vo,vp,vc,rfl,E⟩:=hP;have p:u.grownBy I (some sb):=dy b (fH (some sb) H);have N:=D.out.ext H
  rotate_left
  focus
   go_wp2_with fail
   have F:Ext a (a.alloc (.cells #[.int .i64 0,.int .i64 1,.int .i64 0] 2)):=World.grownBy_alloc _ _ _;have R:Ints Any (a.alloc (.cells #[.int .i64 0,.int .i64 1,.int .i64 0] 2)) (.slice (some ⟨a.heap.size,0,none⟩) 3 3) [0,1,0]:=Ints.sub (j4 a [0,1,0] (by simp)) (λ_ _ _=>trivial);have r:(a.alloc (.cells #[.int .i64 0,.int .i64 1,.int .i64 0] 2)).heap.size=a.heap.size+1:=by simp
   generalize a.alloc (.cells #[.int .i64 0,.int .i64 1,.int .i64 0] 2)=u0 at *;have z:Ext u0 (u0.alloc (.cells #[.int .i64 0,.int .i64 0,.int .i64 1] 2)):=World.grownBy_alloc _ _ _;have J:Ints Any (u0.alloc (.cells #[.int .i64 0,.int .i64 0,.int .i64 1] 2)) (.slice (some ⟨u0.heap.size,0,none⟩) 3 3) [0,0,1]:=Ints.sub (j4 u0 [0,0,1] (by simp)) (λ_ _ _=>trivial);have C:(u0.alloc (.cells #[.int .i64 0,.int .i64 0,.int .i64 1] 2)).heap.size=u0.heap.size+1:=by simp
   generalize u0.alloc (.cells #[.int .i64 0,.int .i64 0,.int .i64 1] 2)=u1 at *;have L:Ext u1 (u1.alloc (.cells #[.int .i64 1,.int .i64 1,.int .i64 0] 2)):=World.grownBy_alloc _ _ _;have aa:Ints Any (u1.alloc (.cells #[.int .i64 1,.int .i64 1,.int .i64 0] 2)) (.slice (some ⟨u1.heap.size,0,none⟩) 3 3) [1,1,0]:=Ints.sub (j4 u1 [1,1,0] (by simp)) (λ_ _ _=>trivial);have W:(u1.alloc (.cells #[.int .i64 1,.int .i64 1,.int .i64 0] 2)).heap.size=u1.heap.size+1:=by simp
   generalize u1.alloc (.cells #[.int .i64 1,.int .i64 1,.int .i64 0] 2)=u2 at *;rw[r] at J;rw[C,r] at aa;have S:=Ints.ext (Ints.ext (R) z) L;have T:=Ints.ext (J) L;have af:=aa
   have G:∀i,i<([[0,1,0],[0,0,1],[1,1,0]]:List (List Int)).length->Ints Any u2 (gt ([.slice (some ⟨a.heap.size,0,none⟩) 3 3,.slice (some ⟨a.heap.size+1,0,none⟩) 3 3,.slice (some ⟨a.heap.size+1+1,0,none⟩) 3 3]:List Value) i) (gt ([[0,1,0],[0,0,1],[1,1,0]]:List (List Int)) i):=by
    intro i Y;rcases(show i=0\/i=1\/i=2 by simp at Y;omega) with rfl|rfl|rfl
    ·exact S
    ·exact T
    ·exact af
   have K:=vH u2 [.slice (some ⟨a.heap.size,0,none⟩) 3 3,.slice (some ⟨a.heap.size+1,0,none⟩) 3 3,.slice (some ⟨a.heap.size+1+1,0,none⟩) 3 3] [[0,1,0],[0,0,1],[1,1,0]] rfl (by simp) G;have U:=World.grownBy_alloc u2 (.cells #[.slice (some ⟨a.heap.size,0,none⟩) 3 3,.slice (some ⟨a.heap.size+1,0,none⟩) 3 3,.slice (some ⟨a.heap.size+1+1,0,none⟩) 3 3] 24) none;have A:Ext a (u2.alloc (.cells #[.slice (some ⟨a.heap.size,0,none⟩) 3 3,.slice (some ⟨a.heap.size+1,0,none⟩) 3 3,.slice (some ⟨a.heap.size+1+1,0,none⟩) 3 3] 24)):=dy F (dy z (dy L U));have ao:u2.heap.size=a.heap.size+3:=by omega
   rw[W,C,r] at K;refine Calls.mono (vw _ 2 7 _ [[0,1,0],[0,0,1],[1,1,0]] Any K (by unfold oG Sm;simp) (by omega) (by omega) (by simp)) ?_;rintro e3 I ⟨v3,rfl,l,hP⟩;have hP:=hP.q.mono (B':=a.heap.size) (Nat.le_refl _) A.size;have H:Ext a I:=dy A l;clear K U A G S R F r T J z C af aa L W;obtain⟨vo,vp,vc,rfl,E⟩:=hP;have p:u.grownBy I (some sb):=dy b (fH (some sb) H);have N:=D.out.ext H
  rotate_left
  focus
   go_wp2_with fail
   have F:Ext a (a.alloc (.cells #[.int .i64 1,.int .i64 1,.int .i64 0] 2)):=World.grownBy_alloc _ _ _;have R:Ints Any (a.alloc (.cells #[.int .i64 1,.int .i64 1,.int .i64 0] 2)) (.slice (some ⟨a.heap.size,0,none⟩) 3 3) [1,1,0]:=Ints.sub (j4 a [1,1,0] (by simp)) (λ_ _ _=>trivial);have r:(a.alloc (.cells #[.int .i64 1,.int .i64 1,.int .i64 0] 2)).heap.size=a.heap.size+1:=by simp
   generalize a.alloc (.cells #[.int .i64 1,.int .i64 1,.int .i64 0] 2)=u0 at *;have z:Ext u0 (u0.alloc (.cells #[.int .i64 0,.int .i64 1,.int .i64 1] 2)):=World.grownBy_alloc _ _ _;have J:Ints Any (u0.alloc (.cells #[.int .i64 0,.int .i64 1,.int .i64 1] 2)) (.slice (some ⟨u0.heap.size,0,none⟩) 3 3) [0,1,1]:=Ints.sub (j4 u0 [0,1,1] (by simp)) (λ_ _ _=>trivial);have C:(u0.alloc (.cells #[.int .i64 0,.int .i64 1,.int .i64 1] 2)).heap.size=u0.heap.size+1:=by simp
   generalize u0.alloc (.cells #[.int .i64 0,.int .i64 1,.int .i64 1] 2)=u1 at *;have L:Ext u1 (u1.alloc (.cells #[.int .i64 0,.int .i64 0,.int .i64 1] 2)):=World.grownBy_alloc _ _ _;have aa:Ints Any (u1.alloc (.cells #[.int .i64 0,.int .i64 0,.int .i64 1] 2)) (.slice (some ⟨u1.heap.size,0,none⟩) 3 3) [0,0,1]:=Ints.sub (j4 u1 [0,0,1] (by simp)) (λ_ _ _=>trivial);have W:(u1.alloc (.cells #[.int .i64 0,.int .i64 0,.int .i64 1] 2)).heap.size=u1.heap.size+1:=by simp
   generalize u1.alloc (.cells #[.int .i64 0,.int .i64 0,.int .i64 1] 2)=u2 at *;rw[r] at J;rw[C,r] at aa;have S:=Ints.ext (Ints.ext (R) z) L;have T:=Ints.ext (J) L;have af:=aa
   have G:∀i,i<([[1,1,0],[0,1,1],[0,0,1]]:List (List Int)).length->Ints Any u2 (gt ([.slice (some ⟨a.heap.size,0,none⟩) 3 3,.slice (some ⟨a.heap.size+1,0,none⟩) 3 3,.slice (some ⟨a.heap.size+1+1,0,none⟩) 3 3]:List Value) i) (gt ([[1,1,0],[0,1,1],[0,0,1]]:List (List Int)) i):=by
    intro i Y;rcases(show i=0\/i=1\/i=2 by simp at Y;omega) with rfl|rfl|rfl
    ·exact S
    ·exact T
    ·exact af
   have K:=vH u2 [.slice (some ⟨a.heap.size,0,none⟩) 3 3,.slice (some ⟨a.heap.size+1,0,none⟩) 3 3,.slice (some ⟨a.heap.size+1+1,0,none⟩) 3 3] [[1,1,0],[0,1,1],[0,0,1]] rfl (by simp) G;have U:=World.grownBy_alloc u2 (.cells #[.slice (some ⟨a.heap.size,0,none⟩) 3 3,.slice (some ⟨a.heap.size+1,0,none⟩) 3 3,.slice (some ⟨a.heap.size+1+1,0,none⟩) 3 3] 24) none;have A:Ext a (u2.alloc (.cells #[.slice (some ⟨a.heap.size,0,none⟩) 3 3,.slice (some ⟨a.heap.size+1,0,none⟩) 3 3,.slice (some ⟨a.heap.size+1+1,0,none⟩) 3 3] 24)):=dy F (dy z (dy L U));have ao:u2.heap.size=a.heap.size+3:=by omega
   rw[W,C,r] at K;refine Calls.mono (vw _ 2 4 _ [[1,1,0],[0,1,1],[0,0,1]] Any K (by unfold oG Sm;simp) (by omega) (by omega) (by simp)) ?_;rintro e3 I ⟨v3,rfl,l,hP⟩;have hP:=hP.q.mono (B':=a.heap.size) (Nat.le_refl _) A.size;have H:Ext a I:=dy A l;clear K U A G S R F r T J z C af aa L W;obtain⟨vo,vp,vc,rfl,E⟩:=hP;have p:u.grownBy I (some sb):=dy b (fH (some sb) H);have N:=D.out.ext H
  rotate_left
  focus
   go_wp2_with fail
   have F:Ext a (a.alloc (.cells #[.int .i64 0,.int .i64 1,.int .i64 0,.int .i64 0] 2)):=World.grownBy_alloc _ _ _;have R:Ints Any (a.alloc (.cells #[.int .i64 0,.int .i64 1,.int .i64 0,.int .i64 0] 2)) (.slice (some ⟨a.heap.size,0,none⟩) 4 4) [0,1,0,0]:=Ints.sub (j4 a [0,1,0,0] (by simp)) (λ_ _ _=>trivial);have r:(a.alloc (.cells #[.int .i64 0,.int .i64 1,.int .i64 0,.int .i64 0] 2)).heap.size=a.heap.size+1:=by simp
   generalize a.alloc (.cells #[.int .i64 0,.int .i64 1,.int .i64 0,.int .i64 0] 2)=u0 at *;have z:Ext u0 (u0.alloc (.cells #[.int .i64 1,.int .i64 0,.int .i64 0,.int .i64 0] 2)):=World.grownBy_alloc _ _ _;have J:Ints Any (u0.alloc (.cells #[.int .i64 1,.int .i64 0,.int .i64 0,.int .i64 0] 2)) (.slice (some ⟨u0.heap.size,0,none⟩) 4 4) [1,0,0,0]:=Ints.sub (j4 u0 [1,0,0,0] (by simp)) (λ_ _ _=>trivial);have C:(u0.alloc (.cells #[.int .i64 1,.int .i64 0,.int .i64 0,.int .i64 0] 2)).heap.size=u0.heap.size+1:=by simp
   generalize u0.alloc (.cells #[.int .i64 1,.int .i64 0,.int .i64 0,.int .i64 0] 2)=u1 at *;have L:Ext u1 (u1.alloc (.cells #[.int .i64 0,.int .i64 0,.int .i64 0,.int .i64 1] 2)):=World.grownBy_alloc _ _ _;have aa:Ints Any (u1.alloc (.cells #[.int .i64 0,.int .i64 0,.int .i64 0,.int .i64 1] 2)) (.slice (some ⟨u1.heap.size,0,none⟩) 4 4) [0,0,0,1]:=Ints.sub (j4 u1 [0,0,0,1] (by simp)) (λ_ _ _=>trivial);have W:(u1.alloc (.cells #[.int .i64 0,.int .i64 0,.int .i64 0,.int .i64 1] 2)).heap.size=u1.heap.size+1:=by simp
   generalize u1.alloc (.cells #[.int .i64 0,.int .i64 0,.int .i64 0,.int .i64 1] 2)=u2 at *;have ag:Ext u2 (u2.alloc (.cells #[.int .i64 0,.int .i64 0,.int .i64 1,.int .i64 0] 2)):=World.grownBy_alloc _ _ _;have aJ:Ints Any (u2.alloc (.cells #[.int .i64 0,.int .i64 0,.int .i64 1,.int .i64 0] 2)) (.slice (some ⟨u2.heap.size,0,none⟩) 4 4) [0,0,1,0]:=Ints.sub (j4 u2 [0,0,1,0] (by simp)) (λ_ _ _=>trivial);have aC:(u2.alloc (.cells #[.int .i64 0,.int .i64 0,.int .i64 1,.int .i64 0] 2)).heap.size=u2.heap.size+1:=by simp
   generalize u2.alloc (.cells #[.int .i64 0,.int .i64 0,.int .i64 1,.int .i64 0] 2)=u3 at *;rw[r] at J;rw[C,r] at aa;rw[W,C,r] at aJ;have S:=Ints.ext (Ints.ext (Ints.ext (R) z) L) ag;have T:=Ints.ext (Ints.ext (J) L) ag;have af:=Ints.ext (aa) ag;have aT:=aJ
   have G:∀i,i<([[0,1,0,0],[1,0,0,0],[0,0,0,1],[0,0,1,0]]:List (List Int)).length->Ints Any u3 (gt ([.slice (some ⟨a.heap.size,0,none⟩) 4 4,.slice (some ⟨a.heap.size+1,0,none⟩) 4 4,.slice (some ⟨a.heap.size+1+1,0,none⟩) 4 4,.slice (some ⟨a.heap.size+1+1+1,0,none⟩) 4 4]:List Value) i) (gt ([[0,1,0,0],[1,0,0,0],[0,0,0,1],[0,0,1,0]]:List (List Int)) i):=by
    intro i Y;rcases(show i=0\/i=1\/i=2\/i=3 by simp at Y;omega) with rfl|rfl|rfl|rfl
    ·exact S
    ·exact T
    ·exact af
    ·exact aT
   have K:=vH u3 [.slice (some ⟨a.heap.size,0,none⟩) 4 4,.slice (some ⟨a.heap.size+1,0,none⟩) 4 4,.slice (some ⟨a.heap.size+1+1,0,none⟩) 4 4,.slice (some ⟨a.heap.size+1+1+1,0,none⟩) 4 4] [[0,1,0,0],[1,0,0,0],[0,0,0,1],[0,0,1,0]] rfl (by simp) G;have U:=World.grownBy_alloc u3 (.cells #[.slice (some ⟨a.heap.size,0,none⟩) 4 4,.slice (some ⟨a.heap.size+1,0,none⟩) 4 4,.slice (some ⟨a.heap.size+1+1,0,none⟩) 4 4,.slice (some ⟨a.heap.size+1+1+1,0,none⟩) 4 4] 24) none;have A:Ext a (u3.alloc (.cells #[.slice (some ⟨a.heap.size,0,none⟩) 4 4,.slice (some ⟨a.heap.size+1,0,none⟩) 4 4,.slice (some ⟨a.heap.size+1+1,0,none⟩) 4 4,.slice (some ⟨a.heap.size+1+1+1,0,none⟩) 4 4] 24)):=dy F (dy z (dy L (dy ag U)));have ao:u3.heap.size=a.heap.size+4:=by omega
   rw[aC,W,C,r] at K;refine Calls.mono (vw _ 2 2 _ [[0,1,0,0],[1,0,0,0],[0,0,0,1],[0,0,1,0]] Any K (by unfold oG Sm;simp) (by omega) (by omega) (by simp)) ?_;rintro e3 I ⟨v3,rfl,l,hP⟩;have hP:=hP.q.mono (B':=a.heap.size) (Nat.le_refl _) A.size;have H:Ext a I:=dy A l;clear K U A G S R F r T J z C af aa L W aT aJ ag aC;obtain⟨vo,vp,vc,rfl,E⟩:=hP;have p:u.grownBy I (some sb):=dy b (fH (some sb) H);have N:=D.out.ext H
  rotate_left
  focus
   go_wp2_with fail
   have F:Ext a (a.alloc (.cells #[.int .i64 0,.int .i64 1] 2)):=World.grownBy_alloc _ _ _;have R:Ints Any (a.alloc (.cells #[.int .i64 0,.int .i64 1] 2)) (.slice (some ⟨a.heap.size,0,none⟩) 2 2) [0,1]:=Ints.sub (j4 a [0,1] (by simp)) (λ_ _ _=>trivial);have r:(a.alloc (.cells #[.int .i64 0,.int .i64 1] 2)).heap.size=a.heap.size+1:=by simp
   generalize a.alloc (.cells #[.int .i64 0,.int .i64 1] 2)=u0 at *;have z:Ext u0 (u0.alloc (.cells #[.int .i64 4,.int .i64 4] 2)):=World.grownBy_alloc _ _ _;have J:Ints Any (u0.alloc (.cells #[.int .i64 4,.int .i64 4] 2)) (.slice (some ⟨u0.heap.size,0,none⟩) 2 2) [4,4]:=Ints.sub (j4 u0 [4,4] (by simp)) (λ_ _ _=>trivial);have C:(u0.alloc (.cells #[.int .i64 4,.int .i64 4] 2)).heap.size=u0.heap.size+1:=by simp
   generalize u0.alloc (.cells #[.int .i64 4,.int .i64 4] 2)=u1 at *;rw[r] at J;have S:=Ints.ext (R) z;have T:=J
   have G:∀i,i<([[0,1],[4,4]]:List (List Int)).length->Ints Any u1 (gt ([.slice (some ⟨a.heap.size,0,none⟩) 2 2,.slice (some ⟨a.heap.size+1,0,none⟩) 2 2]:List Value) i) (gt ([[0,1],[4,4]]:List (List Int)) i):=by
    intro i Y;rcases(show i=0\/i=1 by simp at Y;omega) with rfl|rfl
    ·exact S
    ·exact T
   have K:=vH u1 [.slice (some ⟨a.heap.size,0,none⟩) 2 2,.slice (some ⟨a.heap.size+1,0,none⟩) 2 2] [[0,1],[4,4]] rfl (by simp) G;have U:=World.grownBy_alloc u1 (.cells #[.slice (some ⟨a.heap.size,0,none⟩) 2 2,.slice (some ⟨a.heap.size+1,0,none⟩) 2 2] 24) none;have A:Ext a (u1.alloc (.cells #[.slice (some ⟨a.heap.size,0,none⟩) 2 2,.slice (some ⟨a.heap.size+1,0,none⟩) 2 2] 24)):=dy F (dy z U);have ao:u1.heap.size=a.heap.size+2:=by omega
   rw[C,r] at K;refine Calls.mono (vw _ 5 3 _ [[0,1],[4,4]] Any K (by unfold oG Sm;simp) (by omega) (by omega) (by simp)) ?_;rintro e3 I ⟨v3,rfl,l,hP⟩;have hP:=hP.q.mono (B':=a.heap.size) (Nat.le_refl _) A.size;have H:Ext a I:=dy A l;clear K U A G S R F r T J z C;obtain⟨vo,vp,vc,rfl,E⟩:=hP;have p:u.grownBy I (some sb):=dy b (fH (some sb) H);have N:=D.out.ext H
  rotate_left
 rotate_left 6
 focus
  go_wp2_with fail
  refine Calls.mono (kZ B0 u sb 10 ab.out) ?_;rintro e2 a ⟨v2,rfl,b,y,rfl,hy0,hy1,hs2⟩;have hy:=hy1 (by omega);have D:=Lib.hid hs2;have ah:w.heap.size+1<=a.heap.size:=by have:=b.size;omega
  clear hy0 hy1 hs2;go_wp2_with fail
  refine Calls.mono (GC a y hy.1 hy.2) ?_;rintro e3 I ⟨v3,rfl,l,hP⟩;obtain⟨vo,vp,vc,rfl,E⟩:=hP;have p:u.grownBy I (some sb):=dy b (fH (some sb) l);have N:=D.out.ext l
 rotate_left
 focus
  go_wp2_with fail
  refine Calls.mono (kZ B0 u sb 10 ab.out) ?_;rintro e2 a ⟨v2,rfl,b,y,rfl,hy0,hy1,hs2⟩;have hy:=hy1 (by omega);have D:=Lib.hid hs2;have ah:w.heap.size+1<=a.heap.size:=by have:=b.size;omega
  clear hy0 hy1 hs2;go_wp2_with fail
  refine Calls.mono (GC a y hy.1 hy.2) ?_;rintro e3 I ⟨v3,rfl,l,hP⟩;obtain⟨vo,vp,vc,rfl,E⟩:=hP;have p:u.grownBy I (some sb):=dy b (fH (some sb) l);have N:=D.out.ext l
 rotate_left
 all_goals
  obtain⟨a1,n1,c1,a2,n2,c2,a3,n3,c3,rfl,rfl,rfl⟩:=E.shape;have Z:=fG.keep ak p.size (p.block _ ak.1 (λe=>by have:=Option.some.inj e;omega));have X:=dy am p;obtain⟨b0,b1,b2,b3,b4⟩:=id Z;have hZ:=Z.all (.slice a1 n1 c1) (.slice a2 n2 c2) (.slice a3 n3 c3);obtain⟨-,z0,z1,z2,-⟩:=id hZ;have HF:=Lib.hid (And.intro X (And.intro E N));clear hZ X E Z;go_wp2_with fail
  refine bodyPost_ret (v := .agg #[.slice a1 n1 c1,.slice a2 n2 c2,.slice a3 n3 c3]) (by simp[results,Tryz.results220,go_sem,z0,z1,z2]) rfl ?_;exact CZ HF.out.1 (B:=a.heap.size) (by omega) HF.out.2.2 aD HF.out.2.1 (by omega)
end Go.Proofs.YtoakmefajbbggaaGreat
namespace Go.Proofs.YtoakmefajbbggaaGreat
open Go.RowKit
theorem ND (T E:Nat) (z:Value) (bytes:Nat) (I:Tryz.prog.underlying T=some (.slice E)) (Y:(Tryz.prog.info? E).map (λi=>(i.zero,i.size,i.bytes))=some (some z,1,bytes))
  (C:z.cells.size=1) (D:bytes<=64) {F:Array Oper}{o:Oper}{a:Act}{K:Act->World->Prop}{Q:Exit->Act->World->Prop}{Z:Prop}{w:World}(r:o.guard=none) (s x:Operand)
  (J:o.op=Op.call { callee:=Callee.builtin Builtin.append,args := #[s,x],argTypes := #[T,T] }) (base g cap:Nat) (xs:List Value) (L:a.eval s=.slice (some ⟨g,0,none⟩) xs.length cap) (k:fK base E w (.slice (some ⟨g,0,none⟩) xs.length cap) xs)
  (H:Option Addr) (m c:Nat) (news:List Value) (hx:a.eval x=.slice H m c) (R:news.length=m) (M:H=none->c=0)
  (l:∀j,j<m->∃b off,H=some ⟨b,off,none⟩/\w.cell? ⟨b,off+j,none⟩=some (gt news j)) (h1:∀u,u∈news->u.oneCell'=true) (S:xs.length+m<=1000000) (y:base<=w.heap.size)
  (h:∀U w',fK base E w' U (xs++news)->w.grownBy w' (some g)->K (a.put o.dst U) w') :
  if Region.wanted o (yielded F a.tmps)=true then Oper.wp Tryz.prog o a w K Q else Z:=by
 obtain⟨N,hi,hz0,hz1,hz2⟩:=info_parts Y;have hw:Region.wanted o (yielded F a.tmps)=true:=by simp[Region.wanted,r]
 rcases Nat.eq_zero_or_pos m with rfl|V
 ·have hn:news=[]:=List.eq_nil_of_length_eq_zero R
  subst hn;have p:=k;rw[List.append_nil] at h;cases H with
  | none=>
   have B:=M rfl;subst B;rw[if_pos hw];have G:=run_append_owned_none (P:=Tryz.prog) (w:=w) base T o.type E N 1 I hi _ xs.length xs k;unfold Oper.wp;simp[execOp,J,resolve,invoke,builtin,L,hx,G,Result.andThen]
   exact h _ _ p (gZ _ _)
  | some ad=>
   have W:xs.length<=cap:=by
    rcases k.form with⟨h,_⟩|⟨g',cp,hv,B,_⟩
    ·cases h
    ·simp only[Value.slice.injEq] at hv;omega
   refine GM w r s x T J E N z 1 bytes I hi hz0 hz1 hz2 C (by decide) g 0 xs.length cap xs L (by omega) (λj u q => ?_) ad 0 c [] hx rfl (by simp) (by simp) (λ_ j q=>by simp at q) (by unfold maxLen;omega) (by have:=Nat.mul_le_mul (show xs.length+0<=1000000 by omega) D;omega) (λ_ => ?_) (λh=>by omega)
   ·have A:j<xs.length:=by
     rcases Nat.lt_or_ge j xs.length with h|h
     ·exact h
     ·rw[List.getElem?_eq_none h] at q;cases q
    rw[Nat.zero_add,k.cell j A];simp[gt,q]
   ·have e:w.setCells g (0+xs.length*1) []=w:=by simp[World.setCells]
    rw[e];exact h _ _ p (gZ _ _)
 ·obtain ⟨b,off,rfl,_⟩:=l 0 V
  refine step_append_lies w r s x T J base E N z 1 bytes I hi hz0 hz1 hz2 C (by decide) _ xs.length xs L k ⟨b,off,none⟩ m c news hx (by omega) (λj u q => ?_) h1 V (by unfold maxLen;omega) (by have:=Nat.mul_le_mul (show xs.length+m<=1000000 by omega) D;omega) y w.heap.size rfl ?_
  ·have A:j<m:=by
    rcases Nat.lt_or_ge j news.length with h|h
    ·omega
    ·rw[List.getElem?_eq_none h] at q;cases q
   obtain⟨b',off',he,B⟩:=l j A;cases he
   have O:gt news j=u:=by simp[gt,q]
   rw[O] at B;unfold Addr.add;split
   ·rename_i h0;subst h0;exact B
   ·exact B
  ·intro g' X w' k1 k2 k3 _
   exact h _ w' (by unfold fK;rw[List.length_append,R];exact k1) k2
theorem NF {q:Array Oper}{o:Oper}{a:Act}{K:Act->World->Prop}{Q:Exit->Act->World->Prop}{D:Prop}{w:World}(r:o.guard=none) (s x:Operand)
  (E:o.op=Op.call { callee:=Callee.builtin Builtin.append,args := #[s,x],argTypes := #[24,24] }) (B g cap n:Nat) (l m:List Int) (y:l.length=n) (F:a.eval s=.slice (some ⟨g,0,none⟩) n cap)
  (i:Own B w (.slice (some ⟨g,0,none⟩) n cap) l) (v:Value) (S:Nat->Prop) (G:Ints S w v m) (hx:a.eval x=v) (k:l.length+m.length<=1000000) (e:B<=w.heap.size)
  (h:∀p w',Own B w' p (l++m)->w.grownBy w' (some g)->K (a.put o.dst p) w') :
  if Region.wanted o (yielded q a.tmps)=true then Oper.wp Tryz.prog o a w K Q else D:=by
 subst y;obtain⟨H,c,rfl,⟨_,_,I⟩,hc⟩:=G;have z:(l.map (Value.int .i64)).length=l.length:=List.length_map ..;refine ND 24 2 (.int .i64 0) 8 qz Tryz.pV rfl (by decide) r s x E B g cap (l.map (Value.int .i64)) (by rw[z];exact F) (by have:=i.v;rw[z];exact this) H m.length c (m.map (Value.int .i64)) hx (by simp) I (λj A => ?_) (λu C => ?_) (by rw[z];exact k) e (λp w' J L => ?_)
 ·obtain ⟨b,off,u,h1,_,_,M,h3⟩:=hc j A
  exact⟨b,off,h1,by rw[M,h3];simp[gt,A]⟩
 ·simp at C
  obtain⟨x,_,rfl⟩:=C;rfl
 ·exact h p w' (Own.of (by rw[List.map_append];exact J)) L
end Go.Proofs.YtoakmefajbbggaaGreat
namespace Go.Proofs.YtoakmefajbbggaaGreat
open Go.RowKit
attribute [local go_sem ↓] Go.wp_at_zero Go.wp_at_succ
theorem NG (w:World) (v:Value) (l:List Int) (S:Nat->Prop) (m:Ints S w v l) (u:l.length<=1048576) :
  Calls Tryz.prog 120 #[v] w (fq w λw' r=>Own w.heap.size w' r l/\∃g c,r=.slice (some ⟨g,0,none⟩) l.length c/\w.heap.size<=g):=by
 obtain⟨a,cap,rfl,_,_⟩:=m.shape;go_enter Tryz.func120,Tryz.ntmps120;go_wp2_with (at_builtin;refine rQ rfl _ _ rfl w.heap.size _ [] rfl (World.ownsRow_lit w #[] 0 (Nat.le_refl _) (by decide) rfl) _ l rfl S (m.ext (World.grownBy_alloc _ _ _)) (by simp;omega) (by simp) ?_;intro y z b i k)
 go_ret;refine⟨_,rfl,fu (World.grownBy_alloc _ _ _) i (λj p q=>by have:=ku p;omega),b,?_⟩;rcases b.v.form with⟨h1,_⟩|⟨g,c,h1,_,h2,_⟩
 ·exact absurd (k.1 h1).1 (by intro e;cases e)
 ·exact⟨g,c,by rw[h1];simp,h2⟩
def GN (w0:World) (o:List Int) (q:Value) (a:World):Prop:=∃pb b co ap e i j,q=.pointer (some ⟨pb,0,none⟩)/\Ext w0 a /\
 BX 40 o w0.heap.size pb a (.slice b o.length co) (.slice ap o.length e) (.slice i o.length j)
theorem GP {w0 i b:World}{o:List Int}{pb co j l:Nat}{m ap p:Option Addr}{B:Nat}(r:o.length<=40) (u:gu (From B) i (.slice m o.length co) (.slice ap o.length j) (.slice p o.length l) (j0 o)) (hB:w0.heap.size<=B) (w:w0.heap.size<=pb)
  (y:pb<B\/i.heap.size<=pb) (z:Ext w0 b) (q:i.grownBy b (some pb)) (A:fG b pb (.slice m o.length co) (.slice ap o.length j) (.slice p o.length l)):GN w0 o (.pointer (some ⟨pb,0,none⟩)) b:=
 ⟨pb,m,co,ap,j,p,l,rfl,z,w,A,j0 o,vk o r,rfl,u.mono (λk hk a=>by
  have C:B<=k:=hk;exact⟨⟨by omega,by omega⟩,Nat.lt_of_lt_of_le a q.size,q.block k a (λe=>by cases e;omega)⟩)⟩
theorem NH (w:World) (pa pb:Value) (A B:Pr) (Sa Sb:Nat->Prop) (ha:gy Sa w pa A) (hb:gy Sb w pb B) (hA:jK 20 A) (hB:jK 20 B) :
  Calls Tryz.prog 221 #[pa,pb] w (fq w (pH 40 w.heap.size)):=by
 obtain⟨vo,vp,vc,rfl,h3⟩:=ha;obtain⟨uo,up,uc,rfl,k3⟩:=hb;obtain⟨ao,ay,yh,_,_⟩:=h3.o.shape;obtain⟨ap,cap,hv2,_,_⟩:=Sl.shape h3.p;obtain⟨ac,aA,hv3,_,_⟩:=Sl.shape h3.c;obtain⟨bo,aB,yD,_,_⟩:=k3.o.shape;obtain⟨bp,aC,NI,_,_⟩:=Sl.shape k3.p;obtain⟨bc,aD,NJ,_,_⟩:=Sl.shape k3.c;subst yh hv2 hv3 yD NI NJ;obtain⟨w0,af⟩:∃w0,w0=((w.alloc (.cells #[.slice ao A.orders.length ay,.slice ap A.eH.length cap,.slice ac A.conj.length aA] 28)).alloc (.cells #[.slice bo B.orders.length aB,.slice bp B.eH.length aC,.slice bc B.conj.length aD] 28)).alloc (.cells #[.slice none 0 0,.slice none 0 0,.slice none 0 0] 28):=⟨_,rfl⟩;have bL:Ext w w0:=by rw[af];exact dy (World.grownBy_alloc _ _ _) (dy (World.grownBy_alloc _ _ _) (World.grownBy_alloc _ _ _))
 have bl:fG w0 w.heap.size (.slice ao A.orders.length ay) (.slice ap A.eH.length cap) (.slice ac A.conj.length aA):=by rw[af];exact((fG.made w 28 _ _ _).ext (World.grownBy_alloc _ _ _)).ext (World.grownBy_alloc _ _ _)
 have bm:fG w0 (w.heap.size+1) (.slice bo B.orders.length aB) (.slice bp B.eH.length aC) (.slice bc B.conj.length aD):=by
  have h:=(fG.made (w.alloc (.cells #[.slice ao A.orders.length ay,.slice ap A.eH.length cap,.slice ac A.conj.length aA] 28)) 28 (.slice bo B.orders.length aB) (.slice bp B.eH.length aC) (.slice bc B.conj.length aD)).ext (World.grownBy_alloc _ (.cells #[.slice none 0 0,.slice none 0 0,.slice none 0 0] 28) _);rw[af];simpa using h
 have bn:fG w0 (w.heap.size+1+1) (.slice none 0 0) (.slice none 0 0) (.slice none 0 0):=by
  have h:=fG.made ((w.alloc (.cells #[.slice ao A.orders.length ay,.slice ap A.eH.length cap,.slice ac A.conj.length aA] 28)).alloc (.cells #[.slice bo B.orders.length aB,.slice bp B.eH.length aC,.slice bc B.conj.length aD] 28)) 28 (.slice none 0 0) (.slice none 0 0) (.slice none 0 0);rw[af];simpa using h
 have aR:w0.heap.size=w.heap.size+3:=by rw[af];simp
 have L:=Lib.hid (And.intro bl (And.intro bm (And.intro bn (And.intro aR (And.intro hA hB)))));clear bl bm bn aR hA hB;go_enter Tryz.func221,Tryz.ntmps221;go_wp2_with fail
 rw[<-af];clear af;obtain⟨_,f0,f1,f2,_⟩:=id L.out.1;obtain⟨_,g0,g1,g2,_⟩:=id L.out.2.1;go_quiet (fail)
 rename_i nq _;obtain⟨M,a2⟩:∃M,M=w0.drewN nq:=⟨_,rfl⟩;have aF:Ext w0 M:=by rw[a2];exact iI _ _ _
 rw[<-a2];clear a2 f0 f1 f2 g0 g1 g2;have a3:=dy bL aF;have a4:=h3.ext a3;have a7:=k3.ext a3;have bq:=L.out.1.ext aF;have br:=L.out.2.1.ext aF;have bs:=L.out.2.2.1.ext aF;have a9:=L.out.2.2.2.2.1;have a':=L.out.2.2.2.2.2;have aR:=L.out.2.2.2.1;have b8:=aF.size;clear L h3 k3;have b9:A.orders.length<=20:=a9.n;have b':B.orders.length<=20:=a'.n;obtain⟨o,ho⟩:∃o,o=A.orders++B.orders:=⟨_,rfl⟩;have bt:o.length=A.orders.length+B.orders.length:=by rw[ho];simp
 have aG:o.length<=40:=by omega
 have L:=Lib.hid (And.intro bq (And.intro br (And.intro bs (And.intro a9 (And.intro a' (And.intro ho (And.intro bt aR)))))));clear bq br bs a9 a' ho bt;have e0:∀w',Ext M w'->w'.cell? ⟨w.heap.size,0,none⟩=some (.slice ao A.orders.length ay):=λw' h=>(L.out.1.ext h).2.1;have e1:∀w',Ext M w'->w'.cell? ⟨w.heap.size+1,0,none⟩=some (.slice bo B.orders.length aB):=λw' h=>(L.out.2.1.ext h).2.1;go_wp2_with fail
 go_cut [7] (λqv wx=>GN M o qv wx)
 case first=>
  go_region_held3 (λw'=>Ext M w') (first|exact fk _ _|assumption|exact dy (by assumption) (World.grownBy_alloc _ _ _)|exact fu (by assumption) (jh _ _ _ _ _) (λj hj D=>by cases hj;first|(exact absurd D (Nat.lt_irrefl _))|(have:=GQ.size;omega)|(have:=aW.size;omega)|(have:=GR.size;omega)))
   (first
    | (go_at_call 120;refine Calls.mono (Calls.jF (w0:=M) (by assumption) (NG _ _ A.orders Sa (Ints.ext a4.o (by assumption)) (by omega))) ?_;rintro eO wO ⟨vO,rfl,GQ,aX,bu,ba,gO,cO,rfl,bv⟩;(first|(have hQ:=fG.ext (fG.made _ _ _ _ _) aX)|(have hQ:=fG.ext (fG.made _ _ _ _ _) (dy (fk _ _) aX))|skip);(try obtain⟨f0,f1,f2,f3,f4⟩:=id hQ))
    | (refine NF rfl _ _ rfl M.heap.size gO cO A.orders.length A.orders B.orders rfl (by rfl) (by first|exact ba.weak bu|exact(ba.weak bu).gw (World.grownBy_alloc _ _ _)) _ Sb (Ints.ext a7.o (by assumption)) (by rfl) (by omega) ((show Ext M _ by assumption).size) ?_;intro v8 w8 bb aH;rw[<-L.out.2.2.2.2.2.1] at bb;obtain⟨a8,c8,nZ,_⟩:=(bb.ints (by omega)).shape;subst nZ;have bw:=Ints.sub (bb.ints (by omega)) (S':=Any) (λ_ _ _=>trivial);have aW:Ext M w8:=fu (by assumption) aH (λj hj D=>by cases hj;omega);(first|(have hQ:=fG.keep hQ aH.size (aH.block _ hQ.1 (λe=>by cases e;first|omega|(simp[World.drew] at bv<;>omega))))|(have hQ:=fG.keep (fG.made wO 28 (.slice none 0 0) (.slice none 0 0) (.slice none 0 0)) aH.size (aH.block _ (by simp) (λe=>by cases e;exact absurd (show wO.heap.size<wO.heap.size from(ba.lt _ rfl).2) (Nat.lt_irrefl _))))|skip);(try obtain⟨f0,f1,f2,f3,f4⟩:=id hQ))
    | (go_at_call 222;refine Calls.mono (Calls.jF (w0:=M) (by assumption) (qd _ _ o Any (by first|exact bw|exact Ints.ext bw (World.grownBy_alloc _ _ _)) (Nat.le_trans aG (by decide)))) ?_;rintro eT wT ⟨vT,rfl,GR,aY,bx,vo,vp,vc,rfl,G⟩;obtain⟨xo,co,xp,cp,xc,cc,rfl,rfl,rfl⟩:=rB G;(try have hQ:=fG.ext hQ aY);(first|(have hQ:=fG.ext (fG.made _ _ _ _ _) aY)|skip);(try obtain⟨f0,f1,f2,f3,f4⟩:=id hQ)))
  all_goals (try go_wp2_with fail)
  all_goals go_meet
  all_goals
   have ch:=GQ.size;have ci:=aW.size;have cj:=GR.size
   first
    | exact GP aG G bx (by omega) (.inr (Nat.le_refl _)) (dy (by assumption) (World.grownBy_alloc _ _ _)) (World.grownBy_alloc _ _ _) (fG.made _ _ _ _ _)
    | exact GP aG G bx (by omega) (.inl (by first|omega|(simp;done)|(simp;omega))) (by assumption) (jh _ _ _ _ _) (hQ.all _ _ _)
  done
 case rest =>
  obtain⟨rb,xo,co,xp,cp,xc,cc,rfl,aI,H⟩:=hcut;clear e0 e1;go_wp2;go_loopw [8] (λiv wr=>∃i:Nat,iv=.int .i64 i/\i<=A.orders.length/\Ext M wr/\BX 40 o M.heap.size rb wr (.slice xo o.length co) (.slice xp o.length cp) (.slice xc o.length cc)) (λiv _=>A.orders.length-(intOf iv).toNat)
  case atStart=>exact⟨0,rfl,by omega,aI,H⟩
  case round=>
   clear H aI;obtain⟨i,rfl,hi,F,H⟩:=hrel;by_cases D:i<A.orders.length
   ·have aq:(i:Int)<A.orders.length:=by omega
    have m:=L.out.2.2.2.1;have E:=L.out.2.2.2.2.2.2.1;have bz:=L.out.2.2.2.2.2.2.2;have aJ:i<A.eH.length:=by rw[m.p];exact D
    have bA:(i:Int)<A.eH.length:=by omega
    have ck:((i:Nat):Int)<o.length:=by omega
    have hK:i=i:=rfl;obtain⟨g,jL,z,kM,hgB,pJ,jB,aK,aL⟩:=H.qH i (by omega);obtain⟨rfl,rfl⟩:xp=some ⟨g,0,none⟩/\cp=jL:=by cases kM;exact⟨rfl,rfl⟩
    clear kM;obtain⟨b2,o2,az,Y,aM,_,NK,u,q⟩:=dK.at a4.p i aJ;have ah:=F.cell u (by simp);have N:=m.pv _ (fT aJ);obtain⟨O,Q⟩:∃O,O=gt A.eH i:=⟨_,rfl⟩;rw[<-Q] at ah q N;clear Q u;have V:=L.out.1.ext F;have e1:∀w',fI wr g w'->w'.cell? ⟨rb,1,none⟩=some (.slice (some ⟨g,0,none⟩) o.length cp):=λw' h=>h.cell H.box.2.2.1 (by simp;omega);have e2:∀w',fI wr g w'->w'.cell? ⟨w.heap.size,1,none⟩=some (.slice (some ⟨b2,o2,none⟩) A.eH.length cap):=λw' h=>h.cell (by rw[<-aM];exact V.2.2.1) (by simp;omega);have e3:∀w',fI wr g w'->w'.cell? ⟨b2,o2+i,none⟩=some (.slice az O.length Y):=λw' h=>h.cell ah (by simp;omega)
    have y:∀w',Ext wr w'->Calls Tryz.prog 265 #[.int .i64 0,.slice az O.length Y,.int .i64 B.orders.length] w' (fq w' λai r=>∃l,l.length<=40/\Own w'.heap.size ai r l):=λw' he=>
     Calls.mono (x9 w' 0 _ O B.orders.length _ (Ints.ext q (dy F he)) (by omega)) (λe w2 ⟨v,h1,h2,h3⟩=>⟨v,h1,h2,_,by rw[x8];omega,h3⟩)
    have U:=Lib.hid (And.intro H (And.intro aL (And.intro aK (And.intro y (And.intro m (And.intro E hK))))));clear H aL aK y ah q N V m E aM hK;go_wp2
    go_region_held3 (λw'=>fI wr g w') (first|exact fI.of (fk _ _)|exact fI.of (by assumption)|exact fI.store (by assumption)|assumption)
     (first
      | (go_at_call 265;refine Calls.mono (Calls.rel (w0:=wr) (by first|exact fk _ _|assumption) (U.out.2.2.2.1 _ (by first|exact fk _ _|assumption))) ?_;rintro eE T ⟨vE,rfl,a,mM,lE,C,I⟩;obtain⟨aE,cE,jZ,_⟩:=(I.ints (Nat.le_trans C (by decide))).shape;subst jZ;have W:=(U.out.2.2.1 T a).1;have aj:=(U.out.2.2.1 T a).2))
    have G:=U.out.2.1 T _ lE a (gf.of I (Nat.le_trans C (by decide)) (λk hk _=>Nat.le_trans (by assumption) hk)) C;have X:Ext M (T.setCell ⟨g,i,none⟩ (.slice aE lE.length cE)):=fu (dy F a) (iG _ _ _ _) (λj hj D=>by cases hj;omega);have m:=U.out.2.2.2.2.1;have E:=U.out.2.2.2.2.2.1;have aN:i<A.conj.length:=by rw[m.c];exact D
    have bC:(i:Int)<A.conj.length:=by omega
    have hK:=U.out.2.2.2.2.2.2;obtain⟨b3,o3,a5,yE,J,_,NL,u,q⟩:=fU.at a4.c i aN;have S:=m.cl i D;have ak:∀v∈gt A.conj i,v.length<=20:=λv hv=>m.cv _ (fT aN) v hv;obtain⟨R,hR⟩:∃R,R=gt A.conj i:=⟨_,rfl⟩;rw[<-hR] at u q S ak;have HC:=Lib.hid (And.intro S (And.intro ak (And.intro E (And.intro hK (And.intro J q)))));clear S ak E hK J q m hR U;clear W aj e1 e2 e3;clear a I C mM F;go_wp2;generalize T.setCell ⟨g,i,none⟩ (.slice aE lE.length cE)=w7 at *;go_loopw [9] (λjv wr=>∃j:Nat,jv=.int .i64 j/\j<=R.length/\Ext M wr/\BX 40 o M.heap.size rb wr (.slice xo o.length co) (.slice (some ⟨g,0,none⟩) o.length cp) (.slice xc o.length cc)) (λjv _=>R.length-(intOf jv).toNat)
    case atStart=>exact⟨0,rfl,by omega,X,G⟩
    case round=>
     clear G X;obtain⟨j,rfl,hj,F,H⟩:=hrel;have V:=L.out.1.ext F;have q:=HC.out.2.2.2.2.2;have J:=HC.out.2.2.2.2.1;have d2:=V.2.2.2.1;rw[J] at d2;have d3:=F.cell u (by simp);by_cases Z:j<R.length
     ·have al:(j:Int)<R.length:=by omega
      have S:=HC.out.1;have E:=HC.out.2.2.1;have hK:=HC.out.2.2.2.1;have aO:j<o.length-1-i:=by omega
      obtain⟨gc,ji,b,aP,z2,mL,hcB,oU,W,hcell,tM,AL,hbg,hbl,aa,ab⟩:=H.vq i j (by omega) aO;obtain⟨rfl,rfl⟩:xc=some ⟨gc,0,none⟩/\cc=ji:=by cases mL;exact⟨rfl,rfl⟩
      clear mL;obtain⟨b6,o6,a6,ad,rfl,_,NM,yF,am⟩:=dK.at q j Z;have an:=F.cell yF (by simp);have N:=HC.out.2.1 _ (fT Z);obtain⟨O,Q⟩:∃O,O=gt R j:=⟨_,rfl⟩;rw[<-Q] at an am N;clear Q yF;have e1:∀w',fI wr b w'->w'.cell? ⟨rb,2,none⟩=some (.slice (some ⟨gc,0,none⟩) o.length cc):=λw' h=>h.cell H.box.2.2.2.1 (by simp;omega);have e2:∀w',fI wr b w'->w'.cell? ⟨gc,i,none⟩=some (.slice (some ⟨b,0,none⟩) (o.length-1-i) aP):=λw' h=>h.cell hcell (by simp;omega);have e3:∀w',fI wr b w'->w'.cell? ⟨w.heap.size,2,none⟩=some (.slice (some ⟨b3,o3,none⟩) A.conj.length aA):=λw' h=>h.cell d2 (by simp;omega);have e4:∀w',fI wr b w'->w'.cell? ⟨b3,o3+i,none⟩=some (.slice (some ⟨b6,o6,none⟩) R.length yE):=λw' h=>h.cell d3 (by simp;omega);have e5:∀w',fI wr b w'->w'.cell? ⟨b6,o6+j,none⟩=some (.slice a6 O.length ad):=λw' h=>h.cell an (by simp;omega)
      have y:∀w',Ext wr w'->Calls Tryz.prog 265 #[.int .i64 0,.slice a6 O.length ad,.int .i64 B.orders.length] w' (fq w' λai r=>∃l,l.length<=40/\Own w'.heap.size ai r l):=λw' he=>
       Calls.mono (x9 w' 0 _ O B.orders.length _ (Ints.ext am (dy F he)) (by omega)) (λe w2 ⟨v,h1,h2,h3⟩=>⟨v,h1,h2,_,by rw[x8];omega,h3⟩)
      have bU:(j:Int)<((o.length-1-i:Nat):Int):=by omega
      have bV:(i:Int)<o.length:=by omega
      have HY:=Lib.hid (And.intro ab (And.intro aa y));clear ab aa y hcell an am N H;go_wp2;clear d2 d3;clear S E hK J aO
      go_region_held3 (λw'=>fI wr b w') (first|exact fI.of (fk _ _)|exact fI.of (by assumption)|exact fI.store (by assumption)|assumption)
       (first
        | (go_at_call 265;refine Calls.mono (Calls.rel (w0:=wr) (by first|exact fk _ _|assumption) (HY.out.2.2 _ (by first|exact fk _ _|assumption))) ?_;rintro eE T ⟨vE,rfl,a,mM,lE,C,I⟩;obtain⟨aE,cE,jZ,_⟩:=(I.ints (Nat.le_trans C (by decide))).shape;subst jZ;have W:=(HY.out.2.1 T a).1;have aj:=(HY.out.2.1 T a).2))
      have G:=HY.out.1 T _ lE a (gf.of I (Nat.le_trans C (by decide)) (λk hk _=>Nat.le_trans (by assumption) hk)) C;have X:Ext M (T.setCell ⟨b,j,none⟩ (.slice aE lE.length cE)):=fu (dy F a) (iG _ _ _ _) (λj hj D=>by cases hj;omega);clear W aj e1 e2 e3 e4 e5;go_wp2;go_roundw
      case rel=>exact⟨j+1,by go_num,by omega,X,G⟩
      case measure=>simp[intOf];omega
     ·have al:¬((j:Int)<R.length):=by omega
      clear J;go_wp2;go_roundw
      case rel=>exact⟨i+1,by go_num,by omega,F,H⟩
      case measure=>simp[intOf];omega
   ·have aq:¬((i:Int)<A.orders.length):=by omega
    go_wp2;have aI:=F;clear F hi D aq;go_loopw [10] (λiv wr=>∃i:Nat,iv=.int .i64 i/\i<=B.orders.length/\Ext M wr/\BX 40 o M.heap.size rb wr (.slice xo o.length co) (.slice xp o.length cp) (.slice xc o.length cc)) (λiv _=>B.orders.length-(intOf iv).toNat)
    case atStart=>exact⟨0,rfl,by omega,aI,H⟩
    case round=>
     clear H aI;obtain⟨i,rfl,hi,F,H⟩:=hrel;by_cases D:i<B.orders.length
     ·have aq:(i:Int)<B.orders.length:=by omega
      have m:=L.out.2.2.2.2.1;have E:=L.out.2.2.2.2.2.2.1;have bz:=L.out.2.2.2.2.2.2.2;have aJ:i<B.eH.length:=by rw[m.p];exact D
      have bA:(i:Int)<B.eH.length:=by omega
      obtain⟨K,hK⟩:∃K,K=(A.orders.length+i):=⟨_,rfl⟩;obtain⟨g,jL,z,kM,hgB,pJ,jB,aK,aL⟩:=H.qH K (by omega);obtain⟨rfl,rfl⟩:xp=some ⟨g,0,none⟩/\cp=jL:=by cases kM;exact⟨rfl,rfl⟩
      clear kM;obtain⟨b2,o2,az,Y,aM,_,NK,u,q⟩:=dK.at a7.p i aJ;have ah:=F.cell u (by simp);have N:=m.pv _ (fT aJ);obtain⟨O,Q⟩:∃O,O=gt B.eH i:=⟨_,rfl⟩;rw[<-Q] at ah q N;clear Q u;have V:=L.out.2.1.ext F;have e1:∀w',fI wr g w'->w'.cell? ⟨rb,1,none⟩=some (.slice (some ⟨g,0,none⟩) o.length cp):=λw' h=>h.cell H.box.2.2.1 (by simp;omega);have e2:∀w',fI wr g w'->w'.cell? ⟨w.heap.size+1,1,none⟩=some (.slice (some ⟨b2,o2,none⟩) B.eH.length aC):=λw' h=>h.cell (by rw[<-aM];exact V.2.2.1) (by simp;omega);have e3:∀w',fI wr g w'->w'.cell? ⟨b2,o2+i,none⟩=some (.slice az O.length Y):=λw' h=>h.cell ah (by simp;omega)
      have y:∀w',Ext wr w'->Calls Tryz.prog 265 #[.int .i64 A.orders.length,.slice az O.length Y,.int .i64 0] w' (fq w' λai r=>∃l,l.length<=40/\Own w'.heap.size ai r l):=λw' he=>
       Calls.mono (x9 w' A.orders.length _ O 0 _ (Ints.ext q (dy F he)) (by omega)) (λe w2 ⟨v,h1,h2,h3⟩=>⟨v,h1,h2,_,by rw[x8];omega,h3⟩)
      have U:=Lib.hid (And.intro H (And.intro aL (And.intro aK (And.intro y (And.intro m (And.intro E hK))))));clear H aL aK y ah q N V m E aM hK;go_wp2;have bi:=yC ((A.orders.length:Int)+i) (K:Int) (by rw[U.out.2.2.2.2.2.2];omega) (by omega);obtain⟨q1,q2⟩:=bi;have cn:(K:Int)<o.length:=by clear q1 q2;have:=U.out.2.2.2.2.2.2;have:=U.out.2.2.2.2.2.1;omega
      go_region_held3 (λw'=>fI wr g w') (first|exact fI.of (fk _ _)|exact fI.of (by assumption)|exact fI.store (by assumption)|assumption)
       (first
        | (go_at_call 265;refine Calls.mono (Calls.rel (w0:=wr) (by first|exact fk _ _|assumption) (U.out.2.2.2.1 _ (by first|exact fk _ _|assumption))) ?_;rintro eE T ⟨vE,rfl,a,mM,lE,C,I⟩;obtain⟨aE,cE,jZ,_⟩:=(I.ints (Nat.le_trans C (by decide))).shape;subst jZ;have W:=(U.out.2.2.1 T a).1;have aj:=(U.out.2.2.1 T a).2))
      clear q1 q2;have G:=U.out.2.1 T _ lE a (gf.of I (Nat.le_trans C (by decide)) (λk hk _=>Nat.le_trans (by assumption) hk)) C;have X:Ext M (T.setCell ⟨g,K,none⟩ (.slice aE lE.length cE)):=fu (dy F a) (iG _ _ _ _) (λj hj D=>by cases hj;omega);have m:=U.out.2.2.2.2.1;have E:=U.out.2.2.2.2.2.1;have aN:i<B.conj.length:=by rw[m.c];exact D
      have bC:(i:Int)<B.conj.length:=by omega
      have hK:=U.out.2.2.2.2.2.2;obtain⟨b3,o3,a5,yE,J,_,NL,u,q⟩:=fU.at a7.c i aN;have S:=m.cl i D;have ak:∀v∈gt B.conj i,v.length<=20:=λv hv=>m.cv _ (fT aN) v hv;obtain⟨R,hR⟩:∃R,R=gt B.conj i:=⟨_,rfl⟩;rw[<-hR] at u q S ak;have HC:=Lib.hid (And.intro S (And.intro ak (And.intro E (And.intro hK (And.intro J q)))));clear S ak E hK J q m hR U;clear W aj e1 e2 e3;clear a I C mM F;go_wp2;generalize T.setCell ⟨g,K,none⟩ (.slice aE lE.length cE)=w7 at *;go_loopw [11] (λjv wr=>∃j:Nat,jv=.int .i64 j/\j<=R.length/\Ext M wr/\BX 40 o M.heap.size rb wr (.slice xo o.length co) (.slice (some ⟨g,0,none⟩) o.length cp) (.slice xc o.length cc)) (λjv _=>R.length-(intOf jv).toNat)
      case atStart=>exact⟨0,rfl,by omega,X,G⟩
      case round=>
       clear G X;obtain⟨j,rfl,hj,F,H⟩:=hrel;have V:=L.out.2.1.ext F;have q:=HC.out.2.2.2.2.2;have J:=HC.out.2.2.2.2.1;have d2:=V.2.2.2.1;rw[J] at d2;have d3:=F.cell u (by simp);by_cases Z:j<R.length
       ·have al:(j:Int)<R.length:=by omega
        have S:=HC.out.1;have E:=HC.out.2.2.1;have hK:=HC.out.2.2.2.1;have aO:j<o.length-1-K:=by omega
        obtain⟨gc,ji,b,aP,z2,mL,hcB,oU,W,hcell,tM,AL,hbg,hbl,aa,ab⟩:=H.vq K j (by omega) aO;obtain⟨rfl,rfl⟩:xc=some ⟨gc,0,none⟩/\cc=ji:=by cases mL;exact⟨rfl,rfl⟩
        clear mL;obtain⟨b6,o6,a6,ad,rfl,_,NM,yF,am⟩:=dK.at q j Z;have an:=F.cell yF (by simp);have N:=HC.out.2.1 _ (fT Z);obtain⟨O,Q⟩:∃O,O=gt R j:=⟨_,rfl⟩;rw[<-Q] at an am N;clear Q yF;have e1:∀w',fI wr b w'->w'.cell? ⟨rb,2,none⟩=some (.slice (some ⟨gc,0,none⟩) o.length cc):=λw' h=>h.cell H.box.2.2.2.1 (by simp;omega);have e2:∀w',fI wr b w'->w'.cell? ⟨gc,K,none⟩=some (.slice (some ⟨b,0,none⟩) (o.length-1-K) aP):=λw' h=>h.cell hcell (by simp;omega);have e3:∀w',fI wr b w'->w'.cell? ⟨w.heap.size+1,2,none⟩=some (.slice (some ⟨b3,o3,none⟩) B.conj.length aD):=λw' h=>h.cell d2 (by simp;omega);have e4:∀w',fI wr b w'->w'.cell? ⟨b3,o3+i,none⟩=some (.slice (some ⟨b6,o6,none⟩) R.length yE):=λw' h=>h.cell d3 (by simp;omega);have e5:∀w',fI wr b w'->w'.cell? ⟨b6,o6+j,none⟩=some (.slice a6 O.length ad):=λw' h=>h.cell an (by simp;omega)
        have y:∀w',Ext wr w'->Calls Tryz.prog 265 #[.int .i64 A.orders.length,.slice a6 O.length ad,.int .i64 0] w' (fq w' λai r=>∃l,l.length<=40/\Own w'.heap.size ai r l):=λw' he=>
         Calls.mono (x9 w' A.orders.length _ O 0 _ (Ints.ext am (dy F he)) (by omega)) (λe w2 ⟨v,h1,h2,h3⟩=>⟨v,h1,h2,_,by rw[x8];omega,h3⟩)
        have bU:(j:Int)<((o.length-1-K:Nat):Int):=by omega
        have bV:(K:Int)<o.length:=by omega
        have HY:=Lib.hid (And.intro ab (And.intro aa y));clear ab aa y hcell an am N H;go_wp2;clear d2 d3;have bi:=yC ((A.orders.length:Int)+i) (K:Int) (by rw[hK];omega) (by omega);obtain⟨q1,q2⟩:=bi;clear S E hK J aO
        go_region_held3 (λw'=>fI wr b w') (first|exact fI.of (fk _ _)|exact fI.of (by assumption)|exact fI.store (by assumption)|assumption)
         (first
          | (go_at_call 265;refine Calls.mono (Calls.rel (w0:=wr) (by first|exact fk _ _|assumption) (HY.out.2.2 _ (by first|exact fk _ _|assumption))) ?_;rintro eE T ⟨vE,rfl,a,mM,lE,C,I⟩;obtain⟨aE,cE,jZ,_⟩:=(I.ints (Nat.le_trans C (by decide))).shape;subst jZ;have W:=(HY.out.2.1 T a).1;have aj:=(HY.out.2.1 T a).2))
        clear q1 q2;have G:=HY.out.1 T _ lE a (gf.of I (Nat.le_trans C (by decide)) (λk hk _=>Nat.le_trans (by assumption) hk)) C;have X:Ext M (T.setCell ⟨b,j,none⟩ (.slice aE lE.length cE)):=fu (dy F a) (iG _ _ _ _) (λj hj D=>by cases hj;omega);clear W aj e1 e2 e3 e4 e5;go_wp2;go_roundw
        case rel=>exact⟨j+1,by go_num,by omega,X,G⟩
        case measure=>simp[intOf];omega
       ·have al:¬((j:Int)<R.length):=by omega
        clear J;go_wp2;go_roundw
        case rel=>exact⟨i+1,by go_num,by omega,F,H⟩
        case measure=>simp[intOf];omega
     ·have aq:¬((i:Int)<B.orders.length):=by omega
      obtain⟨h0,h1,h2,h3',h4⟩:=id H.box;have hz:=L.out.2.2.1.ext F;have bz:=L.out.2.2.2.2.2.2.2;obtain⟨k0,k1,k2,k3,k4⟩:=id hz;have hZ:=hz.all (.slice xo o.length co) (.slice xp o.length cp) (.slice xc o.length cc);have hT:=jh wr (w.heap.size+1+1) (.slice xo o.length co) (.slice xp o.length cp) (.slice xc o.length cc);obtain⟨_,z0,z1,z2,_⟩:=id hZ;have HQ:=Lib.hid (And.intro hT H);clear hT hZ H;go_wp2;refine bodyPost_ret (v := .agg #[.slice xo o.length co,.slice xp o.length cp,.slice xc o.length cc]) (by simp[results,Tryz.results221,go_sem,z0,z1,z2]) rfl ?_;exact⟨_,rfl,fu (dy a3 F) HQ.out.1 (λj hj D=>by cases hj;omega),(HQ.out.2.ret HQ.out.1 (by omega)).weak (by omega)⟩
theorem Valid.C0 {P:Pr}(h:Valid P):jK 6 P:=
 ⟨h.n6,h.pl,h.cl,λi a=>(h.cv i a).1,λv b=>by
  obtain⟨i,a,rfl⟩:=List.getElem_of_mem b;have:=(h.pv i (by rw[<-h.pl];exact a)).1.1;rw[gM _ i a] at this;have:=h.n6;omega,λr l v b=>by
  obtain⟨i,a,rfl⟩:=List.getElem_of_mem l;obtain⟨k,hk,rfl⟩:=List.getElem_of_mem b;have e:i<P.orders.length:=by rw[<-h.cl];exact a
  obtain⟨h1,j⟩:=h.cv i e;rw[gM _ i a] at h1 j;have:=(j k (by rw[<-h1];exact hk)).1.1;rw[gM _ k hk] at this;have:=h.n6;omega⟩
def tU (a:Int) (Q:Pr):Prop:=Valid Q->eW Q<=a\/eW Q<=2
theorem GU {Q:Pr}(h:Valid Q):jl Q.orders Q.orders.length=eW Q:=
 (zD Q.orders.length (λi a=>by have:=h.gh i a;omega)).2 ((zD Q.orders.length (λi a=>by have:=h.gh i a;omega)).1.2 h.mO)
def GV (C:Pr->Prop) (B:Nat) (w':World) (v:Value):Prop:=∃(vo vp vc:Value) (Q:Pr),v=.agg #[vo,vp,vc]/\Valid Q/\fA (From B) w' vo vp vc Q/\C Q
theorem C1 {w b:World}{sb m B:Nat}{x y z:Value}{Q:Pr}(p:w.grownBy b (some sb)) (D:w.heap.size<B) (i:Src m b sb) (q:m<=w.heap.size) {C:Pr->Prop}(r:Valid Q) (u:C Q) (hP:fA (From B) b x y z Q) :
  mA w (some sb) (qJ m sb (GV C w.heap.size)) (.returned (.agg #[x,y,z])) (((b.setCell ⟨w.heap.size,0,none⟩ x).setCell ⟨w.heap.size,1,none⟩ y).setCell ⟨w.heap.size,2,none⟩ z):=by
 have l:=jh b w.heap.size x y z;exact⟨_,rfl,fu p l (λj A a=>by cases A;omega),⟨x,y,z,Q,rfl,r,hP.mono (λk hk a=>⟨by have hk:B<=k:=hk;show w.heap.size<=k;omega,Nat.lt_of_lt_of_le a l.size,l.block k a (λe=>by have hk:B<=k:=hk;have:=Option.some.inj e;omega)⟩),u⟩,i.own l (λk hk=>by cases hk;exact q)⟩
theorem NN:Valid (j0 [2]):=by
 have e:j0 [2]=⟨[2],[[0]],[[]]⟩:=by simp[j0,kL,zeros]
 rw[e];refine⟨by decide,by decide,by decide,by decide,λi a => ?_,λi a => ?_,λi a => ?_⟩
 ·have:i=0:=by simpa using a
  subst this;exact .inl rfl
 ·have:i=0:=by simpa using a
  subst this;refine⟨⟨rfl,λk hk => ?_⟩,λk hk => ?_⟩
  ·have:k=0:=by simpa using hk
   subst this;decide
  ·have:k=0:=by omega
   subst this;rfl
 ·have:i=0:=by simpa using a
  subst this;exact⟨rfl,λk hk=>by simp at hk⟩
set_option maxHeartbeats 16000000 in
theorem NP (B0:Nat) (w:World) (sb:Nat) (b:Int) (ay:B0<=w.heap.size) (hs:Src B0 w sb) :
  Calls Tryz.prog 163 #[.pointer (some ⟨sb,0,none⟩),.int .i64 b] w (mA w (some sb) (qJ B0 sb (GV (tU b) w.heap.size))):=by
 have bp:=hs.lt;have aM:=fG.made w 28 (.slice none 0 0) (.slice none 0 0) (.slice none 0 0);have ae:Ext w (w.alloc (.cells #[.slice none 0 0,.slice none 0 0,.slice none 0 0] 28)):=World.grownBy_alloc _ _ _;have a8:(w.alloc (.cells #[.slice none 0 0,.slice none 0 0,.slice none 0 0] 28)).heap.size=w.heap.size+1:=by simp
 have a9:=Lib.hid (hs.ext ae);clear hs;go_enter Tryz.func163,Tryz.ntmps163;go_wp2_with fail
 generalize w.alloc (.cells #[.slice none 0 0,.slice none 0 0,.slice none 0 0] 28)=w0 at *;have bf:w.heap.size+1<=w0.heap.size:=by omega
 clear a8;go_loopw [5] (λiv wr=>∃i:Nat,iv=.int .i64 i/\i<=12/\w0.grownBy wr (some sb)/\Hid (Src B0 wr sb)) (λiv _=>12-(intOf iv).toNat)
 case atStart=>exact⟨0,rfl,by omega,gZ _ _,a9⟩
 case round=>
  obtain⟨i,rfl,hi,hg,az⟩:=hrel;have ba:=hg.size;have O:=fG.keep aM ba (hg.block _ aM.1 (λe=>by have:=Option.some.inj e;omega));by_cases a:i<12
  ·have aN:(i:Int)<12:=by omega
   go_wp2_with fail
   refine Calls.mono (GK B0 wr sb (by omega) az.out) ?_;rintro eF wF ⟨vF,rfl,qm,hP,pK⟩;obtain⟨vo,vp,vc,rfl,l⟩:=hP;obtain⟨a1,I,c1,a2,J,c2,K,L,c3,rfl,rfl,rfl⟩:=l.shape;have S:Ext wF (wF.alloc (.cells #[.slice a1 I c1,.slice a2 J c2,.slice K L c3] 28)):=World.grownBy_alloc _ _ _;have ag:=fG.made wF 28 (.slice a1 I c1) (.slice a2 J c2) (.slice K L c3);have aO:(wF.alloc (.cells #[.slice a1 I c1,.slice a2 J c2,.slice K L c3] 28)).heap.size=wF.heap.size+1:=by simp
   obtain⟨pb,aA⟩:∃pb,pb=wF.heap.size:=⟨_,rfl⟩;rw[<-aA] at ag aO
   have aP:∃Q,jK 18 Q/\fA (λk=>wr.heap.size<=k/\k≠pb) (wF.alloc (.cells #[.slice a1 I c1,.slice a2 J c2,.slice K L c3] 28)) (.slice a1 I c1) (.slice a2 J c2) (.slice K L c3) Q:=by
    obtain⟨Q,q1,q2⟩:=l;exact⟨Q,q1,q2.mono (λk hk a=>⟨⟨hk,by omega⟩,Nat.lt_of_lt_of_le a S.size,S.block k a (by simp)⟩)⟩
   have bg:=qm.size;have au:=dy qm (fH (some sb) S);have av:=pK.ext S;have HA:=Lib.hid (And.intro aP av);clear aP av l pK qm az;have HP:=Lib.hid aA;go_wp2_with fail
   rw[<-HP.out];generalize wF.alloc (.cells #[.slice a1 I c1,.slice a2 J c2,.slice K L c3] 28)=wA at *;clear S;refine Calls.mono (kZ B0 wA sb 3 HA.out.2) ?_;rintro eN wN ⟨vN,rfl,E,x,rfl,hx0,hx1,aQ⟩;have M:=dy au E;have R:=fG.keep ag E.size (E.block _ ag.1 (λe=>by have:=Option.some.inj e;omega));have bi:=E.size;obtain⟨Q,F,GW⟩:=HA.out.1;have T:fA (λk=>wr.heap.size<=k/\k≠pb) wN (.slice a1 I c1) (.slice a2 J c2) (.slice K L c3) Q:=GW.mono (λk hk a=>⟨hk,Nat.lt_of_lt_of_le a E.size,E.block k a (λe=>by have:=Option.some.inj e;omega)⟩);have bj:pb<wN.heap.size:=R.1;have bk:wr.heap.size<=pb:=by omega
   have HN:=Lib.hid (And.intro F (And.intro T aQ));clear F GW T aQ E ag hx0 hx1 HA au aO aA HP;by_cases hx:x=0
   ·have aR:(x == 0)=true:=by simp[hx]
    clear hx;have aS:=R.ext (fk _ none);obtain⟨d0,d1,d2,d3,d4⟩:=id aS;have HB:=Lib.hid R;clear R aS;go_wp2_with fail
    go_region_law (first
     | (go_simp;go_at_call 221;refine Calls.mono (NH _ _ _ Q QG Any Any ⟨_,_,_,rfl,aT⟩ ⟨_,_,_,rfl,U⟩ (HN.out.1.mono (by omega)) (bd.mono (by omega))) ?_;rintro eC wC ⟨vC,rfl,ah,NQ⟩;obtain⟨yo,yp,yc,rfl,C2⟩:=NQ.q;obtain⟨e1,m1,k1,e2,m2,k2,e3,m3,k3,rfl,rfl,rfl⟩:=C2.shape;have aB:=aC.ext ah;obtain⟨g0,g1,g2,g3,g4⟩:=id aB)
     | (go_simp;go_at_call 220;refine Calls.mono (GK B0 _ sb (show B0<=wN.heap.size by omega) (HN.out.2.2.ext (fk _ _))) ?_;rintro eG wG ⟨vG,rfl,aU,NR,aV⟩;obtain⟨uo,up,uc,rfl,QG,bd,GX⟩:=NR;have U:fA Any wG uo up uc QG:=GX.mono (λk _ a=>⟨trivial,a,rfl⟩);obtain⟨x1,z1,rfl,_,_⟩:=U.o.shape;obtain⟨x2,z2,rfl,_,_⟩:=Sl.shape U.p;obtain⟨x3,z3,rfl,_,_⟩:=Sl.shape U.c;have m:=dy (fk wN (some sb)) aU;have aC:=fG.keep HB.out m.size (m.block _ HB.out.1 (λe=>by have:=Option.some.inj e;omega));obtain⟨f0,f1,f2,f3,f4⟩:=id aC;have aT:fA Any wG _ _ _ Q:=HN.out.2.1.mono (λk hk a=>⟨trivial,Nat.lt_of_lt_of_le a m.size,m.block k a (λe=>by have:=Option.some.inj e;omega)⟩)))
    all_goals
     have aw:=dy M (dy m (fH (some sb) ah));have V:=jh wC pb (.slice e1 m1 k1) (.slice e2 m2 k2) (.slice e3 m3 k3);have z:wr.grownBy (((wC.setCell ⟨pb,0,none⟩ (.slice e1 m1 k1)).setCell ⟨pb,1,none⟩ (.slice e2 m2 k2)).setCell ⟨pb,2,none⟩ (.slice e3 m3 k3)) (some sb):=fu aw V (λj hj a=>by have:=Option.some.inj hj;omega);have G:=aB.all (.slice e1 m1 k1) (.slice e2 m2 k2) (.slice e3 m3 k3);have W:=(aV.ext ah).own V (λk hk=>by have:=Option.some.inj hk;omega)
     have aD:∃Q,jK 40 Q/\fA (λk=>wr.heap.size<=k/\k≠pb) (((wC.setCell ⟨pb,0,none⟩ (.slice e1 m1 k1)).setCell ⟨pb,1,none⟩ (.slice e2 m2 k2)).setCell ⟨pb,2,none⟩ (.slice e3 m3 k3)) (.slice e1 m1 k1) (.slice e2 m2 k2) (.slice e3 m3 k3) Q:=by
      obtain⟨Q2,q1,q2⟩:=C2;have bm:=m.size
      exact ⟨Q2,q1,q2.mono (λk hk a=>by
       have hk:wG.heap.size<=k:=hk;exact⟨⟨by omega,by omega⟩,Nat.lt_of_lt_of_le a V.size,V.block k a (λe=>by have:=Option.some.inj e;omega)⟩)⟩
     clear aB V aV C2 g0 g1 g2 g3 g4 f0 f1 f2 f3 f4 d0 d1 d2 d3 d4 aC aw ah m aU U GX aT M HN HB aR;generalize ((wC.setCell ⟨pb,0,none⟩ (.slice e1 m1 k1)).setCell ⟨pb,1,none⟩ (.slice e2 m2 k2)).setCell ⟨pb,2,none⟩ (.slice e3 m3 k3)=w9 at *;obtain⟨H,F,tV⟩:=aD;have A:=fG.keep O z.size (z.block _ O.1 (λe=>by have:=Option.some.inj e;omega));obtain⟨p0,p1,p2,p3,p4⟩:=id G;go_wp2_with fail
     refine Calls.mono (x5 w9 _ H _ ⟨_,_,_,rfl,tV⟩) ?_;rintro e5 w5 ⟨v5,rfl,r,rfl⟩;have X:=G.ext r;have u:=A.ext r;have Y:=tV.ext r;have Z:=W.ext r;have y:=dy z (fH (some sb) r);have HQ:=Lib.hid (And.intro Y Z);clear p0 p1 p2 p3 p4 G A tV W z Y Z;obtain⟨p0,p1,p2,p3,p4⟩:=id X;rcases hv:jX H with _|_
     ·go_wp2_with fail
      go_roundw
      case rel=>exact⟨i+1,by go_num,by omega,dy hg y,Lib.hid HQ.out.2⟩
      case measure=>simp[intOf];omega
     ·have hV:=BK hv
      clear hv;have HV:=Lib.hid hV;clear hV;go_wp2_with fail
      refine Calls.mono (uF w5 _ H.orders _ HQ.out.1.o (λj hj=>by have:=HV.out.gh j hj;omega)) ?_;rintro _ _ ⟨rfl,rfl⟩;rcases aF:decide (jl H.orders H.orders.length<=b) with _|_
      ·go_wp2_with fail
       go_roundw
       case rel=>exact⟨i+1,by go_num,by omega,dy hg y,Lib.hid HQ.out.2⟩
       case measure=>simp[intOf];omega
      ·have C:tU b H:=λaG => .inl (by rw[<-GU aG];exact of_decide_eq_true aF)
       have aH:=Lib.hid C;clear C;obtain⟨b0,b1,b2,b3,b4⟩:=id u;have hZ:=u.all (.slice e1 m1 k1) (.slice e2 m2 k2) (.slice e3 m3 k3);obtain⟨-,z0,z1,z2,-⟩:=id hZ;have D:w.grownBy w5 (some sb):=dy (fH (some sb) ae) (dy hg y);have l:fA (From wr.heap.size) w5 (.slice e1 m1 k1) (.slice e2 m2 k2) (.slice e3 m3 k3) H:=HQ.out.1.mono (λk hk a=>⟨hk.1,a,rfl⟩);have HF:=Lib.hid (And.intro D (And.intro l HQ.out.2));clear hZ D l u X;go_wp2_with fail
       refine bodyPost_ret (v := .agg #[.slice e1 m1 k1,.slice e2 m2 k2,.slice e3 m3 k3]) (by simp[results,Tryz.results163,go_sem,z0,z1,z2]) rfl ?_;exact C1 HF.out.1 (B:=wr.heap.size) (by omega) HF.out.2.2 ay HV.out aH.out HF.out.2.1
   ·have aR:(x == 0)=false:=by simp[hx]
    obtain⟨F,T,W⟩:=HN.out;have aD:∃Q,jK 40 Q/\fA (λk=>wr.heap.size<=k/\k≠pb) wN (.slice a1 I c1) (.slice a2 J c2) (.slice K L c3) Q:=⟨Q,F.mono (by omega),T⟩;clear F T HN hx;have z:=M;have G:=R;clear M R;obtain⟨H,F,tV⟩:=aD;have A:=fG.keep O z.size (z.block _ O.1 (λe=>by have:=Option.some.inj e;omega));obtain⟨p0,p1,p2,p3,p4⟩:=id G;go_wp2_with fail
    refine Calls.mono (x5 wN _ H _ ⟨_,_,_,rfl,tV⟩) ?_;rintro e5 w5 ⟨v5,rfl,r,rfl⟩;have X:=G.ext r;have u:=A.ext r;have Y:=tV.ext r;have Z:=W.ext r;have y:=dy z (fH (some sb) r);have HQ:=Lib.hid (And.intro Y Z);clear p0 p1 p2 p3 p4 G A tV W z Y Z;obtain⟨p0,p1,p2,p3,p4⟩:=id X;rcases hv:jX H with _|_
    ·go_wp2_with fail
     go_roundw
     case rel=>exact⟨i+1,by go_num,by omega,dy hg y,Lib.hid HQ.out.2⟩
     case measure=>simp[intOf];omega
    ·have hV:=BK hv
     clear hv;have HV:=Lib.hid hV;clear hV;go_wp2_with fail
     refine Calls.mono (uF w5 _ H.orders _ HQ.out.1.o (λj hj=>by have:=HV.out.gh j hj;omega)) ?_;rintro _ _ ⟨rfl,rfl⟩;rcases aF:decide (jl H.orders H.orders.length<=b) with _|_
     ·go_wp2_with fail
      go_roundw
      case rel=>exact⟨i+1,by go_num,by omega,dy hg y,Lib.hid HQ.out.2⟩
      case measure=>simp[intOf];omega
     ·have C:tU b H:=λaG => .inl (by rw[<-GU aG];exact of_decide_eq_true aF)
      have aH:=Lib.hid C;clear C;obtain⟨b0,b1,b2,b3,b4⟩:=id u;have hZ:=u.all (.slice a1 I c1) (.slice a2 J c2) (.slice K L c3);obtain⟨-,z0,z1,z2,-⟩:=id hZ;have D:w.grownBy w5 (some sb):=dy (fH (some sb) ae) (dy hg y);have l:fA (From wr.heap.size) w5 (.slice a1 I c1) (.slice a2 J c2) (.slice K L c3) H:=HQ.out.1.mono (λk hk a=>⟨hk.1,a,rfl⟩);have HF:=Lib.hid (And.intro D (And.intro l HQ.out.2));clear hZ D l u X;go_wp2_with fail
      refine bodyPost_ret (v := .agg #[.slice a1 I c1,.slice a2 J c2,.slice K L c3]) (by simp[results,Tryz.results163,go_sem,z0,z1,z2]) rfl ?_;exact C1 HF.out.1 (B:=wr.heap.size) (by omega) HF.out.2.2 ay HV.out aH.out HF.out.2.1
  ·have aN:¬((i:Int)<12):=by omega
   obtain⟨b0,b1,b2,b3,b4⟩:=id O;go_wp2_with fail
   have aI:Ext wr (wr.alloc (.cells #[.int .i64 2] 2)):=World.grownBy_alloc _ _ _;have hL:Ints Any (wr.alloc (.cells #[.int .i64 2] 2)) (.slice (some ⟨wr.heap.size,0,none⟩) 1 1) [2]:=Ints.sub (j4 wr [2] (by simp)) (λ_ _ _=>trivial);refine Calls.mono (qd _ _ [2] _ hL (by simp)) ?_;rintro e3 w3 ⟨v3,rfl,ac,vo,vp,vc,rfl,nP⟩;have ac:=dy aI ac;have l:fA (From wr.heap.size) w3 vo vp vc (j0 [2]):=nP.p3.mono (λk hk a=>⟨Nat.le_trans aI.size hk,a,rfl⟩);obtain⟨a1,I,c1,a2,J,c2,K,L,c3,rfl,rfl,rfl⟩:=sL.shape ⟨j0 [2],vk (N:=6) _ (by simp),l⟩;have aJ:=O.ext ac;have a4:=az.out.ext ac;have D:w.grownBy w3 (some sb):=dy (fH (some sb) ae) (dy hg (fH (some sb) ac));clear nP hL aI b0 b1 b2 b3 b4;obtain⟨b0,b1,b2,b3,b4⟩:=id aJ;have hZ:=aJ.all (.slice a1 I c1) (.slice a2 J c2) (.slice K L c3);obtain⟨-,z0,z1,z2,-⟩:=id hZ;have HF:=Lib.hid (And.intro D (And.intro l a4));clear hZ D l aJ a4;go_wp2_with fail
   refine bodyPost_ret (v := .agg #[.slice a1 I c1,.slice a2 J c2,.slice K L c3]) (by simp[results,Tryz.results163,go_sem,z0,z1,z2]) rfl ?_;exact C1 HF.out.1 (B:=wr.heap.size) (by omega) HF.out.2.2 ay NN (λ_ => .inr (by decide)) HF.out.2.1
def GY (M B:Nat) (w':World) (v:Value):Prop:=∃(vo vp vc:Value) (Q:Pr),v=.agg #[vo,vp,vc]/\Q.orders.length<=M/\fA (From B) w' vo vp vc Q
theorem gu.moved {F:Nat->Prop}{w w':World}{vo vp vc:Value}{P:Pr}(h:gu F w vo vp vc P) {r:Nat}(b:w.grownBy w' (some r)) (i:¬F r):gu F w' vo vp vc P:=
 h.mono (λk hk a=>⟨hk,Nat.lt_of_lt_of_le a b.size,b.block k a (λe=>i (by have:=Option.some.inj e;subst this;exact hk))⟩)
theorem fG.moved {w w':World}{b r:Nat}{x y z:Value}(h:fG w b x y z) (a:w.grownBy w' (some r)) (i:b≠r):fG w' b x y z:=h.keep a.size (a.block _ h.1 (λe=>i (Option.some.inj e)))
def yG (M:Nat) (C:Pr->Prop) (B:Nat) (w':World) (v:Value):Prop:=∃(vo vp vc:Value) (Q:Pr),v=.agg #[vo,vp,vc]/\Q.orders.length<=M/\fA (From B) w' vo vp vc Q/\C Q
def mq (P Q:Pr):Prop:=Valid Q->eW Q<=eW P
theorem mq.same {P Q:Pr}(h:Q.orders=P.orders):mq P Q:=λ_=>by unfold eW;rw[h];exact Int.le_refl _
theorem tU.le {a:Int}{P Q:Pr}(h:tU a P) (e:Valid P) (i:mq P Q):tU a Q:=λj=>by
 have b:=i j;rcases h e with h|h
 ·exact .inl (Int.le_trans b h)
 ·exact .inr (Int.le_trans b h)
theorem qK {w b:World}{sb m M br:Nat}{x y z:Value}{Q:Pr}{F:Nat->Prop}(p:w.grownBy b (some sb)) (q:w.heap.size<=br) (hF:∀k,F k->k<b.heap.size->w.heap.size<=k/\k≠br) (i:Src m b sb) (r:m<=w.heap.size) {C:Pr->Prop}(u:Q.orders.length<=M) (hP:fA F b x y z Q) (A:C Q) :
  mA w (some sb) (qJ m sb (yG M C w.heap.size)) (.returned (.agg #[x,y,z])) (((b.setCell ⟨br,0,none⟩ x).setCell ⟨br,1,none⟩ y).setCell ⟨br,2,none⟩ z):=by
 have l:=jh b br x y z;exact⟨_,rfl,fu p l (λj B a=>by cases B;omega),⟨x,y,z,Q,rfl,u,hP.mono (λk hk a=>⟨(hF k hk a).1,Nat.lt_of_lt_of_le a l.size,l.block k a (λe=>(hF k hk a).2 (Option.some.inj e))⟩),A⟩,i.own l (λk hk=>by cases hk;omega)⟩
theorem gu.GZ {F:Nat->Prop}{m:World}{vo vp vc:Value}{P:Pr}{r:Nat}(h:gu F m vo vp vc P) (i j:Nat) (q:i<P.eH.length) (u:j<(gt P.eH i).length) (w:¬F r) :
  ∃ g cap b a,vp=.slice (some ⟨g,0,none⟩) P.eH.length cap/\F g/\g<m.heap.size/\m.cell? ⟨g,i,none⟩=some (.slice (some ⟨b,0,none⟩) (gt P.eH i).length a)/\F b/\b≠g/\b<m.heap.size /\
   m.cell? ⟨b,j,none⟩=some (.int .i64 (gt (gt P.eH i) j)) /\
   ∀l,m.grownBy l (some r)->l.frozen? ⟨b,j,none⟩=false/\∀x,gu (λk=>F k\/l.heap.size<=k) (l.setCell ⟨b,j,none⟩ (.int .i64 x)) vo vp vc { P with eH:=P.eH.set i ((gt P.eH i).set j x) } :=by
 obtain⟨g,cap,b,a,rfl,h1,h2,h3,h4,h5,h6,h7,_,_⟩:=h.F8 i j q u;refine⟨g,cap,b,a,rfl,h1,h2,h3,h4,h5,h6,h7,λl y => ?_⟩;have A:=h.moved y w;obtain⟨B,cap',b',NS,e1,k1,k2,z,k4,k5,k6,k7,k8,k9⟩:=A.F8 i j q u;cases e1
 have p:=y.cell h3 (by simp;intro e;subst e;exact w h1);rw[p] at z;cases z
 exact⟨k8 l (Ext.refl _),λx=>k9 l x (Ext.refl _)⟩
theorem gu.NT {F:Nat->Prop}{w:World}{vo vp vc:Value}{P:Pr}(h:gu F w vo vp vc P) (i:Nat) (l:i<P.eH.length) {g n cap b m c:Nat}(p:vp=.slice (some ⟨g,0,none⟩) n cap) (q:w.cell? ⟨g,i,none⟩=some (.slice (some ⟨b,0,none⟩) m c)):vo.ownBlock≠some b:=by
 obtain⟨Fo,Fp,Fc,h1,h2,h3,r,h5,h6⟩:=h;subst p;obtain⟨v,Gj,a,j,k,_⟩:=fZ.turn gX h2 i l;rw[q] at a;cases a
 exact λe=>(r b (h1.2.1 b e)).2.1 (k b (j.2.1 b rfl)).1
theorem gu.NU {F:Nat->Prop}{w:World}{vo vp vc:Value}{P:Pr}(h:gu F w vo vp vc P) (i k:Nat) (u:i<P.conj.length) (hk:k<(gt P.conj i).length) {g n cap e m c b y c2:Nat}(z:vc=.slice (some ⟨g,0,none⟩) n cap) (A:w.cell? ⟨g,i,none⟩=some (.slice (some ⟨e,0,none⟩) m c)) (j:w.cell? ⟨e,k,none⟩=some (.slice (some ⟨b,0,none⟩) y c2)):vo.ownBlock≠some b:=by
 obtain⟨Fo,Fp,Fc,h1,h2,B,C,h5,h6⟩:=h;subst z;obtain⟨v,Gj,q,Cx,l,_⟩:=fZ.turn (sF gX) B i u;rw[A] at q;cases q
 obtain⟨v,Hj,r,a,p,_⟩:=fZ.turn gX Cx k hk;rw[j] at r;cases r
 exact λe=>(C b (h1.2.1 b e)).2.2 (l b (p b (a.2.1 b rfl)).1).1
theorem gu.NV {F:Nat->Prop}{m:World}{vo vp vc:Value}{P:Pr}{r:Nat}(h:gu F m vo vp vc P) (i k j:Nat) (z:i<P.conj.length) (hk:k<(gt P.conj i).length) (A:j<(gt (gt P.conj i) k).length) (q:¬F r) :
  ∃ g cap e a b l,vc=.slice (some ⟨g,0,none⟩) P.conj.length cap/\F g/\g<m.heap.size/\m.cell? ⟨g,i,none⟩=some (.slice (some ⟨e,0,none⟩) (gt P.conj i).length a)/\F e/\e<m.heap.size /\
   m.cell? ⟨e,k,none⟩=some (.slice (some ⟨b,0,none⟩) (gt (gt P.conj i) k).length l)/\F b/\b≠g/\b≠e/\b<m.heap.size/\m.cell? ⟨b,j,none⟩=some (.int .i64 (gt (gt (gt P.conj i) k) j)) /\
   ∀p,m.grownBy p (some r)->p.frozen? ⟨b,j,none⟩=false/\∀x,gu (λk=>F k\/p.heap.size<=k) (p.setCell ⟨b,j,none⟩ (.int .i64 x)) vo vp vc { P with conj:=P.conj.set i ((gt P.conj i).set k ((gt (gt P.conj i) k).set j x)) } :=by
 obtain⟨g,cap,e,a,b,l,rfl,h1,h2,h3,h4,h5,h6,h7,h8,h9,h10,h11,_,_⟩:=h.F9 i k j z hk A;refine⟨g,cap,e,a,b,l,rfl,h1,h2,h3,h4,h5,h6,h7,h8,h9,h10,h11,λp u => ?_⟩;have D:=h.moved u q;obtain⟨E,cap',e',U9,b',NS,e1,k1,k2,B,k4,k5,C,k7,k8,k9,Va,Vb,NW,NX⟩:=D.F9 i k j z hk A;cases e1
 have w:=u.cell h3 (by simp;intro e;subst e;exact q h1);rw[w] at B;cases B
 have y:=u.cell h6 (by simp;intro e;subst e;exact q h4);rw[y] at C;cases C
 exact⟨NW p (Ext.refl _),λx=>NX p x (Ext.refl _)⟩
set_option maxHeartbeats 16000000 in
theorem NY (B0:Nat) (w:World) (sb:Nat) (pv:Value) (P:Pr) (F:Nat->Prop) (aR:B0<=w.heap.size) (hs:Src B0 w sb) (hp:gy F w pv P) (hV:Valid P) :
  Calls Tryz.prog 111 #[.pointer (some ⟨sb,0,none⟩),pv] w (mA w (some sb) (qJ B0 sb (yG 7 (mq P) w.heap.size))):=by
 have bV:=hs.lt;have hS:=hV.C0;obtain⟨vo,vp,vc,rfl,h3⟩:=hp;obtain⟨ao,co,nN,_,_⟩:=h3.o.shape;obtain⟨ap,cp,ab,_,_⟩:=Sl.shape h3.p;obtain⟨ac,cc,ad,_,_⟩:=Sl.shape h3.c;rw[hS.p] at ab;rw[hS.c] at ad;subst nN ab ad;obtain⟨n,hn⟩:∃n,n=P.orders.length:=⟨_,rfl⟩;rw[<-hn] at h3;rw[<-hn];have bW:n<=6:=by rw[hn];exact hS.n
 have a6:Ext w (w.alloc (.cells #[.slice ao n co,.slice ap n cp,.slice ac n cc] 28)):=World.grownBy_alloc _ _ _;have aS:(w.alloc (.cells #[.slice ao n co,.slice ap n cp,.slice ac n cc] 28)).heap.size=w.heap.size+1:=by simp
 have bx:=fG.made w 28 (.slice ao n co) (.slice ap n cp) (.slice ac n cc);have Z:=Lib.hid (And.intro hS (And.intro hV (And.intro hn hs)));clear hS hV hn hs;go_enter Tryz.func111,Tryz.ntmps111;go_wp2_with fail
 generalize w.alloc (.cells #[.slice ao n co,.slice ap n cp,.slice ac n cc] 28)=wA at *;have ay:Ext wA (wA.alloc (.cells #[.slice none 0 0,.slice none 0 0,.slice none 0 0] 28)):=World.grownBy_alloc _ _ _;have ae:=fG.made wA 28 (.slice none 0 0) (.slice none 0 0) (.slice none 0 0);have aT:=dy a6 ay;have bz:(wA.alloc (.cells #[.slice none 0 0,.slice none 0 0,.slice none 0 0] 28)).heap.size=w.heap.size+2:=by simp[aS]
 rw[aS] at ae;generalize wA.alloc (.cells #[.slice none 0 0,.slice none 0 0,.slice none 0 0] 28)=w0 at *;have bJ:w.heap.size+2<=w0.heap.size:=by omega
 clear ay a6 bx aS bz;refine Calls.mono (CE w0 _ P F 6 ⟨_,_,_,rfl,h3.mono (iQ aT (λk hk _=>⟨hk,by simp⟩))⟩ Z.out.1 (by omega)) ?_;rintro e1 w1 ⟨v1,rfl,hg1,qo,qp,qc,rfl,hX1⟩;obtain⟨R,i,B,l,C,q,e1,e2,e3⟩:=hX1.shape;rw[Z.out.1.p] at e2;rw[Z.out.1.c] at e3;rw[<-Z.out.2.2.1] at e1 e2 e3;subst e1 e2 e3;obtain⟨qb,aW⟩:∃qb,qb=w1.heap.size:=⟨_,rfl⟩;have aa:Ext w1 (w1.alloc (.cells #[.slice R n i,.slice B n l,.slice C n q] 28)):=World.grownBy_alloc _ _ _;have aX:=fG.made w1 28 (.slice R n i) (.slice B n l) (.slice C n q);rw[<-aW] at aX;have bA:=hg1.size;have a8:gu (λk=>w0.heap.size<=k/\k≠qb) (w1.alloc (.cells #[.slice R n i,.slice B n l,.slice C n q] 28)) (.slice R n i) (.slice B n l) (.slice C n q) P:=hX1.mono (λk hk az=>⟨⟨hk,by omega⟩,Nat.lt_of_lt_of_le az aa.size,aa.block k az (by simp)⟩);have af:=dy hg1 aa;have a9:=Lib.hid aW;go_wp2_with fail
 rw[<-a9.out];generalize w1.alloc (.cells #[.slice R n i,.slice B n l,.slice C n q] 28)=w2 at *;have bY:w0.heap.size<=qb:=by omega
 clear hX1 hg1 aa aW a9 bA;have a':=ae.ext af;have ag:=dy aT af;have ba:=Z.out.2.2.2.ext ag;clear ae af aT h3;-- i
 refine Calls.mono (kZ B0 w2 sb n ba) ?_;rintro e3 w3 ⟨v3,rfl,ah,x,rfl,hx0,hx1,bb⟩;have bc:=a8.moved ah (λh=>by omega);have aG:=aX.moved ah (by omega);have aH:=a'.moved ah (by omega);have aI:=dy (fH (some sb) ag) ah
 have bB:0<=x/\x<=6:=by
  by_cases h:(1:Int)<n
  ·have:=hx1 h;omega
  ·have:=hx0 (by omega);omega
 have aY:=Lib.hid (And.intro bc bb);clear a8 aX a' ag ba ah bc bb;obtain⟨I,rfl⟩:=Int.eq_ofNat_of_zero_le bB.1;-- j
 go_wp2_with fail
 refine Calls.mono (kZ B0 w3 sb _ aY.out.2) ?_;rintro e4 w4 ⟨v4,rfl,hg4,y,rfl,hy0,hy1,bd⟩;have be:=aY.out.1.moved hg4 (λh=>by omega);have U:=aG.moved hg4 (by omega);have H:=aH.moved hg4 (by omega);have V:=dy aI hg4
 have b6:0<=y/\y<=6:=by
  by_cases h:1<(n:Int)-1-(I:Int)
  ·have:=hy1 h;omega
  ·have:=hy0 (by omega);omega
 have ai:=Lib.hid (And.intro be bd);clear hg4 be bd aY aG aH aI hy0 hy1 hx0 hx1;obtain⟨q0,q1,q2,q3,q4⟩:=id U;by_cases b7:(n:Int)<=(I:Int)+1+y
 ·obtain ⟨b0,b1,b2,b3,b4⟩:=id H
  have hZ:=H.all (.slice R n i) (.slice B n l) (.slice C n q);obtain⟨-,z0,z1,z2,-⟩:=id hZ;have HF:=Lib.hid V;clear hZ V H U;go_wp2_with fail
  refine bodyPost_ret (v := .agg #[.slice R n i,.slice B n l,.slice C n q]) (by simp[results,Tryz.results111,go_sem,z0,z1,z2]) rfl ?_;exact qK HF.out (by omega) (λk hk _=>⟨by omega,by omega⟩) ai.out.2 aR (by rw[<-Z.out.2.2.1];omega) ai.out.1.p3 (mq.same rfl)
 obtain⟨J,hJ⟩:∃J:Nat,(I:Int)+1+y=J:=⟨((I:Int)+1+y).toNat,by omega⟩;have b9:I<n:=by omega
 have b':J<n:=by omega
 have bM:(I:Int)<n:=by omega
 have bN:(J:Int)<n:=by omega
 have HJ:=Lib.hid hJ;go_wp2_with fail
 refine Calls.mono (kZ B0 w4 sb 3 ai.out.2) ?_;rintro e5 w5 ⟨v5,rfl,mV,z,rfl,_,_,bf⟩;have bg:=ai.out.1.moved mV (λh=>by omega);have E:=U.moved mV (by omega);have W:=H.moved mV (by omega);have X:=dy V mV;have S:=Lib.hid (And.intro bg bf);clear mV bg bf ai U H V q0 q1 q2 q3 q4;have L:=Z.out.2.2.1;have aA:(gt P.eH I).length=n:=by rw[L];exact(Z.out.2.1.pv I (by omega)).1.1
 have aj:=Z.out.2.1.pl;have ak:=Z.out.2.1.cl;by_cases hz:z=0
 ·have bD:(z == 0)=true:=by simp[hz]
  clear hz;obtain⟨g,jL,b,ql,ab,⟨ay,aa⟩,jB,D,⟨ae,AQ⟩,hbg,hbl,al,am⟩:=S.out.1.GZ (r:=sb) I J (by omega) (by omega) (λh=>by omega);obtain⟨rfl,rfl⟩:B=some ⟨g,0,none⟩/\l=jL:=by cases ab;exact⟨rfl,rfl⟩
  clear ab;obtain⟨bo,oo,rfl,⟨NZ,N0⟩,N1,T⟩:=Ints.at S.out.1.p3.o J (by omega);rw[aA] at D;have bE:bo≠b:=λe=>S.out.1.NT I (by omega) rfl D (by rw[<-e];rfl);generalize gt P.orders J=oj at T;generalize gt (gt P.eH I) J=bF at al;have e0:∀w',ig w5 sb b w'->w'.cell? ⟨qb,0,none⟩=some (.slice (some ⟨bo,oo,none⟩) n i):=λw' h=>h.cell E.2.1 (by simp;omega) (by simp;omega);have e1:∀w',ig w5 sb b w'->w'.cell? ⟨qb,1,none⟩=some (.slice (some ⟨g,0,none⟩) n l):=λw' h=>h.cell E.2.2.1 (by simp;omega) (by simp;omega);have e2:∀w',ig w5 sb b w'->w'.cell? ⟨g,I,none⟩=some (.slice (some ⟨b,0,none⟩) n ql):=λw' h=>h.cell D (by simp;omega) (by simp;omega);have e3:∀w',ig w5 sb b w'->w'.cell? ⟨bo,oo+J,none⟩=some (.int .i64 oj):=λw' h=>h.cell T (by simp;omega) (by simp;omega);have aq:=Lib.hid (And.intro am aA);clear am aA aj ak L HJ hJ;clear D T;go_wp2_with fail
  go_region_held3 (λw'=>ig w5 sb b w') (first|exact ig.ext (fk _ _)|exact ig.of (by assumption)|exact ig.two a (iG _ _ _ _)|assumption)
   (first
    | (go_at_call 84;refine Calls.mono (kZ B0 w5.drew sb oj (S.out.2.ext (fk _ _))) ?_;rintro e6 Y ⟨v6,rfl,aL,u,rfl,yH,yD,ar⟩;have a:w5.grownBy Y (some sb):=dy (fH (some sb) (fk _ _)) aL;have bi:=a.cell al (by simp;omega);have bj:=(aq.out.1 Y a).1))
  have au:=(aq.out.1 Y a).2 u;have hT:=iG Y b J (.int .i64 u);have bP:=a.size;have A:=(E.moved a (by omega)).moved hT (by omega);have G:=(W.moved a (by omega)).moved hT (by omega);have N:=fu (dy X a) hT (λj hj az=>by have:=Option.some.inj hj;omega);have aM:=ar.own hT (λk hk=>by have:=Option.some.inj hk;omega);clear bi bj e0 e1 e2 e3 hT E W X yH yD ar aL;have O:=Lib.hid (And.intro au (And.intro aM N));clear au aM N;generalize Y.setCell ⟨b,J,none⟩ (.int .i64 u)=w7 at *;obtain⟨q0,q1,q2,q3,q4⟩:=id A;obtain⟨b0,b1,b2,b3,b4⟩:=id G;have hZ:=G.all (.slice (some ⟨bo,oo,none⟩) n i) (.slice (some ⟨g,0,none⟩) n l) (.slice C n q);obtain⟨-,z0,z1,z2,-⟩:=id hZ;clear hZ G A;go_wp2_with fail
  refine bodyPost_ret (v := .agg #[.slice (some ⟨bo,oo,none⟩) n i,.slice (some ⟨g,0,none⟩) n l,.slice C n q]) (by simp[results,Tryz.results111,go_sem,z0,z1,z2]) rfl ?_;exact qK O.out.2.2 (by omega) (λk hk _=>⟨by rcases hk with hk|hk<;>omega,by rcases hk with hk|hk<;>omega⟩) O.out.2.1 aR (by show P.orders.length<=7;rw[<-Z.out.2.2.1];omega) O.out.1.p3 (mq.same rfl)
 ·have bD:(z == 0)=false:=by simp[hz]
  clear hz;have bk:=Lib.hid L;clear L;have bI:=Lib.hid (And.intro aj ak);clear aj ak aA;go_wp2_with fail
  have L:=bk.out;obtain⟨aj,ak⟩:=bI.out;refine Calls.mono (kZ B0 w5 sb _ S.out.2) ?_;rintro e6 Y ⟨v6,rfl,a,y2,rfl,hy0,hy1,ar⟩;have au:=S.out.1.moved a (λh=>by omega);have A:=E.moved a (by omega);have G:=W.moved a (by omega);have N:=dy X a;have bQ:(I:Int)+1<n:=by omega
  have cb:0<=y2/\(I:Int)+1+y2<n:=by
   by_cases h:1<(n:Int)-1-(I:Int)
   ·have:=hy1 h;omega
   ·have:=hy0 (by omega);omega
  obtain⟨K,hK⟩:∃K:Nat,(I:Int)+1+y2=K:=⟨((I:Int)+1+y2).toNat,by omega⟩;obtain⟨M,hM⟩:∃M:Nat,(K:Int)-(I:Int)=(M:Int)+1:=⟨((K:Int)-(I:Int)-1).toNat,by omega⟩;have aB:IntKind.i64.wrap ((K:Int)-(I:Int))=(M:Int)+1:=by rw[hM];exact IntWalk.i64_in _ (by omega)
  have aC:IntKind.i64.wrap (M:Int)=(M:Int):=IntWalk.i64_in _ (by omega);have O:=Lib.hid (And.intro au ar);clear a au ar S E W X hy0 hy1;have aD:=(Z.out.2.1.cv I (by omega)).1;have aZ:=((Z.out.2.1.cv I (by omega)).2 M (by omega)).1.1;obtain⟨g,jL,e,AR,b,ql,ad,⟨ay,aa⟩,jB,D,⟨Vc,heq⟩,hel,hce,⟨ae,AQ⟩,hbg,Ai,hbl,al,am⟩:=O.out.1.NV (r:=sb) I M J (by omega) (by rw[aD];omega) (by rw[aZ];omega) (λh=>by omega);obtain⟨rfl,rfl⟩:C=some ⟨g,0,none⟩/\q=jL:=by cases ad;exact⟨rfl,rfl⟩
  clear ad;obtain⟨bo,oo,rfl,⟨NZ,N0⟩,N1,T⟩:=Ints.at O.out.1.p3.o J (by omega);have bE:bo≠b:=λe=>O.out.1.NU I M (by omega) (by rw[aD];omega) rfl D hce (by rw[<-e];rfl);rw[aD,<-L] at D;rw[aZ,<-L] at hce;obtain⟨m,hm⟩:∃m,m=n-1-I:=⟨_,rfl⟩;rw[<-hm] at D;have cd:(M:Int)<m:=by omega
  generalize gt P.orders J=oj at T;generalize gt (gt (gt P.conj I) M) J=bF at al;have e0:∀w',ig Y sb b w'->w'.cell? ⟨qb,0,none⟩=some (.slice (some ⟨bo,oo,none⟩) n i):=λw' h=>h.cell A.2.1 (by simp;omega) (by simp;omega);have e1:∀w',ig Y sb b w'->w'.cell? ⟨qb,2,none⟩=some (.slice (some ⟨g,0,none⟩) n q):=λw' h=>h.cell A.2.2.2.1 (by simp;omega) (by simp;omega);have e2:∀w',ig Y sb b w'->w'.cell? ⟨g,I,none⟩=some (.slice (some ⟨e,0,none⟩) m AR):=λw' h=>h.cell D (by simp;omega) (by simp;omega);have e3:∀w',ig Y sb b w'->w'.cell? ⟨bo,oo+J,none⟩=some (.int .i64 oj):=λw' h=>h.cell T (by simp;omega) (by simp;omega);have e4:∀w',ig Y sb b w'->w'.cell? ⟨e,M,none⟩=some (.slice (some ⟨b,0,none⟩) n ql):=λw' h=>h.cell hce (by simp;omega) (by simp;omega);have aq:=Lib.hid am;clear am aj ak HJ hJ hm hM aD aZ;clear D T hce L;have bl:=Lib.hid (And.intro aB aC);clear aB aC;go_wp2_with fail
  have aB:=bl.out.1;have aC:=bl.out.2
  go_region_held3 (λw'=>ig Y sb b w') (first|exact ig.ext (fk _ _)|exact ig.of (by assumption)|exact ig.two Q (iG _ _ _ _)|assumption)
   (first
    | (go_at_call 84;refine Calls.mono (kZ B0 Y.drew sb oj (O.out.2.ext (fk _ _))) ?_;rintro e7 w7 ⟨v7,rfl,aN,u,rfl,yH,yD,G0⟩;have Q:Y.grownBy w7 (some sb):=dy (fH (some sb) (fk _ _)) aN;have bm:=Q.cell al (by simp;omega);have bn:=(aq.out w7 Q).1))
  clear aB aC;have bp:=(aq.out w7 Q).2 u;have hT:=iG w7 b J (.int .i64 u);have bT:=Q.size;have aO:=(A.moved Q (by omega)).moved hT (by omega);have aw:=(G.moved Q (by omega)).moved hT (by omega);have aP:=fu (dy N Q) hT (λj hj az=>by have:=Option.some.inj hj;omega);have aQ:=G0.own hT (λk hk=>by have:=Option.some.inj hk;omega);clear bm bn e0 e1 e2 e3 e4 hT A G N yH yD G0 aN;have a0:=Lib.hid (And.intro bp (And.intro aQ aP));clear bp aQ aP;generalize w7.setCell ⟨b,J,none⟩ (.int .i64 u)=w8 at *;obtain⟨q0,q1,q2,q3,q4⟩:=id aO;obtain⟨b0,b1,b2,b3,b4⟩:=id aw;have hZ:=aw.all (.slice (some ⟨bo,oo,none⟩) n i) (.slice B n l) (.slice (some ⟨g,0,none⟩) n q);obtain⟨-,z0,z1,z2,-⟩:=id hZ;clear hZ aw aO;go_wp2_with fail
  refine bodyPost_ret (v := .agg #[.slice (some ⟨bo,oo,none⟩) n i,.slice B n l,.slice (some ⟨g,0,none⟩) n q]) (by simp[results,Tryz.results111,go_sem,z0,z1,z2]) rfl ?_;exact qK a0.out.2.2 (by omega) (λk hk _=>⟨by rcases hk with hk|hk<;>omega,by rcases hk with hk|hk<;>omega⟩) a0.out.2.1 aR (by show P.orders.length<=7;rw[<-bk.out];omega) a0.out.1.p3 (mq.same rfl)
end Go.Proofs.YtoakmefajbbggaaGreat
