/- Merged from templates. -/
import Derived.Test.YtdcobapnlpeaaaaGreatX7
import Derived.Laws.BytesArg
set_option maxRecDepth 100000
set_option maxHeartbeats 8000000
namespace Go.Proofs.YtdcobapnlpeaaaaGreat
open Go.RowKit
attribute [local go_sem ↓] Go.wp_at_zero Go.wp_at_succ
theorem CE {P:Pr}{N:Nat}(h:Shp N P) (b:N<=1000):(∀x∈P.powers,x.length<=1000000)/\P.powers.length<=1000000/\P.conj.length<=1000000/\(∀i,i<P.conj.length->(∀x∈gt P.conj i,x.length<=1000000)/\(gt P.conj i).length<=1000000):=by
 have e:=h.n;refine⟨λx hx=>by have:=h.pv x hx;omega,by rw[h.p];omega,by rw[h.c];omega,λi a=>⟨λx hx => ?_,?_⟩⟩
 ·have:=h.cv _ (by rw[gt_eq _ i a];exact List.getElem_mem a) x hx
  omega
 ·rw[h.cl i (by rw[<-h.c];exact a)];omega
def uq (w0:World) (P:Pr) (q:Value) (e:World):Prop:=∃b a n c a2 g c2,q=.pointer (some ⟨b,0,none⟩)/\w0.heap.size<=b/\Ext w0 e/\Box3 e b (.slice a n c) (.slice a2 g c2) (.slice none 0 0) /\
 PresX (λk=>w0.heap.size<=k/\k≠b) e (.slice a n c) (.slice a2 g c2) (.slice none 0 0) ⟨P.orders,P.powers,[]⟩
theorem qm {w0 g:World}{P:Pr}{b n c i c2 a1 a2 b1 b2:Nat}{a a':Option Addr}(j:w0.heap.size<=b) (l:Ext w0 g) (hB:Box3 g b (.slice a n c) (.slice a' i c2) (.slice none 0 0))
  (m:OwnIn (λk=>a1<=k/\k<a2) g (.slice a n c) P.orders) (p:RowsI (λk=>b1<=k/\k<b2) g (.slice a' i c2) P.powers)
  (h1:w0.heap.size<=a1) (u:w0.heap.size<=b1) (v:a2<=b1\/b2<=a1) (q:¬(a1<=b/\b<a2)) (r:¬(b1<=b/\b<b2)):uq w0 P (.pointer (some ⟨b,0,none⟩)) g:=
 ⟨b,a,n,c,a',i,c2,rfl,j,l,hB,λk=>a1<=k/\k<a2,λk=>b1<=k/\k<b2,λ_=>False,m,p,⟨[],λ_ _=>False,rfl,by simp,World.ownsRow_nil _ _ _ _,by simp[Value.ownBlock],by simp,by simp,by simp⟩,
  λk hk=>⟨⟨by omega,λe=>q (e▸hk)⟩,λe=>by omega,λe=>e⟩,λk hk=>⟨⟨by omega,λe=>r (e▸hk)⟩,λe=>e⟩,λk hk=>hk.elim⟩
theorem oC (w:World) (pv:Value) (P:Pr) (S:Nat->Prop) (N:Nat) (hp:PresV S w pv P) (hS:Shp N P) (hN:N<=1000) :
  Calls Tryz.prog 293 #[pv] w (Ret w (PresR w.heap.size P)):=by
 obtain⟨vo,vp,vc,rfl,h3⟩:=hp;obtain⟨O,l,iJ,_,_⟩:=h3.o.shape;obtain⟨ap,m,hvp,_,_⟩:=Sl.shape h3.p;obtain⟨Q,g,gz,_,_⟩:=Sl.shape h3.c;subst iJ hvp gz;have ai:Ext w ((w.alloc (.cells #[.slice O P.orders.length l,.slice ap P.powers.length m,.slice Q P.conj.length g] 28)).alloc (.cells #[.slice none 0 0,.slice none 0 0,.slice none 0 0] 28)):=grown_trans (World.grownBy_alloc _ _ _) (World.grownBy_alloc _ _ _);have aj:=(Box3.made w 28 (.slice O P.orders.length l) (.slice ap P.powers.length m) (.slice Q P.conj.length g)).ext (World.grownBy_alloc _ (.cells #[.slice none 0 0,.slice none 0 0,.slice none 0 0] 28) _);have R:=Box3.made (w.alloc (.cells #[.slice O P.orders.length l,.slice ap P.powers.length m,.slice Q P.conj.length g] 28)) 28 (.slice none 0 0) (.slice none 0 0) (.slice none 0 0);have ak:(w.alloc (.cells #[.slice O P.orders.length l,.slice ap P.powers.length m,.slice Q P.conj.length g] 28)).heap.size=w.heap.size+1:=by simp
 have T:((w.alloc (.cells #[.slice O P.orders.length l,.slice ap P.powers.length m,.slice Q P.conj.length g] 28)).alloc (.cells #[.slice none 0 0,.slice none 0 0,.slice none 0 0] 28)).heap.size=w.heap.size+2:=by simp
 rw[ak] at R;have hb:=CE hS hN;have hn:=hS.n;have y:=Lib.hid (And.intro aj (And.intro R (And.intro T (And.intro hb (And.intro hS hn)))));clear aj R ak T hb hn;go_enter Tryz.func293,Tryz.ntmps293;go_wp2_with fail
 generalize (w.alloc (.cells #[.slice O P.orders.length l,.slice ap P.powers.length m,.slice Q P.conj.length g] 28)).alloc (.cells #[.slice none 0 0,.slice none 0 0,.slice none 0 0] 28)=w0 at *;have U:=h3.ext ai;have e0:∀w',Ext w0 w'->w'.cell? ⟨w.heap.size,0,none⟩=some (.slice O P.orders.length l):=λw' h=>(y.out.1.ext h).2.1;have e1:∀w',Ext w0 w'->w'.cell? ⟨w.heap.size,1,none⟩=some (.slice ap P.powers.length m):=λw' h=>(y.out.1.ext h).2.2.1;go_cut [3] (λqv wx=>uq w0 P qv wx)
 case first=>
  go_region_held3 (λw'=>Ext w0 w') (first|exact grown_drew _ _|assumption|exact grown_trans (by assumption) (World.grownBy_alloc _ _ _)|exact grown_own (by assumption) (grown_set3 _ _ _ _ _) (λj V a=>by cases V;first|(have:=eH.size;omega)|(have:=hgB.size;omega)|(simp at a)))
   (first
    | (go_at_call 213;refine Calls.mono (Calls.rel2 (w0:=w0) (by assumption) (l01Own2_ok _ _ P.powers S (Rows2.ext U.p (by assumption)) y.out.2.2.2.1.1 y.out.2.2.2.1.2.1)) ?_;rintro eB W ⟨vB,rfl,hgB,q,hsB,H⟩;obtain⟨aB,r,j8,_,_⟩:=SlD.shape (H.toD (by have:=y.out.2.2.2.1.2.1;omega));subst j8;(try have B:=Box3.ext B q);(first|(have B:Box3 _ w0.heap.size _ _ _:=Box3.ext (Box3.made w0.drew _ _ _ _) q)|(have B:=Box3.ext (Box3.made _ _ _ _ _) q)|skip);(try obtain⟨f0,f1,f2,f3,f4⟩:=id B))
    | (go_at_call 199;refine Calls.mono (Calls.rel2 (w0:=w0) (by assumption) (l01Own_ok _ _ P.orders S (Ints.ext U.o (by assumption)) (by have:=y.out.2.2.2.2.2;omega))) ?_;rintro eA F ⟨vA,rfl,eH,C,fK,I⟩;obtain⟨aA,u,pz,_⟩:=(I.ints (by have:=y.out.2.2.2.2.2;omega)).shape;subst pz;(try have B:=Box3.ext B C);(first|(have B:Box3 _ w0.heap.size _ _ _:=Box3.ext (Box3.made w0.drew _ _ _ _) C)|(have B:=Box3.ext (Box3.made _ _ _ _ _) C)|skip);(try obtain⟨f0,f1,f2,f3,f4⟩:=id B)))
  all_goals (try go_wp2_with fail)
  all_goals go_meet
  all_goals
   have bf:=eH.size;have bg:=q.size;have bh:=y.out.2.2.2.2.2;have bi:=y.out.2.2.2.1.2.1
  ·have D:=Box3.made W 28 (.slice aA P.orders.length u) (.slice aB P.powers.length r) (.slice none 0 0)
   have b:=World.grownBy_alloc W (.cells #[.slice aA P.orders.length u,.slice aB P.powers.length r,.slice none 0 0] 28) none
   refine qm (a1:=w0.heap.size) (a2:=F.heap.size) (b1:=F.heap.size) (b2:=W.heap.size) (by omega) (grown_trans (by assumption) b) D
       (rdOwn.mono (OwnIn.of I (by omega) (λk h1 A=>⟨h1,A⟩)) (λk hk a=>⟨hk,by have:=b.size;omega,(b.block k (by omega) (by simp)).trans (q.block k a (by simp))⟩))
       (rdRowsI.mono (SlI.of H (by omega) (λk h1 A=>⟨h1,A⟩)) (λk hk a=>⟨hk,by have:=b.size;omega,b.block k a (by simp)⟩)) (by omega) (by omega) (by omega) (by omega) (by omega)
  ·have D:=B.all (.slice aA P.orders.length u) (.slice aB P.powers.length r) (.slice none 0 0)
   have b:=grown_set3 W F.heap.size (.slice aA P.orders.length u) (.slice aB P.powers.length r) (.slice none 0 0);have aN:=grown_trans (World.grownBy_alloc F (.cells #[.slice none 0 0,.slice none 0 0,.slice none 0 0] 28) none) q;have aO:(F.alloc (.cells #[.slice none 0 0,.slice none 0 0,.slice none 0 0] 28)).heap.size=F.heap.size+1:=by simp
   refine qm (a1:=w0.heap.size) (a2:=F.heap.size) (b1:=F.heap.size+1) (b2:=W.heap.size) (by omega) (by assumption) D
       (rdOwn.mono (OwnIn.of I (by omega) (λk h1 A=>⟨h1,A⟩)) (λk hk a=>⟨hk,by have:=b.size;omega,(b.block k (by omega) (λe=>by cases e;omega)).trans (aN.block k (by omega) (by simp))⟩))
       (rdRowsI.mono (SlI.of H (by omega) (λk h1 A=>⟨by rw[<-aO];exact h1,A⟩)) (λk hk a=>⟨hk,by have:=b.size;omega,b.block k a (λe=>by cases e;omega)⟩)) (by omega) (by omega) (by omega) (by omega) (by omega)
  ·have D:=B.all (.slice aA P.orders.length u) (.slice aB P.powers.length r) (.slice none 0 0)
   have b:=grown_set3 W w0.heap.size (.slice aA P.orders.length u) (.slice aB P.powers.length r) (.slice none 0 0);have bj:=B.1
   refine qm (a1:=w0.heap.size+1) (a2:=F.heap.size) (b1:=F.heap.size) (b2:=W.heap.size) (by omega) (by assumption) D
       (rdOwn.mono (OwnIn.of I (by omega) (λk h1 A=>⟨by simpa using h1,A⟩)) (λk hk a=>⟨hk,by have:=b.size;omega,(b.block k (by omega) (λe=>by cases e;omega)).trans (q.block k a (by simp))⟩))
       (rdRowsI.mono (SlI.of H (by omega) (λk h1 A=>⟨h1,A⟩)) (λk hk a=>⟨hk,by have:=b.size;omega,b.block k a (λe=>by cases e;omega)⟩)) (by omega) (by omega) (by omega) (by omega) (by omega)
 case rest=>
  obtain⟨J,a1,n1,c1,a2,n2,c2,rfl,Ez,hg1,ur,hX1⟩:=hcut;clear e0 e1;go_wp2
  go_loopw [4] (λiv wr=>∃(i:Nat) (vc:Value),iv=.int .i64 i/\i<=P.conj.length/\Ext w0 wr/\Box3 wr J (.slice a1 n1 c1) (.slice a2 n2 c2) vc /\
   PresX (λk=>w0.heap.size<=k/\k≠J) wr (.slice a1 n1 c1) (.slice a2 n2 c2) vc ⟨P.orders,P.powers,P.conj.take i⟩) (λiv _=>P.conj.length-(intOf iv).toNat)
  case atStart=>exact⟨0,_,rfl,by omega,hg1,ur,hX1⟩
  case round=>
   clear ur hX1 hg1;obtain⟨i,vc,rfl,hi,M,hB,hX⟩:=hrel;have e2:∀w',Ext wr w'->w'.cell? ⟨w.heap.size,2,none⟩=some (.slice Q P.conj.length g):=λw' h=>(y.out.1.ext (grown_trans M h)).2.2.2.1;have e3:=e2 wr (grown_refl _ _);by_cases a:i<P.conj.length
   ·have aX:(i:Int)<P.conj.length:=by omega
    obtain⟨Fo,Fp,Fc,hP⟩:=hX.part;obtain⟨_,_,_,X,Y,c3,_,rfl,_,qq⟩:=hX.sh2
    have am:(Value.slice X Y c3).ownBlock≠some J:=by
     obtain⟨_,_,_,_,_,q1,_⟩:=hP.c;exact λe=>(hP.dc _ (q1 _ e)).2 rfl
    obtain⟨bc,oc,ag,an,rfl,_,EA,Z,lu⟩:=Rows3.at U.c i a;have aq:=Z;have aa:=Rows2.ext lu M;clear lu
    have ar:∀k,(Value.slice X Y c3).ownBlock=some k->w0.heap.size<=k:=by
     obtain⟨_,_,_,_,_,q1,_⟩:=hP.c;exact λk e=>(hP.dc _ (q1 _ e)).1
    have ab:=y.out.2.2.2.1.2.2.2 i a;have z:=take_succ_gt P.conj i a;have au:(P.conj.take i).length<=1000000:=by rw[List.length_take];have:=y.out.2.2.2.1.2.2.1;omega
    obtain⟨G,hG⟩:∃G,G=gt P.conj i:=⟨_,rfl⟩;rw[<-hG] at aa ab z aq Z;have K:=Lib.hid (And.intro z (And.intro au (And.intro am (And.intro ab (And.intro aa ar)))));clear z au ab aa hG qq ar am aq;have r2:∀w',Ext w0 w'->w'.cell? ⟨bc,oc+i,none⟩=some (.slice ag G.length an):=λw' h=>h.cell Z (by simp);have r4:∀w',Ext w0 w'->w'.cell? ⟨w.heap.size,2,none⟩=some (.slice (some ⟨bc,oc,none⟩) P.conj.length g):=λw' h=>(y.out.1.ext h).2.2.2.1;have r3:∀w',Ext wr w'->w'.cell? ⟨J,2,none⟩=some (.slice X Y c3):=λw' h=>(hB.ext h).2.2.2.1;have f3:=r3 wr.drew (grown_drew _ _);clear e2;go_wp2;clear e3;have f2:=r2 wr.drew (grown_trans M (grown_drew _ _));have f4:=r4 wr.drew (grown_trans M (grown_drew _ _));clear r2 r4
    go_region_law (first
      | (go_simp;go_at_call 213;refine Calls.mono (l01Own2_ok _ _ G S (Rows2.ext K.out.2.2.2.2.1 (grown_drew _ _)) K.out.2.2.2.1.1 K.out.2.2.2.1.2) ?_;rintro eG wG ⟨vG,rfl,aS,av⟩;obtain⟨aG,aw,ql,_,_⟩:=SlD.shape (av.toD (by have:=K.out.2.2.2.1.2;omega));subst ql;have E:Ext wr wG:=grown_trans (grown_drew _ _) aS;have g3:=r3 wG E;have g4:=r3 (wG.alloc (.cells #[.slice aG G.length aw] 25)) (grown_trans E (World.grownBy_alloc _ _ _)))
      | (refine step_app_I (rdI rdOwn) 26 (.slice none 0 0) 24 und_rows3 Tryz.infoRows rfl (by decide) (by rfl) _ _ (by rfl) Fc wr wG _ _ (P.conj.take i) G (by rfl) hP.c E (SlI.of av (by have:=K.out.2.2.2.1.2;omega) (λk h _=>h)) (by rfl) (by rfl) K.out.2.1 ?_;intro v8 w8 ax L bp;obtain⟨g8,m8,k8,rfl,qi⟩:=SlI.sl ax;clear qi;have aD:=Box3.keep hB L.size (L.block _ hB.1 (λe=>K.out.2.2.1 e.symm));have aE:Ext w0 w8:=grown_own M L (λj V a=>by have:=K.out.2.2.2.2.2 _ V;omega);obtain⟨f80,f81,f82,f83,f84⟩:=id aD))
    all_goals
     have aF:Ext w0 (w8.setCell ⟨J,2,none⟩ (.slice g8 m8 k8)):=grown_own aE (grown_set1 _ _ _ _) (λj V a=>by cases V;omega);have aT:=(aD.put (.slice g8 m8 k8)).2.2;have aH:=hP.newC ax L;rw[<-K.out.1] at aH
     have aI:PresX (λk=>w0.heap.size<=k/\k≠J) (w8.setCell ⟨J,2,none⟩ (.slice g8 m8 k8)) (.slice a1 n1 c1) (.slice a2 n2 c2) (.slice g8 m8 k8) ⟨P.orders,P.powers,P.conj.take (i+1)⟩:=
      aH.mono (frame_of (grown_set w8 J 2 (.slice g8 m8 k8)) (λk hk a=>by
       have bq:(w0.heap.size<=k/\k≠J)\/wr.heap.size<=k:=hk;have h1:=hB.1;have A:=M.size;exact⟨by omega,λe=>by cases e;omega⟩))
     clear f80 f81 f82 f83 f84 f3 g3 g4 f2 f4 r3;go_wp2;go_roundw
     case rel=>exact⟨i+1,_,by go_num,by omega,aF,aT,aI⟩
     case measure=>simp[intOf];omega
   ·have aU:i=P.conj.length:=by omega
    subst aU;rw[List.take_length] at hX;clear e2;obtain⟨_,_,_,X,Y,c3,_,rfl,hn2,qq⟩:=hX.sh2;clear hn2 qq;have hz:=y.out.2.1.ext M;obtain⟨h0,h1,A,h3',h4⟩:=id hB;obtain⟨k0,k1,k2,k3,k4⟩:=id hz;have hZ:=hz.all (.slice a1 n1 c1) (.slice a2 n2 c2) (.slice X Y c3);have hT:=grown_set3 wr (w.heap.size+1) (.slice a1 n1 c1) (.slice a2 n2 c2) (.slice X Y c3);obtain⟨_,z0,z1,z2,_⟩:=id hZ;have HT:=Lib.hid hT;clear hT hZ;go_wp2;refine bodyPost_ret (v := .agg #[.slice a1 n1 c1,.slice a2 n2 c2,.slice X Y c3]) (by simp[results,Tryz.results293,go_sem,z0,z1,z2]) rfl ?_;have T:=y.out.2.2.1;exact⟨_,rfl,grown_own (grown_trans ai M) HT.out (λj V a=>by cases V;omega),_,_,_,rfl,hX.mono (frame_of HT.out (λk hk _=>⟨by show w.heap.size<=k;omega,λe=>by cases e;omega⟩))⟩
def Sm (l:List Int):Prop:=∀x∈l,0<=x/\x<=7
theorem Sm.at {l:List Int}(h:Sm l) {i:Nat}(a:i<l.length):0<=gt l i/\gt l i<=7:=h _ (by rw[gt_eq l i a];exact List.getElem_mem a)
theorem Sm.set {l:List Int}(h:Sm l) (i:Nat) {x:Int}(hx:0<=x/\x<=7):Sm (l.set i x):=λy hy=>by
 rcases List.mem_or_eq_of_mem_set hy with a|a
 ·exact h y a
 ·rw[a];exact hx
theorem nZ (x:Int) (h:0<=x/\x<=1000):wrap64 x=x:=IntWalk.wrap64_in _ (by omega)
theorem n9 (x:Int) (h:0<=x/\x<=1000):IntKind.i64.wrap x=x:=IntWalk.i64_in _ (by omega)
theorem CF {a b:Int}(ha:0<=a/\a<=7) (e:0<=b/\b<=7):0<=a*b/\a*b<=49:=
 ⟨Int.mul_nonneg ha.1 e.1,Int.le_trans (Int.mul_le_mul ha.2 e.2 e.1 (by decide)) (by decide)⟩
theorem CG (w:World) (p:Int) (vv rv:Value) (v:List Int) (R:List (List Int)) (c:Nat) (S S':Nat->Prop) (hv:Ints S w vv v) (hr:Rows2 S' w rv R) (hp:1<=p/\p<=7) (M:Sm v) (N:∀x∈R,Sm x) (hc:c<=100) :
  Calls Tryz.prog 366 #[.int .i64 p,vv,rv,.int .i64 c] w (Ret w λw' r=>∃l,l.length=c/\Sm l/\Own w.heap.size w' r l):=by
 obtain⟨av,capv,rfl,_,_⟩:=hv.shape;obtain⟨ar,capr,rfl,_,_⟩:=Sl.shape hr;have HV:=Lib.hid (And.intro M N);clear M N;go_enter Tryz.func366,Tryz.ntmps366;go_wp2_with (at_make;refine wp_make_ints rfl _ _ rfl w.heap.size c w.heap.size rfl _ rfl rfl rfl (by omega) (Nat.le_refl _) ?_;intro w1 O P az)
 go_loopw [10] (λiv wr=>∃(i:Nat) (l:List Int),iv=.int .i64 i/\i<=v.length/\l.length=c/\Sm l/\Ext w wr/\Own w.heap.size wr (.slice (some ⟨w.heap.size,0,none⟩) c c) l) (λiv _=>v.length-(intOf iv).toNat)
 case atStart=>exact⟨0,_,rfl,by omega,by simp,by intro x hx;rw[List.eq_of_mem_replicate hx];omega,P,O⟩
 case round=>
  clear O P;obtain⟨i,l,rfl,hi,g,e,u,hO⟩:=hrel;by_cases C:i<v.length
  ·have Q:(i:Int)<v.length:=by omega
   by_cases D:i<R.length
   ·have T:(i:Int)<R.length:=by omega
    obtain⟨br,or,a2,cap2,rfl,_,_,y,E⟩:=Rows2.at hr i D;have U:=HV.out.1.at C;have F:Sm (gt R i):=HV.out.2 _ (by rw[gt_eq R i D];exact List.getElem_mem D);obtain⟨z,hz⟩:∃z,z=gt R i:=⟨_,rfl⟩;rw[<-hz] at y E F;have HR:=Lib.hid (And.intro F (And.intro U hz));clear F U hz;have HL:=Lib.hid (And.intro g e);clear g e;have n:=u.cell y (by simp);go_wp2;clear n;go_loopw [11] (λjv wx=>∃(j:Nat) (l:List Int),jv=.int .i64 j/\j<=z.length/\l.length=c/\Sm l/\Ext w wx/\Own w.heap.size wx (.slice (some ⟨w.heap.size,0,none⟩) c c) l) (λjv _=>z.length-(intOf jv).toNat)
    case atStart=>exact⟨0,l,rfl,by omega,HL.out.1,HL.out.2,u,hO⟩
    case round=>
     clear hO u HL;obtain⟨j,l,rfl,hj,g,e,u,hO⟩:=hrel;have n:=u.cell y (by simp);by_cases aC:j<c
     ·have G:(j:Int)<c:=by omega
      by_cases A:j<z.length
      ·have H:(j:Int)<z.length:=by omega
       obtain⟨bz,oz,rfl,_,_,I⟩:=Ints.at (Ints.ext E u) j A;obtain⟨bv,ov,rfl,_,_,J⟩:=Ints.at (Ints.ext hv u) i C;have K:=hO.cell j (by omega);have V:=hO.frozen j;have ha:=HR.out.2.1;have hb:=HR.out.1.at A;have hx:=e.at (show j<l.length by omega);obtain⟨a,W⟩:∃a,a=gt v i:=⟨_,rfl⟩;obtain⟨b,X⟩:∃b,b=gt z j:=⟨_,rfl⟩;obtain⟨x,Y⟩:∃x,x=gt l j:=⟨_,rfl⟩;rw[<-W] at ha J;rw[<-X] at hb I;rw[<-Y] at hx K;have ak:=CF ha hb;obtain⟨m,q⟩:∃m,m=a*b:=⟨_,rfl⟩;rw[<-q] at ak;have al:0<=(x+m)%p:=Int.emod_nonneg _ (by omega);have aG:(x+m)%p<p:=Int.emod_lt_of_pos _ (by omega);obtain⟨Z,hgs⟩:=hO.store j ((x+m)%p);have B:=e.set j (x:=(x+m)%p) ⟨al,by omega⟩;have aa:=grown_own u hgs (λk hk C=>by cases hk;omega);clear W X Y;have aH:p≠0:=by omega
       have ac:(l.set j ((x+m)%p)).length=c:=by rw[List.length_set];exact g
       have am:=n9 (x+m) (by omega);have an:IntKind.i64.wrap (a*b)=m:=by rw[<-q];exact n9 m (by omega)
       have ao:wrap64 (a*b)=m:=by rw[<-q];exact nZ m (by omega)
       have ap:=nZ (x+m) (by omega);have c1:wr.drew.cell? ⟨w.heap.size,j,none⟩=some (.int .i64 x):=K;have c2:wr.drew.cell? ⟨bv,ov+i,none⟩=some (.int .i64 a):=J;have c3:wr.drew.cell? ⟨br,or+i,none⟩=some (.slice (some ⟨bz,oz,none⟩) z.length cap2):=n;have c4:wr.drew.cell? ⟨bz,oz+j,none⟩=some (.int .i64 b):=I;have c5:wr.drew.frozen? ⟨w.heap.size,j,none⟩=false:=V;clear K J I V q hO;have ad:=Z.ext0 (grown_drew (wr.setCell ⟨w.heap.size,j,none⟩ (.int .i64 ((x+m)%p))) none);have ae:=grown_trans aa (grown_drew (wr.setCell ⟨w.heap.size,j,none⟩ (.int .i64 ((x+m)%p))) none);have HQ:=Lib.hid (And.intro ad (And.intro ae (And.intro B ac)));clear Z hgs aa B ac ad ae;go_wp2;clear n;go_still_tail 22,(by kernel_rfl)
       change wpList _ _ _ _ _ wr.drew;clear y E;go_wp2;clear an am ao ap;go_roundw
       case rel=>exact⟨j+1,_,by go_num,by omega,HQ.out.2.2.2,HQ.out.2.2.1,HQ.out.2.1,HQ.out.1⟩
       case measure=>simp[intOf];omega
      ·have H:¬((j:Int)<z.length):=by omega
       have L:=u;go_wp2;go_roundw
       case rel=>exact⟨i+1,l,by go_num,by omega,g,e,L,hO⟩
       case measure=>simp[intOf];omega
     ·have G:¬((j:Int)<c):=by omega
      have L:=u;go_wp2;go_roundw
      case rel=>exact⟨i+1,l,by go_num,by omega,g,e,L,hO⟩
      case measure=>simp[intOf];omega
   ·have T:¬((i:Int)<R.length):=by omega
    go_wp2;go_ret;exact⟨_,rfl,u,l,g,e,hO⟩
  ·have Q:¬((i:Int)<v.length):=by omega
   go_wp2;go_ret;exact⟨_,rfl,u,l,g,e,hO⟩
def iy (c:Nat) (R:List (List Int)):Prop:=∀x∈R,x.length=c/\Sm x
theorem uR (w:World) (p:Int) (J K:Value) (A R:List (List Int)) (c:Nat) (S S':Nat->Prop) (ha:Rows2 S w J A) (M:Rows2 S' w K R) (T:1<=p/\p<=7) (N:iy c A) (O:iy c R) (U:c<=100) (hl:A.length<=100) :
  Calls Tryz.prog 350 #[.int .i64 p,J,K,.int .i64 c] w (Ret w λw' r=>∃L,L.length=A.length/\iy c L/\RowsO w.heap.size w' r L):=by
 obtain⟨aa,capa,rfl,_,_⟩:=Sl.shape ha;obtain⟨ar,capr,rfl,_,_⟩:=Sl.shape M;have P:=Lib.hid (And.intro N O);clear N O;go_enter Tryz.func350,Tryz.ntmps350;go_wp2;go_loopw [9,10] (λV F wr=>∃(i:Nat) (v4:Value) (L:List (List Int)),v4=V/\F=.int .i64 i/\i<=A.length/\L.length=i/\iy c L/\Ext w wr/\RowsO w.heap.size wr v4 L) (λ_ F _=>A.length-(intOf F).toNat)
 case atStart=>exact⟨0,_,[],rfl,rfl,by omega,rfl,(λx hx=>by cases hx),World.grownBy_alloc _ _ _,[],λ_ _=>False,rfl,World.ownsRow_lit w #[] 0 (Nat.le_refl _) (by decide) rfl,by simp,by simp,by simp⟩
 case round=>
  obtain⟨i,v4,L,rfl,rfl,hi,a,e,m,hO⟩:=hrel;by_cases n:i<A.length
  ·have q:(i:Int)<A.length:=by omega
   obtain⟨b,off,a2,cap2,rfl,_,_,hcc,G⟩:=Rows2.at (Rows2.ext ha m) i n;have u:=P.out.1 _ (gtMem n);have v:∀x∈R,Sm x:=λx hx=>(P.out.2 x hx).2;have g:=CG wr p _ _ (gt A i) R c _ _ G (Rows2.ext M m) T u.2 v U;have y:L.length<=1000000:=by omega
   have k:=Lib.hid (And.intro a (And.intro e y));clear a e y u v;go_wp2_with fail
   refine Calls.mono g ?_;rintro eC Q ⟨W,rfl,iL,l,z,B,iV⟩;clear g;have C:OwnIn (From wr.heap.size) Q W l:=OwnIn.of iV (by omega) (λj h1 _=>h1);obtain⟨ay,capy,gM,_,_⟩:=C.ints.shape;subst gM;have X:=Lib.hid (And.intro z B);clear hcc z B;go_wp2_with (first|(at_builtin;refine wp_app_row rfl _ _ rfl w.heap.size wr Q v4 _ L l rfl hO iL C rfl rfl k.out.2.2 m.size ?_;intro Y w5 H I Z;have D:=hO.extw m (Nat.le_refl _) I)|fail)
   go_roundw
   case rel=>exact⟨i+1,Y,L++[l],rfl,by go_num,by omega,by rw[List.length_append,k.out.1];rfl,λx hx=>by
    rcases List.mem_append.1 hx with h|h
    ·exact k.out.2.1 x h
    ·rw[List.mem_singleton.1 h];exact X.out,D,H⟩
   case measure=>simp[intOf];omega
  ·have E:i=A.length:=by omega
   obtain⟨az,capz,fM,_,_⟩:=SlD.shape (hO.toD (by omega));subst fM;have q:¬((i:Int)<A.length):=by omega
   have k:=Lib.hid (And.intro a (And.intro e E));clear a e E;go_wp2;go_ret;exact⟨_,rfl,m,L,by rw[k.out.1,k.out.2.2],k.out.2.1,hO⟩
def qu (n:Nat) (w:List Int):Prop:=∀x∈w,x≠0 /\ -n<=x/\x<=n
def CH (n M B:Nat) (w':World) (v:Value):Prop:=∃(a:Option Addr) (k c:Nat) (r:Bool),v=.tuple #[.slice a k c,.bool r]/\(r=true->∃l,l.length=n/\k=n/\(∀x∈l,0<=x/\x<=(M:Int))/\Own B w' (.slice a k c) l)
theorem uu (x:Int) (h:0<=x/\x<=100000):IntKind.i64.wrap x=x:=IntWalk.i64_in _ (by omega)
theorem uw (x:Int) (h:0<=x/\x<=100000):wrap64 x=x:=IntWalk.wrap64_in _ (by omega)
theorem CI (w:World) (n:Nat) (lv:Value) (L:List Int) (S:Nat->Prop) (T:Ints S w lv L) (U:qu n L) (hn:n<=100) (hl:L.length<=1000) :
  Calls Tryz.prog 361 #[.int .i64 n,lv] w (Ret w (CH n L.length w.heap.size)):=by
 obtain⟨al,capl,rfl,_,_⟩:=T.shape;have Y:=Lib.hid U;clear U;go_enter Tryz.func361,Tryz.ntmps361;go_wp2_with (at_make;refine wp_make_ints rfl _ _ rfl w.heap.size n w.heap.size rfl _ rfl rfl rfl (by omega) (Nat.le_refl _) ?_;intro w1 A B V)
 go_loopw [7] (λO wr=>∃(i:Nat) (l:List Int),O=.int .i64 i/\i<=L.length/\l.length=n/\(∀x∈l,0<=x/\x<=i)/\Ext w wr/\Own w.heap.size wr (.slice (some ⟨w.heap.size,0,none⟩) n n) l) (λO _=>L.length-(intOf O).toNat)
 case atStart=>exact⟨0,_,rfl,by omega,by simp,(λx hx=>by rw[List.eq_of_mem_replicate hx];omega),B,A⟩
 case round=>
  clear A B;obtain⟨i,l,rfl,hi,g,a,N,hO⟩:=hrel;by_cases r:i<L.length
  ·have W:(i:Int)<L.length:=by omega
   obtain⟨b,off,rfl,_,_,P⟩:=Ints.at (Ints.ext T N) i r;have hx:=Y.out _ (gtMem r);obtain⟨x,C⟩:∃x,x=gt L i:=⟨_,rfl⟩;rw[<-C] at P hx;clear C;by_cases X:x<0
   ·have Q:=Lib.hid (And.intro g (And.intro a hx));clear g a hx
    go_wp2;exact bodyPost_ret (v := .tuple #[.slice none 0 0,.bool false]) (by simp[results,Tryz.results361,go_sem]) rfl ⟨_,rfl,N,none,0,0,false,rfl,λh=>by cases h⟩
   ·obtain ⟨J,CJ⟩:=Int.eq_ofNat_of_zero_le (show 0<=x-1 by omega)
    obtain rfl:x=(J:Int)+1:=by omega
    clear CJ;have hJ:J<n:=by omega
    have Z:(J:Int)<n:=by omega
    have hy:=a _ (gtMem (show J<l.length by omega));have u:=hO.cell J (by omega);have D:=hO.frozen J;obtain⟨y,E⟩:∃y,y=gt l J:=⟨_,rfl⟩;rw[<-E] at hy u;obtain⟨F,hgs⟩:=hO.store J (y+1);have G:=grown_own N hgs (λk hk r=>by cases hk;omega);have H:(l.set J (y+1)).length=n:=by rw[List.length_set];exact g
    have I:∀z∈l.set J (y+1),0<=z/\z<=((i+1:Nat):Int):=λz hz=>by
     rcases List.mem_or_eq_of_mem_set hz with h|h
     ·have:=a z h;omega
     ·omega
    have K:=F.ext0 (grown_drew (wr.setCell ⟨w.heap.size,J,none⟩ (.int .i64 (y+1))) none);have M:=grown_trans G (grown_drew (wr.setCell ⟨w.heap.size,J,none⟩ (.int .i64 (y+1))) none);have e:=uu (J:Int) (by omega);have j:=uu (y+1) (by clear e;omega);have m:=uw (J:Int) (by clear e j;omega);have p:=uw (y+1) (by clear e j m;omega);have q:=Lib.hid (And.intro K (And.intro M (And.intro H (And.intro I (And.intro e (And.intro j (And.intro m p)))))));clear K M H I e j m p hgs G F E g a hx;have c1:wr.drew.cell? ⟨w.heap.size,J,none⟩=some (.int .i64 y):=u;have c2:wr.drew.cell? ⟨b,off+i,none⟩=some (.int .i64 ((J:Int)+1)):=P;have c3:wr.drew.frozen? ⟨w.heap.size,J,none⟩=false:=D;clear u D hO;go_wp2;clear P;have e:=q.out.2.2.2.2.1;have j:=q.out.2.2.2.2.2.1;have m:=q.out.2.2.2.2.2.2.1;have p:=q.out.2.2.2.2.2.2.2;go_still_tail 16,(by kernel_rfl)
    change wpList _ _ _ _ _ wr.drew;go_wp2;clear e j m p;go_roundw
    case rel=>exact⟨i+1,_,by go_num,by omega,q.out.2.2.1,q.out.2.2.2.1,q.out.2.1,q.out.1⟩
    case measure=>simp[intOf];omega
  ·have R:i=L.length:=by omega
   subst R;have Q:=Lib.hid (And.intro g a);clear g a;go_wp2;exact bodyPost_ret (v := .tuple #[.slice (some ⟨w.heap.size,0,none⟩) n n,.bool true]) (by simp[results,Tryz.results361,go_sem]) rfl ⟨_,rfl,N,_,_,_,true,rfl,λ_=>⟨l,Q.out.1,rfl,Q.out.2,hO⟩⟩
def CK (k M B:Nat) (w':World) (v:Value):Prop:=∃(a:Option Addr) (n c:Nat) (r:Bool),v=.tuple #[.slice a n c,.bool r]/\(r=true->∃l,l.length<=M/\n=l.length/\qu k l/\Own B w' (.slice a n c) l)
theorem CL (w:World) (k:Nat) (s:ByteArray) (hk:k<=100) (R:s.size<=1000) :
  Calls Tryz.prog 360 #[.int .i64 k,.string s] w (Ret w (CK k s.size w.heap.size)):=by
 rcases h1:(s.toList == [49]) with _|_
 case' true=>
  go_enter Tryz.func360,Tryz.ntmps360;go_wp2;exact bodyPost_ret (v := .tuple #[.slice (some ⟨w.heap.size,0,none⟩) 0 0,.bool true]) (by simp[results,Tryz.results360,go_sem]) rfl ⟨_,rfl,World.grownBy_alloc _ _ _,_,_,_,true,rfl,λ_=>⟨[],by simp,rfl,(λx hx=>by cases hx),World.ownsRow_lit w #[] 0 (Nat.le_refl _) (by decide) rfl⟩⟩
 go_enter Tryz.func360,Tryz.ntmps360;go_wp2;go_loopw [6,7] (λP J wr=>∃(i:Nat) (l:List Int) (v4:Value),v4=P/\J=.int .i64 i/\i<=s.size/\l.length=i/\qu k l/\Ext w wr/\Own w.heap.size wr v4 l) (λ_ J _=>s.size-(intOf J).toNat)
 case atStart=>exact⟨0,[],_,rfl,rfl,by omega,rfl,(λx hx=>by cases hx),World.grownBy_alloc _ _ _,World.ownsRow_lit w #[] 0 (Nat.le_refl _) (by decide) rfl⟩
 case round=>
  obtain⟨i,l,v4,rfl,rfl,hi,g,m,hg,hO⟩:=hrel;by_cases B:i<s.size
  ·have C:(i:Int)<s.size:=by omega
   have p:=Lib.hid (And.intro g m);clear g m;go_wp2;go_quiet (fail)
   rename_i nq;generalize wrap64 (wrap64 (wrap64 (s[i].toNat:Int)-97)+1)=D;generalize wrap64 (wrap64 (wrap64 (s[i].toNat:Int)-65)+1)=q;obtain⟨r,u⟩:∃r,r=wr.drewN nq:=⟨_,rfl⟩;have a:Ext wr r:=by rw[u];exact grown_drewN _ _ _
   rw[<-u];have b:=grown_trans hg a;have n:=hO.ext0 a;clear u a hO hg;have E:l.length<=1000000:=by have:=p.out.1;omega
   go_wp2_with fail
   refine Calls.mono (l01In_ok D 1 k r) ?_;rintro _ _ ⟨rfl,rfl⟩;rcases y:inB D 1 k with _|_
   ·go_wp2_with fail
    refine Calls.mono (l01In_ok q 1 k r) ?_;rintro _ _ ⟨rfl,rfl⟩;rcases F:inB q 1 k with _|_
    ·go_wp2
     exact bodyPost_ret (v := .tuple #[.slice none 0 0,.bool false]) (by simp[results,Tryz.results360,go_sem]) rfl ⟨_,rfl,b,none,0,0,false,rfl,λh=>by cases h⟩
    ·have G:1<=q/\q<=k:=by simpa [inB] using F
     have H:wrap64 (-q) = -q:=IntWalk.wrap64_in _ (by omega);have K:=Lib.hid G;clear G y F;go_wp2_with (first|(at_builtin;refine wp_app_int rfl _ _ rfl w.heap.size v4 l (-q) rfl r n rfl rfl E b.size ?_;intro L Q z A;have e:=grown_own b A (λj M B=>by have:=(n.lt j M).1;omega))|fail)
     clear H;go_roundw
     case rel=>exact⟨i+1,_,L,rfl,by go_num,by omega,by rw[List.length_append,p.out.1];rfl,(λx hx=>by
      rcases List.mem_append.1 hx with h|h
      ·exact p.out.2 x h
      ·rw[List.mem_singleton.1 h];have:=K.out;omega),e,z⟩
     case measure=>simp[intOf];omega
   ·have I:1<=D/\D<=k:=by simpa [inB] using y
    have K:=Lib.hid I;clear I y;go_wp2_with (first|(at_builtin;refine wp_app_int rfl _ _ rfl w.heap.size v4 l D rfl r n rfl rfl E b.size ?_;intro L Q z A;have e:=grown_own b A (λj M B=>by have:=(n.lt j M).1;omega))|fail)
    go_roundw
    case rel=>exact⟨i+1,_,L,rfl,by go_num,by omega,by rw[List.length_append,p.out.1];rfl,(λx hx=>by
     rcases List.mem_append.1 hx with h|h
     ·exact p.out.2 x h
     ·rw[List.mem_singleton.1 h];have:=K.out;omega),e,z⟩
    case measure=>simp[intOf];omega
  ·have N:i=s.size:=by omega
   have C:¬((i:Int)<s.size):=by omega
   obtain⟨O,c8,iz,_⟩:=(hO.ints (by omega)).shape;subst iz;have p:=Lib.hid (And.intro g m);clear g m N;go_wp2;exact bodyPost_ret (v := .tuple #[.slice O l.length c8,.bool (decide ((0:Int)<l.length))]) (by simp[results,Tryz.results360,go_sem]) rfl ⟨_,rfl,hg,O,l.length,c8,_,rfl,λ_=>⟨l,by have:=p.out.1;omega,rfl,p.out.2,hO⟩⟩
end Go.Proofs.YtdcobapnlpeaaaaGreat
namespace Go.Proofs.YtdcobapnlpeaaaaGreat
open Go.RowKit
theorem ux:Tryz.prog.underlying 246=some (.slice 9):=by kernel_rfl
theorem Tryz.uy:(Tryz.prog.info? 9).map (λi=>(i.zero,i.size,i.bytes))=some (some (.string ⟨#[]⟩),1,16):=by kernel_rfl
def kC (M B:Nat) (w':World) (v:Value):Prop:=∃(a:Option Addr) (c:Nat) (ts:List ByteArray),v=.slice a ts.length c/\1<=ts.length/\ts.length<=M+1/\(∀t∈ts,t.size<=M)/\OwnV B 9 w' (.slice a ts.length c) (ts.map Value.string)
theorem uz (s:ByteArray) (a b:Nat) (M:Nat) (h:s.size<=M):(s.extract a b).size<=M:=by
 simp[ByteArray.size_extract];omega
theorem qw (w:World) (s:ByteArray) (b:Int) (J:s.size<=1000) :
  Calls Tryz.prog 343 #[.string s,.int .u8 b] w (Ret w (kC s.size w.heap.size)):=by
 go_enter Tryz.func343,Tryz.ntmps343;go_wp2;go_loopw [5,6,7] (λE F A wr=>∃(i f:Nat) (ts:List ByteArray) (v4:Value),v4=E/\F=.int .i64 f/\A=.int .i64 i/\i<=s.size/\f<=i/\ts.length<=i/\(∀t∈ts,t.size<=s.size)/\Ext w wr/\OwnV w.heap.size 9 wr v4 (ts.map Value.string)) (λ_ _ A _=>s.size-(intOf A).toNat)
 case atStart=>exact⟨0,0,[],_,rfl,rfl,rfl,by omega,by omega,by simp,(λx hx=>by cases hx),World.grownBy_alloc _ _ _,World.ownsRow_lit w #[] 0 (Nat.le_refl _) (by decide) rfl⟩
 case round=>
  obtain⟨i,f,ts,v4,rfl,rfl,rfl,hi,hf,n,p,q,hO⟩:=hrel;have G:(f:Int)<=i:=by omega
  have r:(ts.map Value.string).length<=1000000:=by rw[List.length_map];omega
  have k:=Lib.hid (And.intro n (And.intro p r));clear n p r;by_cases u:i<s.size
  ·have v:(i:Int)<s.size:=by omega
   go_wp2_with (first|(at_builtin;refine wp_app_v 246 9 (.string ⟨#[]⟩) 16 ux Tryz.uy rfl (by decide) rfl _ _ rfl w.heap.size wr v4 _ (ts.map Value.string) rfl hO rfl rfl rfl k.out.2.2 q.size ?_;intro z D l m;have e:=grown_own q m (λj B u=>by have:=(hO.lt j B).1;omega))|fail)
   ·go_roundw
    case rel=>exact⟨i+1,i+1,ts++[s.extract f i],z,rfl,by go_num,by go_num,by omega,by omega,by rw[List.length_append,List.length_singleton];have:=k.out.1;omega,(λt C=>by
     rcases List.mem_append.1 C with h|h
     ·exact k.out.2.1 t h
     ·rw[List.mem_singleton.1 h];exact uz s f i _ (Nat.le_refl _)),e,by rw[List.map_append];exact l⟩
    case measure=>simp[intOf];omega
   ·go_roundw
    case rel=>exact⟨i+1,f,ts,v4,rfl,rfl,by go_num,by omega,by omega,by have:=k.out.1;omega,k.out.2.1,q,hO⟩
    case measure=>simp[intOf];omega
  ·have v:¬((i:Int)<s.size):=by omega
   go_wp2_with (first|(at_builtin;refine wp_app_v 246 9 (.string ⟨#[]⟩) 16 ux Tryz.uy rfl (by decide) rfl _ _ rfl w.heap.size wr v4 _ (ts.map Value.string) rfl hO rfl rfl rfl k.out.2.2 q.size ?_;intro z D l m;have e:=grown_own q m (λj B u=>by have:=(hO.lt j B).1;omega))|fail)
   have H:(ts++[s.extract f s.size]).length=ts.length+1:=by simp
   have y:OwnV w.heap.size 9 D z ((ts++[s.extract f s.size]).map Value.string):=by rw[List.map_append];exact l
   obtain ⟨I,c5,rfl⟩:∃a c,z=.slice a (ts++[s.extract f s.size]).length c:=by
    rcases y.form with⟨rfl,hn⟩|⟨g,cap,rfl,_,_,_⟩
    ·have:=congrArg List.length hn;simp at this
    ·exact⟨_,_,by rw[List.length_map]⟩
   go_ret
   exact ⟨_,rfl,e,I,c5,ts++[s.extract f s.size],rfl,by omega,by have:=k.out.1;omega,(λt C=>by
     rcases List.mem_append.1 C with h|h
     ·exact k.out.2.1 t h
     ·rw[List.mem_singleton.1 h];exact uz s f _ _ (Nat.le_refl _)),y⟩
end Go.Proofs.YtdcobapnlpeaaaaGreat
namespace Go.Proofs.YtdcobapnlpeaaaaGreat
open Go.RowKit
attribute [local go_sem ↓] Go.wp_at_zero Go.wp_at_succ
theorem CM (w:World) (s:ByteArray) (l:s.size<=1000) :
  Calls Tryz.prog 359 #[.string s] w (Ret w λ_ v=>∃x:Int,v=.int .i64 x):=by
 have a:(Ret w λ(_:World) v=>∃x:Int,v=.int .i64 x) (.returned (.int .i64 (-1))) w:=⟨_,rfl,Ext.refl _,_,rfl⟩;by_cases m:s.size=0
 ·go_enter Tryz.func359,Tryz.ntmps359
  go_wp2;go_ret;exact⟨_,rfl,Ext.refl _,_,rfl⟩
 by_cases n:6<s.size
 ·go_enter Tryz.func359,Tryz.ntmps359
  go_wp2;go_ret;exact⟨_,rfl,Ext.refl _,_,rfl⟩
 clear a;go_enter Tryz.func359,Tryz.ntmps359;go_wp2
 all_goals first
  | (go_ret;exact⟨_,rfl,Ext.refl _,_,rfl⟩)
  | skip
 all_goals
  (try generalize (((s[0]'(by assumption)).toNat:Int) == 48)=z2)
  (try generalize (s[0]'(by assumption)).toNat=c0)
  (try generalize ((s.size:Int) == 0)=z0)
  (try generalize decide ((6:Int)<s.size)=z1)
  go_loopw [3,4] (λg e j=>∃(i:Nat) (x:Int),g=.int .i64 x/\e=.int .i64 i/\i<=s.size/\j=w) (λ_ e _=>s.size-(intOf e).toNat)
  case atStart=>exact⟨0,0,rfl,rfl,by omega,rfl⟩
  case round=>
   obtain⟨i,x,rfl,rfl,hi,rfl⟩:=hrel;by_cases k:i<s.size
   ·have b:(i:Int)<s.size:=by omega
    go_wp2
    all_goals first
     | (go_ret;exact⟨_,rfl,Ext.refl _,_,rfl⟩)
     | skip
    all_goals
     go_roundw
     case rel=>exact⟨i+1,_,rfl,by go_num,by omega,trivial⟩
     case measure=>simp[intOf];omega
   ·have b:¬((i:Int)<s.size):=by omega
    go_wp2;go_ret;exact⟨_,rfl,Ext.refl _,_,rfl⟩
end Go.Proofs.YtdcobapnlpeaaaaGreat
namespace Go.Proofs.YtdcobapnlpeaaaaGreat
open Go.RowKit
def CN (B:Nat) (w':World) (v:Value):Prop:=∃(a:Option Addr) (n c:Nat) (r:Bool),v=.tuple #[.slice a n c,.bool r]/\(r=true->∃o,n=o.length/\o.length<=6/\(∀x∈o,primeB x=true)/\Own B w' (.slice a n c) o)
theorem kC.at {B:Nat}{w:World}{a:Option Addr}{c:Nat}{ts:List ByteArray}(h:OwnV B 9 w (.slice a ts.length c) (ts.map Value.string)) (i:Nat) (j:i<ts.length) :
  ∃b,a=some ⟨b,0,none⟩/\w.cell? ⟨b,i,none⟩=some (.string (gt ts i)):=by
 rcases h.form with⟨e,hn⟩|⟨g,cap,e,_,_,_⟩
 ·have:ts=[]:=by simpa using hn
  subst this;simp at j
 ·simp only[Value.slice.injEq] at e
  obtain⟨rfl,_,_⟩:=e;refine⟨g,rfl,?_⟩;have:=h.cell i (by rw[List.length_map];exact j);rw[gt_map _ _ _ j] at this;exact this
theorem uA {x:Int}(h:primeB x=true):1<=x/\x<=7:=by
 unfold primeB at h;simp at h;omega
theorem CO (w:World) (s:ByteArray) (W:s.size<=1000) :
  Calls Tryz.prog 344 #[.string s] w (Ret w (CN w.heap.size)):=by
 rcases h1:(s.toList == [49]) with _|_
 case' true=>
  go_enter Tryz.func344,Tryz.ntmps344;go_wp2;go_ret2
  exact⟨_,rfl,World.grownBy_alloc _ _ _,_,_,_,true,rfl,λ_=>⟨[],rfl,by simp,(λx hx=>by cases hx),World.ownsRow_lit w #[] 0 (Nat.le_refl _) (by decide) rfl⟩⟩
 go_enter Tryz.func344,Tryz.ntmps344;go_wp2_with fail
 have M:Ext w (w.alloc (.cells #[] 2)):=World.grownBy_alloc _ _ _;have m:(w.alloc (.cells #[] 2)).heap.size=w.heap.size+1:=by simp
 have m:=Lib.hid m;have p:Own w.heap.size (w.alloc (.cells #[] 2)) (.slice (some ⟨w.heap.size,0,none⟩) 0 0) []:=World.ownsRow_lit w #[] 0 (Nat.le_refl _) (by decide) rfl;generalize w.alloc (.cells #[] 2)=w0 at *;refine Calls.mono (qw w0 s 32 W) ?_;rintro e1 N ⟨v1,rfl,hg1,a1,c1,ts,rfl,q,r,u,hT⟩;have v:=p.ext0 hg1;have z:=grown_trans M hg1;have X:=Lib.hid (And.intro q (And.intro r u));clear q r u p;go_wp2_with fail
 go_loopw [4,6] (λY O wr=>∃(i:Nat) (o:List Int) (v4:Value),v4=Y/\O=.int .i64 i/\i<=ts.length/\o.length=i/\o.length<=6/\(∀x∈o,primeB x=true)/\Ext w wr/\Own w.heap.size wr v4 o/\N.grownBy wr (some w.heap.size)/\(∀k,v4.ownBlock=some k->k=w.heap.size\/N.heap.size<=k)) (λ_ O _=>ts.length-(intOf O).toNat)
 case atStart=>exact⟨0,[],_,rfl,rfl,by omega,rfl,by simp,(λx hx=>by cases hx),z,v,grown_refl _ _,λk hk => .inl (own_blk hk)⟩
 case round=>
  clear v;obtain⟨i,o,v4,rfl,rfl,hi,A,qx,B,hg,hO,hgr,C⟩:=hrel;have P:o.length<=1000000:=by omega
  have D:=Lib.hid (And.intro A B);clear A B;by_cases e:i<ts.length
  ·have E:(i:Int)<ts.length:=by omega
   obtain⟨b,rfl,hc0⟩:=kC.at hT i e;have F:=hT.lt b rfl;have Z:=m.out;have hc:=hgr.cell hc0 (by simp;omega);have Q:(gt ts i).size<=1000:=by have:=X.out.2.2 _ (gtMem e);omega
   clear hc0;go_wp2_with fail
   refine Calls.mono (CM wr (gt ts i) Q) ?_;rintro e2 U ⟨v2,rfl,n,x,rfl⟩;have G:=hO.ext0 n;have a:=grown_trans hg n;have g:=grown_trans hgr (grown_of_ext _ n);have V:=g.size;have H:=Lib.hid (And.intro C F);clear C F;clear hc hO;go_wp2_with fail
   refine Calls.mono (l01Prime_ok x U) ?_;rintro _ _ ⟨rfl,rfl⟩;rcases hp:primeB x with _|_
   ·go_wp2_with fail
    go_ret2
    exact⟨_,rfl,a,none,0,0,false,rfl,λh=>by cases h⟩
   ·by_cases h6:6<=i
    ·have R:(6:Int)<=i:=by omega
     go_wp2_with fail
     go_ret2
     exact⟨_,rfl,a,none,0,0,false,rfl,λh=>by cases h⟩
    ·have R:¬(6:Int)<=i:=by omega
     go_wp2_with (first|(at_builtin;refine wp_app_intb rfl _ _ rfl w.heap.size v4 o x rfl U G rfl rfl P a.size ?_;intro v5 w5 S I T;have J:=grown_own a I (λj K e=>by have:=(G.lt j K).1;omega))|fail)
     have L:N.grownBy w5 (some w.heap.size):=grown_own g I (λj K e=>by rcases H.out.1 j K with h|h;rw[h];omega);have ae:(o++[x]).length=o.length+1:=by simp
     go_roundw
     case rel=>exact⟨i+1,o++[x],v5,rfl,by go_num,by omega,by have:=D.out.1;omega,by have:=D.out.1;omega,(λy hy=>by
      rcases List.mem_append.1 hy with h|h
      ·exact D.out.2 y h
      ·rw [List.mem_singleton.1 h];exact hp),J,S,L,(λk hk=>by
       rcases T with h|h
       ·rw[h] at hk;exact H.out.1 k hk
       ·have:=h k hk;omega)⟩
     case measure=>simp[intOf];omega
  ·have E:¬((i:Int)<ts.length):=by omega
   have l:=l07Product_ok wr v4 o _ (hO.ints (by omega)) (λj K=>uA (D.out.2 _ (gtMem K)));go_wp2_with fail
   refine Calls.mono l ?_;rintro _ _ ⟨rfl,rfl⟩;clear l;obtain⟨a4,c4,hv4,_⟩:=(hO.ints (by omega)).shape;subst hv4;go_wp2_with fail
   go_ret2
   exact⟨_,rfl,hg,_,_,_,_,rfl,λ_=>⟨o,rfl,qx,D.out.2,hO⟩⟩
def iK (x:List Int):List Int:=x++[59]
def ig (u:List (List Int)):List Int:=(u.map iK).flatten
def fL (u:List (List Int)):ByteArray:=strOfNums (ig u)
def fP (l:List Int):List Value:=l.map (Value.int .u8)
theorem CP (u:List (List Int)) (k:Nat) (h:k<u.length):ig (u.take (k+1))=ig (u.take k)++iK (gt u k):=by
 unfold ig;rw[take_succ_gt u k h,List.map_append,List.flatten_append];simp
theorem nH (u:List (List Int)) (b:Nat) (h:∀x∈u,x.length<=b):(ig u).length<=(b+1)*u.length:=by
 induction u with
 | nil=>simp[ig]
 | cons x u a=>
  have h1:=a (λy hy=>h y (List.mem_cons_of_mem _ hy));have e:=h x (List.mem_cons_self ..);unfold ig at h1 ⊢;simp only[List.map_cons,List.flatten_cons,List.length_append,List.length_cons,iK,List.length_nil,Nat.mul_succ];omega
theorem pJ (u:List (List Int)):(fL u).size=(ig u).length:=strOfNums_size _
theorem mE:Tryz.prog.underlying 22=some (.slice 5):=by kernel_rfl
theorem uB:Tryz.prog.underlying 5=some (.int .u8):=by kernel_rfl
theorem kM:Tryz.prog.underlying 9=some .string:=by kernel_rfl
theorem Tryz.qy:(Tryz.prog.info? 5).map (λi=>(i.zero,i.size,i.bytes))=some (some (.int .u8 0),1,1):=by kernel_rfl
theorem qz {B:Nat}{w:World}{v:Value}{l:List Int}(h:OwnV B 5 w v (fP l)):(convert 22 9 v).run Tryz.prog w=.ok (.string (strOfNums l)) w:=by
 rcases h.form with⟨rfl,a⟩|⟨g,cap,rfl,_⟩
 ·have:l=[]:=by unfold fP at a;rw[List.map_eq_nil_iff] at a;exact a
  subst this;rw[run_convert_bytes_nil w _ _ mE uB 0 0 _ kM];rfl
 ·have b:(fP l).length=l.length:=by unfold fP;rw[List.length_map]
  rw[b];refine run_convert_bytes_arg w _ _ mE uB g 0 l.length cap l rfl (λi e => ?_) _ kM;have:=h.cell i (by rw[b];exact e);rw[Nat.zero_add,this];unfold fP;rw[gt_map _ _ _ e];rfl
theorem nI (u:List (List Int)) (w:World) (W:Value) (S:Nat->Prop) (h:Rows2 S w W u) (X:∀x∈u,∀e∈x,0<=e/\e<256) (I:∀x∈u,x.length<=1000) (hn:u.length<=100) :
  Calls Tryz.prog 260 #[W] w (Ret w λ_ v=>v=.string (fL u)):=by
 obtain⟨au,capu,rfl,_,_⟩:=Sl.shape h
 have a:∀k,(ig (u.take k)).length<=1001*100:=λk=>by
  have h1:=nH (u.take k) 1000 (λx hx=>I x (List.mem_of_mem_take hx));have:(u.take k).length<=100:=by rw[List.length_take];omega
  have:=Nat.mul_le_mul_left 1001 this;omega
 have J:=Lib.hid (And.intro X (And.intro I a));clear X I a;go_enter Tryz.func260,Tryz.ntmps260;go_wp2;go_loopw [3,10] (λK L wr=>∃(k:Nat) (v4:Value),v4=K/\L=.int .i64 k/\k<=u.length/\Ext w wr/\OwnV w.heap.size 5 wr v4 (fP (ig (u.take k)))) (λ_ L _=>u.length-(intOf L).toNat)
 case atStart=>exact⟨0,_,rfl,rfl,by omega,Ext.refl _,World.ownsRow_nil _ _ _ _⟩
 case round=>
  obtain⟨k,v4,rfl,rfl,hk,p,hO⟩:=hrel;by_cases l:k<u.length
  ·have Y:(k:Int)<u.length:=by omega
   obtain⟨b,off,a2,cap2,rfl,_,_,hc0,Z⟩:=Rows2.at h k l;have hc:=p.cell hc0 (by simp);clear hc0;have hx:=J.out.1 _ (gtMem l);have y:=J.out.2.1 _ (gtMem l);have i:=CP u k l;have z:=J.out.2.2 k;obtain⟨x,A⟩:∃x,x=gt u k:=⟨_,rfl⟩;rw[<-A] at hx y i hc Z;obtain⟨q,B⟩:∃q,q=ig (u.take k):=⟨_,rfl⟩;rw[<-B] at i z hO;have C:=Lib.hid (And.intro hx (And.intro y (And.intro i (And.intro z (And.intro A B)))));clear hx y i z A B;have ab:x.length<=1000:=C.out.2.1;go_wp2;clear hc;go_loopw [3,16] (λK M wr=>∃(j:Nat) (v4:Value),v4=K/\M=.int .i64 j/\j<=x.length/\Ext w wr/\OwnV w.heap.size 5 wr v4 (fP (q++x.take j))) (λ_ M _=>x.length-(intOf M).toNat)
   case atStart=>exact⟨0,v4,rfl,rfl,by omega,p,by rw[List.take_zero,List.append_nil];exact hO⟩
   case round=>
    clear hO p;obtain⟨j,v4,rfl,rfl,H,p,hO⟩:=hrel;by_cases n:j<x.length
    ·have N:(j:Int)<x.length:=by omega
     obtain⟨b2,off2,rfl,_,_,O⟩:=Ints.at (Ints.ext Z p) j n;have hx:=C.out.1 _ (gtMem n)
     have m:fP (q++x.take (j+1))=fP (q++x.take j)++[.int .u8 (gt x j)]:=by
      unfold fP;rw[take_succ_gt x j n,<-List.append_assoc,List.map_append];rfl
     have a:(fP (q++x.take j)).length<=1000000:=by
      have h1:=C.out.2.1;have h2:=C.out.2.2.2.1;unfold fP;rw[List.length_map,List.length_append,List.length_take];omega
     obtain⟨e,P⟩:∃e,e=gt x j:=⟨_,rfl⟩;rw[<-P] at hx m O
     have af:IntKind.u8.wrap e=e:=by
      simp only[IntKind.wrap,IntKind.signed,IntKind.bits];simp;omega
     have G:=Lib.hid (And.intro m (And.intro a (And.intro P hx)));clear m a P hx;go_wp2_with (first|(at_builtin;refine wp_app_val 22 5 (.int .u8 0) 1 mE Tryz.qy rfl (by decide) rfl _ _ rfl w.heap.size v4 _ (fP (q++x.take j)) rfl wr hO rfl rfl rfl G.out.2.1 p.size ?_;intro Q R D E;have F:Ext w R:=grown_own p E (λj H l=>by have:=(hO.lt j H).1;omega))|fail)
     go_roundw
     case rel=>exact⟨j+1,Q,rfl,by go_num,by omega,F,by rw[G.out.1];exact D⟩
     case measure=>simp[intOf];omega
    ·have T:j=x.length:=by omega
     subst T;rw[List.take_length] at hO
     have m:fP (ig (u.take (k+1)))=fP (q++x)++[.int .u8 59]:=by
      rw[C.out.2.2.1];unfold fP iK;rw[<-List.append_assoc,List.map_append (l₂:=[59])];rfl
     have a:(fP (q++x)).length<=1000000:=by
      have h1:=C.out.2.1;have h2:=C.out.2.2.2.1;unfold fP;rw[List.length_map,List.length_append];omega
     have G:=Lib.hid (And.intro m a);clear m a;go_wp2_with (first|(at_builtin;refine wp_app_val 22 5 (.int .u8 0) 1 mE Tryz.qy rfl (by decide) rfl _ _ rfl w.heap.size v4 _ (fP (q++x)) rfl wr hO rfl rfl rfl G.out.2 p.size ?_;intro Q R D E;have F:Ext w R:=grown_own p E (λj H l=>by have:=(hO.lt j H).1;omega))|fail)
     go_roundw
     case rel=>exact⟨k+1,Q,rfl,by go_num,by omega,F,by rw[G.out.1];exact D⟩
     case measure=>simp[intOf];omega
  ·have U:k=u.length:=by omega
   subst U;rw[List.take_length] at hO;have ag:=qz hO
   have V:∃az nz r,v4=.slice az nz r:=by
    rcases hO.form with⟨h1,_⟩|⟨g,cp,h1,_⟩
    ·exact⟨_,_,_,h1⟩
    ·exact⟨_,_,_,h1⟩
   obtain⟨az,nz,r,rfl⟩:=V;go_wp2;go_ret;exact⟨_,rfl,p,rfl⟩
def iu (x:Int):Int:=if 0<x then 96+x else 64-x
def gi (W:List Int):List Int:=if W=[] then [49] else W.map iu
theorem CQ (W:List Int) (n:Nat) (h:W.length<=n):(gi W).length<=n+1:=by
 unfold gi;split<;>simp;omega
theorem uC {g:Array Oper}{rest:List Oper}{o:Oper}{a:Act}{Q:Exit->Act->World->Prop}{w:World}(m:o.guard=none) (s x:Operand)
  (n:o.op=Op.call { callee:=Callee.builtin Builtin.append,args := #[s,x],argTypes := #[22,22] }) (B:Nat) (v:Value) (l:List Int) (y:Int) (p:a.eval s=v) (e:World) (i:OwnV B 5 e v (fP l))
  (q:w=e.alloc (.cells #[.int .u8 y] 5)) (hx:a.eval x=.slice (some ⟨e.heap.size,0,none⟩) 1 1) (j:l.length<=1000000) (b:B<=e.heap.size)
  (h:∀k w',OwnV B 5 w' k (fP (l++[y]))->e.grownBy w' v.ownBlock->wpList Tryz.prog g Q rest (a.put o.dst k) w') :
  wpList Tryz.prog g Q (o :: rest) a w:=
 wp_app_v 22 5 (.int .u8 0) 1 mE Tryz.qy rfl (by decide) m s x n B e v (.int .u8 y) (fP l) p i q rfl hx (by unfold fP;rw[List.length_map];exact j) b
  (λk w' h1 r=>h k w' (by unfold fP at h1 ⊢;rw[List.map_append];exact h1) r)
theorem u8_in (x:Int) (h:0<=x/\x<=255):IntKind.u8.wrap x=x:=by
 simp only[IntKind.wrap,IntKind.signed,IntKind.bits];simp;omega
theorem qA (w:World) (v:Value) (W:List Int) (S:Nat->Prop) (G:Ints S w v W) (H:∀x∈W,-26<=x/\x<=26) (Q:W.length<=1000) :
  Calls Tryz.prog 364 #[v] w (Ret w λ_ r=>r=.string (strOfNums (gi W))):=by
 obtain⟨a,cap,rfl,_,_⟩:=G.shape;by_cases A:W.length=0
 ·have L:W=[]:=List.eq_nil_of_length_eq_zero A
  subst L;go_enter Tryz.func364,Tryz.ntmps364;go_wp2;go_ret;exact⟨_,rfl,Ext.refl _,rfl⟩
 have R:((W.length:Int) == 0)=false:=by simp;intro h;apply A;rw[h];rfl
 have u:gi W=W.map iu:=by unfold gi;rw[if_neg (λh=>A (by rw[h];rfl))]
 have I:=Lib.hid (And.intro H u);clear H u A;go_enter Tryz.func364,Tryz.ntmps364;go_wp2;go_loopw [3,4] (λM B wr=>∃(i:Nat) (v4:Value),v4=M/\B=.int .i64 i/\i<=W.length/\Ext w wr/\OwnV w.heap.size 5 wr v4 (fP ((W.take i).map iu))) (λ_ B _=>W.length-(intOf B).toNat)
 case atStart=>exact⟨0,_,rfl,rfl,by omega,World.grownBy_alloc _ _ _,World.ownsRow_lit w #[] 0 (Nat.le_refl _) (by decide) rfl⟩
 case round=>
  obtain⟨i,v4,rfl,rfl,hi,q,hO⟩:=hrel;by_cases g:i<W.length
  ·have J:(i:Int)<W.length:=by omega
   obtain⟨b,off,rfl,_,_,N⟩:=Ints.at (Ints.ext G q) i g;have hx:=I.out.1 _ (gtMem g);have e:(W.take (i+1)).map iu=(W.take i).map iu++[iu (gt W i)]:=by rw[take_succ_gt W i g,List.map_append];rfl
   have m:((W.take i).map iu).length<=1000000:=by rw[List.length_map,List.length_take];omega
   obtain⟨x,y⟩:∃x,x=gt W i:=⟨_,rfl⟩;rw[<-y] at hx e N;clear y;by_cases K:0<x
   ·have k:iu x=97+x-1:=by unfold iu;rw[if_pos K];omega
    rw[k] at e;have C:IntKind.u8.wrap (97+x-1)=97+x-1:=u8_in _ (by omega);have z:=Lib.hid (And.intro e m);clear e m k;go_wp2_with (first|(at_builtin;refine uC rfl _ _ rfl w.heap.size v4 ((W.take i).map iu) (97+x-1) rfl wr hO rfl rfl z.out.2 q.size ?_;intro D O n p;have l:=grown_own q p (λj E g=>by have:=(hO.lt j E).1;omega))|fail)
    clear C;go_roundw
    case rel=>exact⟨i+1,D,rfl,by go_num,by omega,l,by rw[z.out.1];exact n⟩
    case measure=>simp[intOf];omega
   ·have k:iu x=65-x-1:=by unfold iu;rw[if_neg K];omega
    rw[k] at e;have C:IntKind.u8.wrap (65-x-1)=65-x-1:=u8_in _ (by omega);have z:=Lib.hid (And.intro e m);clear e m k;go_wp2_with (first|(at_builtin;refine uC rfl _ _ rfl w.heap.size v4 ((W.take i).map iu) (65-x-1) rfl wr hO rfl rfl z.out.2 q.size ?_;intro D O n p;have l:=grown_own q p (λj E g=>by have:=(hO.lt j E).1;omega))|fail)
    clear C;go_roundw
    case rel=>exact⟨i+1,D,rfl,by go_num,by omega,l,by rw[z.out.1];exact n⟩
    case measure=>simp[intOf];omega
  ·have F:i=W.length:=by omega
   subst F;rw[List.take_length] at hO;have P:=qz hO;go_wp2;go_ret;exact⟨_,rfl,q,by rw[I.out.2];rfl⟩
theorem qB (w:World) (i:Nat) (l:i<26) :
  Calls Tryz.prog 363 #[.int .i64 i] w (Ret w λ_ r=>r=.string (strOfNums [97+(i:Int)])):=by
 have e:IntKind.i64.wrap ((i:Int)+1)=(i:Int)+1:=IntWalk.i64_in _ (by omega)
 have b:gi [(i:Int)+1]=[97+(i:Int)]:=by
  unfold gi;rw[if_neg (by simp)];simp only[List.map_cons,List.map_nil,iu];rw[if_pos (by omega),show(96:Int)+((i:Int)+1)=97+(i:Int) by omega]
 have j:Ints Any (w.alloc (.cells #[.int .i64 ((i:Int)+1)] 2)) (.slice (some ⟨w.heap.size,0,none⟩) 1 1) [(i:Int)+1]:=
  ints_of_own (show Own 0 _ _ [(i:Int)+1] from World.ownsRow_lit w #[.int .i64 ((i:Int)+1)] 1 (Nat.zero_le _) (by decide) rfl) (by simp) (λ_ _=>trivial)
 have a:=qA _ _ [(i:Int)+1] Any j (λx hx=>by simp at hx;omega) (by simp);rw[b] at a;have k:=Lib.hid a;clear a b j;go_enter Tryz.func363,Tryz.ntmps363;go_wp2_with fail
 refine Calls.mono k.out ?_;rintro m n ⟨v1,rfl,g,rfl⟩;clear e;go_wp2;go_ret;exact⟨_,rfl,grown_trans (World.grownBy_alloc _ _ _) g,rfl⟩
theorem nR (w:World) (n:Int) (b:0<=n) (e:n<10) :
  Calls Tryz.prog 362 #[.int .i64 n] w (Ret w λ_ r=>r=.string (strOfNums [48+n])):=by
 have g:IntKind.u8.wrap (48+n)=48+n:=u8_in _ (by omega)
 have a:∀w0:World,(convert 22 9 (.slice (some ⟨w0.heap.size,0,none⟩) 1 1)).run Tryz.prog (w0.alloc (.cells #[.int .u8 (48+n)] 5))=.ok (.string (strOfNums [48+n])) (w0.alloc (.cells #[.int .u8 (48+n)] 5)):=λw0=>
  qz (B:=0) (l:=[48+n]) (World.ownsRow_lit w0 #[.int .u8 (48+n)] 1 (Nat.zero_le _) (by decide) rfl)
 go_enter Tryz.func362,Tryz.ntmps362;go_wp2;go_ret;exact⟨_,rfl,World.grownBy_alloc _ _ _,rfl⟩
end Go.Proofs.YtdcobapnlpeaaaaGreat
namespace Go.Proofs.YtdcobapnlpeaaaaGreat
open Go.RowKit
attribute [local go_sem ↓] Go.wp_at_zero Go.wp_at_succ
def qC (F:Nat->Prop) (B:Nat) (P:Pr) (w':World) (v:Value):Prop:=∃(vo vp vc:Value) (r:Bool) (Q:Pr),v=.tuple #[.agg #[vo,vp,vc],.bool r]/\Shp 6 Q/\Q.orders=P.orders/\Pres3 (λk=>F k\/B<=k) w' vo vp vc Q
theorem qD {w b:World}{F F':Nat->Prop}{br:Nat}{x y z:Value}{P Q:Pr}{r:Bool}(g:Ext w b) (l:w.heap.size<=br) (m:Pres3 F' b x y z Q) (hF:∀k,F' k->k<b.heap.size->(F k\/w.heap.size<=k)/\k≠br) (n:Shp 6 Q) (p:Q.orders=P.orders) :
  Ret w (qC F w.heap.size P) (.returned (.tuple #[.agg #[x,y,z],.bool r])) (((b.setCell ⟨br,0,none⟩ x).setCell ⟨br,1,none⟩ y).setCell ⟨br,2,none⟩ z):=by
 have i:=grown_set3 b br x y z;exact⟨_,rfl,grown_own g i (λj q a=>by cases q;omega),x,y,z,r,Q,rfl,n,p,m.mono (λk hk a=>⟨(hF k hk a).1,Nat.lt_of_lt_of_le a i.size,i.block k a (λe=>(hF k hk a).2 (by cases e;rfl))⟩)⟩
theorem jg {w g:World}{F:Nat->Prop}{br:Nat}{x y z:Value}{P:Pr}{r:Bool}(a:Ext w g) (e:w.heap.size<=br) (i:Pres3 F w x y z P) (j:Shp 6 P) :
  Ret w (qC F w.heap.size P) (.returned (.tuple #[.agg #[x,y,z],.bool r])) (((g.setCell ⟨br,0,none⟩ x).setCell ⟨br,1,none⟩ y).setCell ⟨br,2,none⟩ z):=
 qD a e (F':=λk=>F k/\k<w.heap.size) (i.mono (λk hk b=>⟨⟨hk,b⟩,Nat.lt_of_lt_of_le b a.size,a.block k b (by simp)⟩)) (λk hk _=>⟨.inl hk.1,by omega⟩) j rfl
theorem CR (w:World) (pv:Value) (P:Pr) (F:Nat->Prop) (s:ByteArray) (hp:PresV F w pv P) (hS:Shp 6 P) (a9:∀x∈P.orders,primeB x=true) (hs:s.size<=1000) :
  Calls Tryz.prog 345 #[pv,.string s] w (Ret w (qC F w.heap.size P)):=by
 obtain⟨vo,vp,vc,rfl,R⟩:=hp;obtain⟨M,co,iJ,_,_⟩:=R.o.shape;obtain⟨ap,B,ae,_,_⟩:=Sl.shape R.p;obtain⟨C,D,af,_,_⟩:=Sl.shape R.c;rw[hS.p] at ae;rw[hS.c] at af;subst iJ ae af;obtain⟨n,hn⟩:∃n,n=P.orders.length:=⟨_,rfl⟩;rw[<-hn] at R;rw[<-hn];have b':n<=6:=by rw[hn];exact hS.n
 have ba:Ext w (w.alloc (.cells #[.slice M n co,.slice ap n B,.slice C n D] 28)):=World.grownBy_alloc _ _ _;have bb:(w.alloc (.cells #[.slice M n co,.slice ap n B,.slice C n D] 28)).heap.size=w.heap.size+1:=by simp
 have aB:=Box3.made w 28 (.slice M n co) (.slice ap n B) (.slice C n D);have l:=Lib.hid (And.intro hS (And.intro a9 hn));clear hS a9 hn;go_enter Tryz.func345,Tryz.ntmps345;go_wp2_with fail
 generalize w.alloc (.cells #[.slice M n co,.slice ap n B,.slice C n D] 28)=wA at *;have ai:Ext wA (wA.alloc (.cells #[.slice none 0 0,.slice none 0 0,.slice none 0 0] 28)):=World.grownBy_alloc _ _ _;have aC:=Box3.made wA 28 (.slice none 0 0) (.slice none 0 0) (.slice none 0 0);have aB:=aB.ext ai;have bI:=grown_trans ba ai;have bd:(wA.alloc (.cells #[.slice none 0 0,.slice none 0 0,.slice none 0 0] 28)).heap.size=w.heap.size+2:=by simp[bb]
 rw[bb] at aC;generalize wA.alloc (.cells #[.slice none 0 0,.slice none 0 0,.slice none 0 0] 28)=w0 at *;clear ai ba;refine Calls.mono (qw w0 s 61 hs) ?_;rintro e1 w1 ⟨v1,rfl,hg1,av,cv,ts,rfl,hl1,be,bf,L⟩;have aj:=grown_trans bI hg1;have ak:=aB.ext hg1;have T:=aC.ext hg1;obtain⟨a0,a1,a2,a3,a4⟩:=id ak;obtain⟨b0,b1,b2,b3,b4⟩:=id T;have bg:=T.all (.slice M n co) (.slice ap n B) (.slice C n D);obtain⟨-,z0,z1,z2,-⟩:=id bg;have bT:w.heap.size+2<=w1.heap.size:=by have:=hg1.size;omega
 have HL:=Lib.hid (And.intro be (And.intro bf bd));clear be bf bd bg aB aC;by_cases aS:ts.length=2
 case neg=>
  have bU:((ts.length:Int) != 2)=true:=by simp;omega
  clear aS;go_wp2_with fail
  refine bodyPost_ret (v := .tuple #[.agg #[.slice M n co,.slice ap n B,.slice C n D],.bool false]) (by simp[results,Tryz.results345,go_sem,z0,z1,z2]) rfl ?_;exact jg aj (by omega) R l.out.1
 obtain⟨bt,rfl,aT⟩:=kC.at L 0 (by omega);obtain⟨_,aE,bh⟩:=kC.at L 1 (by omega);cases aE
 have bL:=HL.out.2.1 _ (gtMem (show 0<ts.length by omega));have bM:=HL.out.2.1 _ (gtMem (show 1<ts.length by omega));obtain⟨t0,bi⟩:∃t0,t0=gt ts 0:=⟨_,rfl⟩;obtain⟨t1,bj⟩:∃t1,t1=gt ts 1:=⟨_,rfl⟩;rw[<-bi] at aT bL;rw[<-bj] at bh bM;have bW:=(L.lt bt rfl).2;clear L bi bj HL;rw[aS];clear aS hl1;by_cases h4:t0.size=4
 case neg=>
  have bN:((t0.size:Int) != 4)=true:=by simp;omega
  clear h4;go_wp2_with fail
  refine bodyPost_ret (v := .tuple #[.agg #[.slice M n co,.slice ap n B,.slice C n D],.bool false]) (by simp[results,Tryz.results345,go_sem,z0,z1,z2]) rfl ?_;exact jg aj (by omega) R l.out.1
 have bN:((t0.size:Int) != 4)=false:=by simp;omega
 have cb:0<t0.size:=by omega
 have cd:2<t0.size:=by omega
 rcases ce:((((t0[0]'cb).toNat:Nat):Int) != 32) with _|_
 case' true=>
  go_wp2_with fail
  refine bodyPost_ret (v := .tuple #[.agg #[.slice M n co,.slice ap n B,.slice C n D],.bool false]) (by simp[results,Tryz.results345,go_sem,z0,z1,z2]) rfl ?_;exact jg aj (by omega) R l.out.1
 rcases cf:((((t0[2]'cd).toNat:Nat):Int) != 94) with _|_
 case' true=>
  go_wp2_with fail
  refine bodyPost_ret (v := .tuple #[.agg #[.slice M n co,.slice ap n B,.slice C n D],.bool false]) (by simp[results,Tryz.results345,go_sem,z0,z1,z2]) rfl ?_;exact jg aj (by omega) R l.out.1
 go_wp2_with fail
 refine Calls.mono (CL w1 n t1 (by omega) (by omega)) ?_;rintro e2 w2 ⟨v2,rfl,hg2,aw,nw,cw,r2,rfl,hW2⟩;clear a0 a1 a2 a3 a4 b0 b1 b2 b3 b4 z0 z1 z2;have am:=ak.ext hg2;have U:=T.ext hg2;clear ak T;obtain⟨a0,a1,a2,a3,a4⟩:=id am;obtain⟨b0,b1,b2,b3,b4⟩:=id U;have bk:=U.all (.slice M n co) (.slice ap n B) (.slice C n D);obtain⟨-,z0,z1,z2,-⟩:=id bk;clear bk;have an:=grown_trans aj hg2;have aJ:=hg2.cell aT (by simp);clear aT bh;cases r2
 case' false=>
  go_wp2_with fail
  refine bodyPost_ret (v := .tuple #[.agg #[.slice M n co,.slice ap n B,.slice C n D],.bool false]) (by simp[results,Tryz.results345,go_sem,z0,z1,z2]) rfl ?_;exact jg an (by omega) R l.out.1
 obtain⟨W,bl,CT,bm,bn⟩:=hW2 rfl;subst CT;clear hW2;have HW:=Lib.hid (And.intro bm bl);clear bm bl;go_wp2_with fail
 refine Calls.mono (CI w2 n _ W _ (bn.ints (by have:=HW.out.2;omega)) HW.out.1 (by omega) (by have:=HW.out.2;omega)) ?_;rintro e3 w3 ⟨v3,rfl,hg3,ax,nx,cx,r3,rfl,uD⟩;clear a0 a1 a2 a3 a4 b0 b1 b2 b3 b4 z0 z1 z2;have aq:=am.ext hg3;have Z:=U.ext hg3;clear am U;obtain⟨a0,a1,a2,a3,a4⟩:=id aq;obtain⟨b0,b1,b2,b3,b4⟩:=id Z;have br:=Z.all (.slice M n co) (.slice ap n B) (.slice C n D);obtain⟨-,z0,z1,z2,-⟩:=id br;clear br;have bs:=grown_trans an hg3;have aK:=hg3.cell aJ (by simp);clear aJ bn;have cg:1<t0.size:=by omega
 have ch:3<t0.size:=by omega
 go_wp2_with fail
 go_quiet (fail)
 rename_i nq;have ag:Ext w3 (w3.drewN nq):=grown_drewN _ _ _;clear a0 a1 a2 a3 a4 b0 b1 b2 b3 b4 z0 z1 z2;generalize w3.drewN nq=w4 at *;generalize wrap64 (wrap64 ((t0[1]'cg).toNat:Int)-97)=x;generalize wrap64 (wrap64 ((t0[3]'ch).toNat:Int)-97)=y;have ar:=aq.ext ag;have aa:=Z.ext ag;clear aq Z;obtain⟨a0,a1,a2,a3,a4⟩:=id ar;obtain⟨b0,b1,b2,b3,b4⟩:=id aa;have bu:=aa.all (.slice M n co) (.slice ap n B) (.slice C n D);obtain⟨-,z0,z1,z2,-⟩:=id bu;clear bu;have N:=grown_trans bs ag;have aL:=ag.cell aK (by simp);clear aK;cases r3
 case' false=>
  go_wp2_with fail
  refine bodyPost_ret (v := .tuple #[.agg #[.slice M n co,.slice ap n B,.slice C n D],.bool false]) (by simp[results,Tryz.results345,go_sem,z0,z1,z2]) rfl ?_;exact jg N (by omega) R l.out.1
 obtain⟨V,bv,aF,bw,uE⟩:=uD rfl;have aF:=aF.symm;subst aF;have aM:=uE.ext0 ag;clear uD uE;by_cases ci:x<0
 case' pos=>
  go_wp2_with fail
  refine bodyPost_ret (v := .tuple #[.agg #[.slice M n co,.slice ap n B,.slice C n D],.bool false]) (by simp[results,Tryz.results345,go_sem,z0,z1,z2]) rfl ?_;exact jg N (by omega) R l.out.1
 by_cases cj:(n:Int)<=x
 case' pos=>
  go_wp2_with fail
  refine bodyPost_ret (v := .tuple #[.agg #[.slice M n co,.slice ap n B,.slice C n D],.bool false]) (by simp[results,Tryz.results345,go_sem,z0,z1,z2]) rfl ?_;exact jg N (by omega) R l.out.1
 obtain⟨X,rfl⟩:=Int.eq_ofNat_of_zero_le (show 0<=x by omega);have ck:(X:Int)<n:=by omega
 have aN:=R.mono (frame_of N (λk hk _=>⟨hk,by simp⟩));have aU:Pres3 F w4 (.slice M n co) (.slice ap n B) (.slice C n D) P:=aN;clear aN aF;have HV:=Lib.hid (And.intro bv (And.intro bw aM));clear bv bw aM;go_wp2_with fail
 clear a0 a1 a2 a3 a4 b0 b1 b2 b3 b4 z0 z1 z2;refine Calls.mono (oC w4 _ P F 6 ⟨_,_,_,rfl,aU⟩ l.out.1 (by omega)) ?_;rintro e5 w5 ⟨v5,rfl,gK,qo,qp,qc,rfl,iQ⟩;obtain⟨E,G,I,q,J,r,e1,e2,e3⟩:=iQ.shape;rw[l.out.1.p] at e2;rw[l.out.1.c] at e3;rw[<-l.out.2.2] at e1 e2 e3;subst e1 e2 e3;have aH:Ext w5 (w5.alloc (.cells #[.slice E n G,.slice I n q,.slice J n r] 28)):=World.grownBy_alloc _ _ _;have bx:=Box3.made w5 28 (.slice E n G) (.slice I n q) (.slice J n r);have cm:=gK.size;have bz:PresX (λk=>w4.heap.size<=k/\k<w5.heap.size) (w5.alloc (.cells #[.slice E n G,.slice I n q,.slice J n r] 28)) (.slice E n G) (.slice I n q) (.slice J n r) P:=iQ.mono (λk hk H=>⟨⟨hk,H⟩,Nat.lt_of_lt_of_le H aH.size,aH.block k H (by simp)⟩);have u:=grown_trans gK aH;go_wp2_with fail
 generalize w5.alloc (.cells #[.slice E n G,.slice I n q,.slice J n r] 28)=w6 at *;clear iQ gK aH;have au:=ar.ext u;have aO:=aa.ext u;have aP:=grown_trans N u;have aQ:=u.cell aL (by simp);obtain⟨bo,oo,hao,_,hbl,aW⟩:=Ints.at (aU.o.ext u) X (by rw[<-l.out.2.2];omega);subst hao;have aX:=l.out.2.1 _ (gtMem (show X<P.orders.length by rw[<-l.out.2.2];omega));obtain⟨o,ho⟩:∃o,o=gt P.orders X:=⟨_,rfl⟩;rw[<-ho] at aW aX;have cn:=uA aX;clear ho aX ar aa aL;have f1:∀w',Ext w6 w'->w'.cell? ⟨w.heap.size,0,none⟩=some (.slice (some ⟨bo,oo,none⟩) n co):=λw' h=>(au.ext h).2.1;have f2:∀w',Ext w6 w'->w'.cell? ⟨bo,oo+X,none⟩=some (.int .i64 o):=λw' h=>h.cell aW (by simp);have f3:∀w',Ext w6 w'->w'.cell? ⟨bt,0,none⟩=some (.string t0):=λw' h=>h.cell aQ (by simp);have cq:(3:Int)<=t0.size:=by omega
 clear aW aQ
 go_region_held3 (λw'=>Ext w6 w') (first|exact grown_drew _ _|assumption)
  (first
   | (go_at_call 362;refine Calls.mono (Calls.rel (w0:=w6) (by first|exact grown_drew _ _|assumption) (nR _ o (by omega) (by omega))) ?_;rintro eD wD ⟨vD,rfl,S,pq,rfl⟩))
 have cr:=u.size;have bY:w.heap.size+2<=w2.heap.size:=by have:=hg2.size;omega
 have bZ:w2.heap.size<=w4.heap.size:=by have:=hg3.size;have:=ag.size;omega
 have b5:=aP.size;have i:=bx.ext S;have a:=aO.ext S;have ab:=grown_trans aP S;have bA:PresX (λk=>w4.heap.size<=k/\k<w5.heap.size) wD (.slice E n G) (.slice I n q) (.slice J n r) P:=bz.mono (λk hk H=>⟨hk,Nat.lt_of_lt_of_le H S.size,S.block k H (by simp)⟩);have bB:Ints (λk=>w2.heap.size<=k/\k<w4.heap.size) wD (.slice ax n cx) V:=(ints_of_own HV.out.2.2 (by have:=HV.out.1;omega) (λk hk=>⟨(HV.out.2.2.lt k hk).1,(HV.out.2.2.lt k hk).2⟩)).ext (grown_trans u S);have b6:=an.size;have ad:=au.ext S;have HC:=Lib.hid (And.intro bA bB);have bC:=Lib.hid HV.out.1;clear bA bB f1 f2 f3 bz bx aO au aU;rcases aE:((t0.extract 3 4).toList == (strOfNums [48+o]).toList) with _|_
 case' false=>
  clear aE;by_cases cs:y<0
  case' pos=>
   obtain⟨a0,a1,a2,a3,a4⟩:=id ad;obtain⟨b0,b1,b2,b3,b4⟩:=id a;have ay:=a.all (.slice (some ⟨bo,oo,none⟩) n co) (.slice ap n B) (.slice C n D);obtain⟨-,z0,z1,z2,-⟩:=id ay;clear ay HC HV;go_wp2_with fail
   refine bodyPost_ret (v := .tuple #[.agg #[.slice (some ⟨bo,oo,none⟩) n co,.slice ap n B,.slice C n D],.bool false]) (by simp[results,Tryz.results345,go_sem,z0,z1,z2]) rfl ?_;exact jg ab (by omega) R l.out.1
  by_cases ct:(X:Int)<=y
  case' pos=>
   obtain⟨a0,a1,a2,a3,a4⟩:=id ad;obtain⟨b0,b1,b2,b3,b4⟩:=id a;have ay:=a.all (.slice (some ⟨bo,oo,none⟩) n co) (.slice ap n B) (.slice C n D);obtain⟨-,z0,z1,z2,-⟩:=id ay;clear ay HC HV;go_wp2_with fail
   refine bodyPost_ret (v := .tuple #[.agg #[.slice (some ⟨bo,oo,none⟩) n co,.slice ap n B,.slice C n D],.bool false]) (by simp[results,Tryz.results345,go_sem,z0,z1,z2]) rfl ?_;exact jg ab (by omega) R l.out.1
  obtain⟨Y,rfl⟩:=Int.eq_ofNat_of_zero_le (show 0<=y by omega);have ah:=l.out.2.2;have aI:=l.out.1.cl Y (by omega);have bD:=l.out.1.c;have cu:Y<X:=by omega
  obtain⟨K,hK⟩:∃K,K=X-Y-1:=⟨_,rfl⟩;have bQ:K<(gt P.conj Y).length:=by rw[aI];omega
  obtain⟨g,capg,b,capb,z,af,⟨ai,gK⟩,hgl,aY,⟨aC,sD⟩,hbg,EF,hcb,EG,az⟩:=PresX.Cr HC.out.1 Y K (by omega) bQ HC.out.2 (λk hk h=>by omega);obtain⟨rfl,rfl⟩:J=some ⟨g,0,none⟩/\r=capg:=by cases af;exact⟨rfl,rfl⟩
  rw[aI,<-ah] at aY;obtain⟨m,hm⟩:∃m,m=n-1-Y:=⟨_,rfl⟩;rw[<-hm] at aY;have cy:(X:Int)-(Y:Int)-1=(K:Int):=by omega
  have cz:(K:Int)<m:=by omega
  have cA:(Y:Int)<n:=by omega
  have L:=grown_set1 wD b K (.slice ax n cx);have O:Ext w (wD.setCell ⟨b,K,none⟩ (.slice ax n cx)):=grown_own ab L (λj hj H=>by cases hj;omega);have A:=Box3.keep a L.size (L.block _ a.1 (λe=>by cases e;omega));have Q:=Box3.keep i L.size (L.block _ i.1 (λe=>by cases e;omega));have aA:=A.all (.slice E n G) (.slice I n q) (.slice (some ⟨g,0,none⟩) n r);obtain⟨q0,q1,q2,q3,q4⟩:=id i;obtain⟨r0,r1,r2,r3,r4⟩:=id Q;obtain⟨b0,b1,b2,b3,b4⟩:=id A;obtain⟨-,z0,z1,z2,-⟩:=id aA;have HR:=Lib.hid (And.intro az (And.intro O (And.intro af (And.intro aI (And.intro bD ah)))));clear aA az O af aI bD ah L A Q hm hK i a ad HC HV;go_wp2_with fail
  refine bodyPost_ret (v := .tuple #[.agg #[.slice E n G,.slice I n q,.slice (some ⟨g,0,none⟩) n r],.bool true]) (by simp[results,Tryz.results345,go_sem,z0,z1,z2]) rfl ?_;exact qD HR.out.2.1 (by omega) HR.out.1 (λk hk H=>⟨.inr (by rcases hk with hk|hk<;>omega),by rcases hk with hk|hk<;>omega⟩) (l.out.1.setC Y K (by have:=HR.out.2.2.2.2.2;omega) (by have:=bC.out;omega)) rfl
 case' true=>
  clear aE;have ah:=l.out.2.2;have bE:=l.out.1.p;obtain⟨g,capg,z,ae,⟨ai,gK⟩,hgl,aY,hfg,az⟩:=PresX.oG HC.out.1 X (by omega) HC.out.2 (λk hk h=>by omega);obtain⟨rfl,rfl⟩:I=some ⟨g,0,none⟩/\q=capg:=by cases ae;exact⟨rfl,rfl⟩
  have L:=grown_set1 wD g X (.slice ax n cx);have O:Ext w (wD.setCell ⟨g,X,none⟩ (.slice ax n cx)):=grown_own ab L (λj hj H=>by cases hj;omega);have A:=Box3.keep a L.size (L.block _ a.1 (λe=>by cases e;omega));have Q:=Box3.keep i L.size (L.block _ i.1 (λe=>by cases e;omega));have aA:=A.all (.slice E n G) (.slice (some ⟨g,0,none⟩) n q) (.slice J n r);obtain⟨q0,q1,q2,q3,q4⟩:=id i;obtain⟨r0,r1,r2,r3,r4⟩:=id Q;obtain⟨b0,b1,b2,b3,b4⟩:=id A;obtain⟨-,z0,z1,z2,-⟩:=id aA;have HR:=Lib.hid (And.intro az (And.intro O (And.intro ae (And.intro bE ah))));clear aA az O ae bE ah L A Q i a ad HC HV;go_wp2_with fail
  refine bodyPost_ret (v := .tuple #[.agg #[.slice E n G,.slice (some ⟨g,0,none⟩) n q,.slice J n r],.bool true]) (by simp[results,Tryz.results345,go_sem,z0,z1,z2]) rfl ?_;exact qD HR.out.2.1 (by omega) HR.out.1 (λk hk H=>⟨.inr (by rcases hk with hk|hk<;>omega),by rcases hk with hk|hk<;>omega⟩) (l.out.1.setP X (by have:=bC.out;omega)) rfl
end Go.Proofs.YtdcobapnlpeaaaaGreat
namespace Go.Proofs.YtdcobapnlpeaaaaGreat
open Go.RowKit
def prodU (P:Pr) (U:List (List Int)):Nat->Int
 | 0=>1
 | k+1=>prodU P U k*gt P.orders (dep (gt U k))
theorem prodU_le {P:Pr}(hP:Valid P) {U:List (List Int)}(e:SeqOk P U):∀k m,k<=U.length->(∀j,j<k->dep (gt U j)<m)->m<=P.orders.length->1<=prodU P U k/\prodU P U k<=prodTo P.orders m:=by
 intro k;induction k with
 | zero=>intro m _ _ g;exact⟨by simp[prodU],prodTo_pos m (λi l=>hP.pos i (by omega))⟩
 | succ k n=>
  intro m hk a g;have q:=a k (by omega);have b:k<U.length:=by omega
  obtain⟨h1,h2⟩:=n (dep (gt U k)) (by omega) (λj a=>e.2 j k a b) (by omega);have r:=hP.ord7 (dep (gt U k)) (by omega);have u:prodU P U k*gt P.orders (dep (gt U k))<=prodTo P.orders (dep (gt U k))*gt P.orders (dep (gt U k)):=Int.mul_le_mul_of_nonneg_right h2 (by omega);have p:prodTo P.orders (dep (gt U k)+1)<=prodTo P.orders m:=prodTo_mono _ _ (by omega) (λi l=>hP.pos i (by omega));have v:1*1<=prodU P U k*gt P.orders (dep (gt U k)):=Int.mul_le_mul h1 (by omega) (by omega) (by omega);simp only[prodTo] at p;simp only[prodU];exact⟨by omega,by omega⟩
theorem prodU_729 {P:Pr}(hP:Valid P) {U:List (List Int)}(a:SeqOk P U) (k:Nat) (hk:k<=U.length):1<=prodU P U k/\prodU P U k<=729:=by
 obtain⟨h1,h2⟩:=prodU_le hP a k P.orders.length hk (λj b=>(a.1 _ (gtMem (by omega))).2.1) (Nat.le_refl _);have:=hP.le729;exact⟨h1,by omega⟩
theorem sizeOf_ok (P:Pr) (hP:Valid P) (w:World) (p H:Value) (U:List (List Int)) (O I:Nat->Prop) (J:PresP O w p P) (K:Rows2 I w H U) (u:SeqOk P U) (Y:U.length<=100) :
  Calls Tryz.prog 139 #[p,H] w (Ret w λ_ v=>v=.int .i64 (prodU P U U.length)):=by
 have Q:=hP.n6;obtain⟨pb,po,rfl⟩:=J.shape;obtain⟨Z,capo,gy,y⟩:=J.ordAt;obtain⟨au,capu,rfl,_,_⟩:=Sl.shape K;have A:∀z∈U,dep z<z.length:=λz R=>by have:=u.1 z R;rw[this.1.1];exact this.2.1
 have L:=Lib.hid u;clear u;go_enter Tryz.func139,Tryz.ntmps139;go_wp2_with fail
 refine Calls.mono (pivots_ok _ U w I K A (by omega)) ?_;rintro e1 S ⟨pv,rfl,j,k⟩
 have m:∃T n,pv=.slice T U.length n:=by
  rcases k.form with⟨h1,l⟩|⟨g,cp,h1,_⟩
  ·have V:U.length=0:=by unfold depV at l;rw[List.map_eq_nil_iff] at l;rw[l];rfl
   exact⟨none,0,by rw[h1,V]⟩
  ·exact⟨_,_,by rw[h1];unfold depV;rw[List.length_map]⟩
 obtain⟨ap,capp,rfl⟩:=m;go_wp2;go_loopw [5,11] (λmv B wr=>∃i:Nat,mv=.int .i64 (prodU P U i)/\B=.int .i64 i/\i<=U.length/\S=wr) (λ_ B _=>U.length-(intOf B).toNat)
 case atStart=>exact⟨0,rfl,rfl,by omega,rfl⟩
 case round=>
  obtain⟨i,rfl,rfl,hi,rfl⟩:=hrel;by_cases a:i<U.length
  ·have M:(i:Int)<U.length:=by omega
   have q:gt (depV U) i=.int .i64 (dep (gt U i)):=by unfold depV;rw[gt_map _ _ _ a]
   have C:∃g,ap=some ⟨g,0,none⟩:=by
    rcases k.form with⟨h1,l⟩|⟨g,cp,h1,_⟩
    ·unfold depV at l;rw[List.map_eq_nil_iff] at l;rw[l] at a;simp at a
    ·simp only[Value.slice.injEq] at h1;exact⟨g,h1.1⟩
   obtain⟨gp,rfl⟩:=C;have r:=k.cell i (by unfold depV;rw[List.length_map];exact a);rw[q] at r;clear q;have e:prodU P U (i+1)=prodU P U i*gt P.orders (dep (gt U i)):=rfl;have D:=prodU_729 hP L.out (i+1) a;rw[e] at D;obtain⟨d,E⟩:∃d,d=dep (gt U i):=⟨_,rfl⟩;rw[<-E] at r e D;have F:d<P.orders.length:=by rw[E];exact(L.out.1 _ (gtMem a)).2.1
   clear E;have N:(d:Int)<P.orders.length:=by omega
   obtain⟨b,off,rfl,_,_,fo⟩:=Ints.at (y.ext j) d F;have W:=j.cell gy (by simp);have hw:IntKind.i64.wrap (prodU P U i*gt P.orders d)=prodU P U i*gt P.orders d:=IntWalk.i64_in _ (by omega);have X:=Lib.hid e;clear e D;go_wp2;go_roundw
   case rel=>exact⟨i+1,by rw[X.out],by go_num,by omega,trivial⟩
   case measure=>simp[intOf];omega
  ·have G:i=U.length:=by omega
   subst G;go_wp2;go_ret;exact⟨_,rfl,j,rfl⟩
end Go.Proofs.YtdcobapnlpeaaaaGreat
namespace Go.Proofs.YtdcobapnlpeaaaaGreat
def ordsU (P:Pr) (U:List (List Int)):List Int:=U.map (λz=>gt P.orders (dep z))
theorem ordsU_len (P:Pr) (U:List (List Int)):(ordsU P U).length=U.length:=by unfold ordsU;rw[List.length_map]
theorem ordsU_at (P:Pr) (U:List (List Int)) (i:Nat) (a:i<U.length):gt (ordsU P U) i=gt P.orders (dep (gt U i)):=by unfold ordsU;rw[gt_map _ _ _ a]
def prodR (P:Pr) (U:List (List Int)) (a:List Int):Nat->List Int
 | 0=>zeros P.orders.length
 | k+1=>rMul P (prodR P U a k) (pwZ P (gt U k) (gt a k))
def shapeP (o:List Int):Pr:=⟨o,List.replicate o.length (zeros o.length),(List.range o.length).map (λi=>List.replicate (o.length-1-i) (zeros o.length))⟩
theorem gt_rep {α:Type} [Inhabited α] (n:Nat) (x:α) (i:Nat) (a:i<n):gt (List.replicate n x) i=x:=by simp[gt,a]
theorem shapeP_valid {o:List Int}(m:o.length<=6) (g:∀i,i<o.length->gt o i=2\/gt o i=3\/gt o i=5\/gt o i=7) (n:prodTo o o.length<=729):Valid (shapeP o):=by
 have l:Vec o (zeros o.length):=⟨by simp[zeros],λi a=>by
  have:gt (zeros o.length) i=0:=gt_replicate _ _;rw[this];rcases g i a with h|h|h|h<;>rw[h]<;>decide⟩
 have b:∀i,ZeroTo i (zeros o.length):=λi j _=>gt_replicate _ _;refine⟨n,m,by simp[shapeP],by simp[shapeP],g,λi a => ?_,λi a => ?_⟩
 ·show Vec o (gt (List.replicate o.length (zeros o.length)) i)/\ZeroTo i (gt (List.replicate o.length (zeros o.length)) i)
  rw[gt_rep o.length _ _ a];exact⟨l,b i⟩
 ·have e:gt (shapeP o).conj i=List.replicate (o.length-1-i) (zeros o.length):=by
   unfold shapeP;have p:i<(List.range o.length).length:=by rw[List.length_range];exact a
   have:=gt_map (λi=>List.replicate (o.length-1-i) (zeros o.length)) (List.range o.length) i p;rw[this];simp[gt,show i<o.length from a]
  rw[e];refine⟨by simp[shapeP],λk hk => ?_⟩;rw[gt_rep (o.length-1-i) _ _ hk];exact⟨l,b i⟩
theorem prodR_congr {P:Pr}{U:List (List Int)}{a a':List Int}(k:Nat) (h:∀j,j<k->gt a j=gt a' j):prodR P U a k=prodR P U a' k:=by
 induction k with
 | zero=>rfl
 | succ k b=>
  simp only[prodR];rw[b (λj e=>h j (by omega)),h k (by omega)]
theorem prodTo_ordsU (P:Pr) (U:List (List Int)) (k:Nat) (hk:k<=U.length):prodTo (ordsU P U) k=prodU P U k:=by
 induction k with
 | zero=>rfl
 | succ k a=>simp only[prodTo,prodU];rw[a (by omega),ordsU_at P U k (by omega)]
section
variable {P:Pr}(G:Grp P)
include G
theorem Grp.prodR_vec {U:List (List Int)}(b:∀z∈U,Vec P.orders z) (a:List Int) (k:Nat) (hk:k<=U.length):Vec P.orders (prodR P U a k):=by
 induction k with
 | zero=>exact G.oneV
 | succ k e=>exact G.mulV (e (by omega)) (G.pwZ_vec (b _ (gtMem (by omega))) _)
theorem Grp.mem_elsP {U:List (List Int)}(i:SeqOk P U) (x:List Int):∀k,k<=U.length->(x∈elsP P U k↔∃a:List Int,a.length=U.length/\(∀j,j<k->0<=gt a j/\gt a j<gt P.orders (dep (gt U j)))/\x=prodR P U a k):=by
 intro k;induction k generalizing x with
 | zero=>
  intro _;simp only[elsP,List.mem_singleton,prodR];exact⟨λh=>⟨List.replicate U.length 0,by simp,λj b=>by omega,h⟩,λ⟨_,_,_,h⟩=>h⟩
 | succ k g=>
  intro hk;have l:=(i.1 _ (gtMem (show k<U.length by omega))).2.1;have m:=G.v.ord7 _ l;simp only[elsP,List.mem_flatMap,stepE,List.mem_map,List.mem_range];constructor
  ·rintro ⟨y,hy,t,ht,rfl⟩
   obtain⟨a,ha,hb,rfl⟩:=(g y (by omega)).1 hy;refine⟨a.set k t,by simp[ha],λj b => ?_,?_⟩
   ·rcases Nat.lt_succ_iff_lt_or_eq.1 b with h|h
    ·rw[gt_set_ne _ _ _ _ (by omega)];exact hb j h
    ·subst h;rw[gt_set_eq _ _ _ (by omega)];omega
   ·simp only[prodR]
    rw[gt_set_eq _ _ _ (by omega),pwZ_nat _ _ _ (by omega),prodR_congr (a:=a.set k t) (a':=a) k (λj b=>gt_set_ne _ _ _ _ (by omega))];rfl
  ·rintro ⟨a,ha,hb,rfl⟩
   have e:=hb k (by omega);refine⟨prodR P U a k,(g _ (by omega)).2 ⟨a,ha,λj b=>hb j (by omega),rfl⟩,(gt a k).toNat,by omega,?_⟩;simp only[prodR];rw[pwZ_nat _ _ _ e.1]
theorem Grp.mem_prods {H:List Int->Prop}(S:Sub P H) (x:List Int):H x↔∃m:Int,0<=m/\m<prodU P (cseq P H) (cseq P H).length/\x=prodR P (cseq P H) (elAt (shapeP (ordsU P (cseq P H))) m) (cseq P H).length:=by
 obtain⟨h1,p,q⟩:=G.seq_facts S;obtain⟨U,r⟩:∃U,U=cseq P H:=⟨_,rfl⟩;rw[<-r] at h1 p q ⊢;have u:U.length<=P.orders.length:=by rw[r];exact G.cseq_len S
 have z:=G.v.n6;have b:=ordsU_len P U
 have k:Valid (shapeP (ordsU P U)):=by
  refine shapeP_valid (by omega) (λi l => ?_) ?_
  ·rw [ordsU_at P U i (by omega)]
   exact G.v.ord _ (h1.1 _ (gtMem (by omega))).2.1
  ·rw [b,prodTo_ordsU P U U.length (Nat.le_refl _)]
   exact(prodU_729 G.v h1 U.length (Nat.le_refl _)).2
 have hO:ordP (shapeP (ordsU P U))=prodU P U U.length:=by
  unfold ordP;show prodTo (ordsU P U) (ordsU P U).length=_
  rw[b];exact prodTo_ordsU P U U.length (Nat.le_refl _)
 rw[<-G.elsP_mem S h1 p q x,G.mem_elsP h1 x U.length (Nat.le_refl _)];constructor
 ·rintro ⟨a,ha,hb,rfl⟩
  have e:Vec (shapeP (ordsU P U)).orders a:=⟨by rw[ha];exact b.symm,λi l=>by
   have l:i<(ordsU P U).length:=l;show _/\_<gt (ordsU P U) i
   rw[ordsU_at P U i (by omega)];exact hb i (by omega)⟩
  have g:=num_bd k e;refine⟨num _ a,g.1,by rw[<-hO];exact g.2,?_⟩;rw[elAt_num k e]
 ·rintro ⟨m,h4,h5,rfl⟩
  have w:=elAt_vec k m h4;have n:(elAt (shapeP (ordsU P U)) m).length=(ordsU P U).length:=w.1;refine⟨_,by rw[n,b],λj A => ?_,rfl⟩;have y:0<=gt (elAt (shapeP (ordsU P U)) m) j/\gt (elAt (shapeP (ordsU P U)) m) j<gt (ordsU P U) j:=w.2 j (by show j<(ordsU P U).length;omega);rw[ordsU_at P U j A] at y;exact y
end
theorem stepE_succ (P:Pr) (u:List Int) (o:Nat) (x:List Int):stepE P u (o+1) x=stepE P u o x++[rMul P x (pw P u o)]:=by
 unfold stepE;rw[List.range_succ,List.map_append];rfl
theorem flatMap_take_succ {α a:Type} [Inhabited α] (l:List α) (f:α->List a) (i:Nat) (b:i<l.length):(l.take (i+1)).flatMap f=(l.take i).flatMap f++f (gt l i):=by
 rw[take_succ_gt l i b,List.flatMap_append];simp
theorem stepE_len (P:Pr) (u:List Int) (o:Nat) (x:List Int):(stepE P u o x).length=o:=by unfold stepE;simp
theorem flatMap_len (P:Pr) (u:List Int) (o:Nat) (l:List (List Int)):(l.flatMap (stepE P u o)).length=l.length*o:=by
 induction l with
 | nil=>simp
 | cons x l a=>rw[List.flatMap_cons,List.length_append,a,stepE_len,List.length_cons,Nat.add_mul];omega
theorem elsP_len {P:Pr}(hP:Valid P) {U:List (List Int)}(b:SeqOk P U) (k:Nat) (hk:k<=U.length):((elsP P U k).length:Int)=prodU P U k:=by
 induction k with
 | zero=>simp[elsP,prodU]
 | succ k a=>
  have a:=a (by omega);have e:=hP.ord7 (dep (gt U k)) (b.1 _ (gtMem (by omega))).2.1;simp only[elsP,prodU];rw[flatMap_len,Int.natCast_mul,a,show(((gt P.orders (dep (gt U k))).toNat:Nat):Int)=gt P.orders (dep (gt U k)) by omega]
theorem Grp.step_mul {P:Pr}(G:Grp P) {x u:List Int}(hx:Vec P.orders x) (a:Vec P.orders u) (t:Nat):rMul P (rMul P x (pw P u t)) u=rMul P x (pw P u (t+1)):=by
 rw[pw_succ,G.ass hx (G.pw_vec a t) a]
def nWord (e:List Int):Nat->List Int
 | 0=>[]
 | k+1=>nWord e k++List.replicate (gt e k).toNat ((k:Int)+1)
theorem nWord_len {e:List Int}(h:∀i,gt e i<=7):∀k,(nWord e k).length<=7*k
 | 0=>by simp[nWord]
 | k+1=>by
  have:=nWord_len h k;have:=h k;simp only[nWord,List.length_append,List.length_replicate];omega
section
variable {Q:Pr}(G:Grp Q)
include G
end
end Go.Proofs.YtdcobapnlpeaaaaGreat
namespace Go.Proofs.YtdcobapnlpeaaaaGreat
open Go.RowKit
theorem ints_lit (w:World) (y:Int):Ints Any (w.alloc (.cells #[.int .i64 y] 2)) (.slice (some ⟨w.heap.size,0,none⟩) 1 1) [y]:=by
 refine⟨some ⟨w.heap.size,0,none⟩,1,rfl,⟨by simp,by simp,λh=>by cases h⟩,λi a=>⟨w.heap.size,0,.int .i64 y,rfl,trivial,by simp,?_,?_⟩⟩
 ·have:i=0:=by simpa using a
  subst this;rw[World.cell?_alloc_at _ _ _ _ rfl];rfl
 ·have:i=0:=by simpa using a
  subst this;rfl
theorem l07Word_ok (w:World) (v:Value) (e:List Int) (S:Nat->Prop) (K:Ints S w v e) (V:e.length<=6) (C:∀i,i<e.length->0<=gt e i/\gt e i<=7) :
  Calls Tryz.prog 365 #[v] w (Ret w λw' r=>Own w.heap.size w' r (nWord e e.length)):=by
 obtain⟨a,cap,rfl,_,_⟩:=K.shape
 have A:∀i,gt e i<=7:=λi=>by
  by_cases h:i<e.length
  ·exact(C i h).2
  ·rw[gt_big (by omega)];decide
 have L:=Lib.hid (And.intro A C);clear A C;go_enter Tryz.func365,Tryz.ntmps365;go_wp2;go_loopw [3,4] (λD E wr=>∃(i:Nat) (B:Value),B=D/\E=.int .i64 i/\i<=e.length/\Ext w wr/\Own w.heap.size wr B (nWord e i)) (λ_ E _=>e.length-(intOf E).toNat)
 case atStart=>exact⟨0,_,rfl,rfl,by omega,World.grownBy_alloc _ _ _,World.ownsRow_lit w #[] 0 (Nat.le_refl _) (by decide) rfl⟩
 case round=>
  obtain⟨i,B,rfl,rfl,hi,hg,hO⟩:=hrel;by_cases l:i<e.length
  ·have M:(i:Int)<e.length:=by omega
   obtain⟨b,off,rfl,_,_,N⟩:=Ints.at K i l;obtain⟨x,hx⟩:∃x,x=(gt e i).toNat:=⟨_,rfl⟩;have F:=L.out.2 i l;have m:gt e i=(x:Int):=by omega
   have R:x<=7:=by omega
   have n:nWord e (i+1)=nWord e i++List.replicate x ((i:Int)+1):=by rw[nWord,hx]
   have p:=nWord_len L.out.1 i;rw[m] at N;have O:=Lib.hid (And.intro n p);clear n p F m hx;go_wp2;have q:Own w.heap.size wr B (nWord e i++List.replicate 0 ((i:Int)+1)):=by simpa using hO
   clear hO;go_loopw [3,5] (λD kv wr=>∃(k:Nat) (v4:Value),v4=D/\kv=.int .i64 k/\k<=x/\Ext w wr/\Own w.heap.size wr v4 (nWord e i++List.replicate k ((i:Int)+1))) (λ_ kv _=>x-(intOf kv).toNat)
   case atStart=>exact⟨0,_,rfl,rfl,by omega,hg,q⟩
   case round=>
    clear q hg;obtain⟨k,v4,rfl,rfl,hk,hg,hO⟩:=hrel;have u:=hg.cell N (by simp);by_cases P:k<x
    ·have G:(k:Int)<x:=by omega
     have g:(nWord e i++List.replicate k ((i:Int)+1)).length<=1000:=by rw[List.length_append,List.length_replicate];have:=O.out.2;omega
     have T:=Lib.hid g;clear g;go_wp2_with (first|(at_builtin;refine wp_app_ints rfl _ _ rfl w.heap.size v4 _ rfl (hO.ext0 (World.grownBy_alloc _ _ _)) _ _ rfl Any (ints_lit wr _) (by have:=T.out;simp only[List.length_cons,List.length_nil];omega) (by have:=hg.size;simp;omega) ?_;intro U Q y z _)|fail)
     have j:wr.grownBy Q v4.ownBlock:=grown_trans (grown_of_ext _ (World.grownBy_alloc _ _ _)) z;have H:Ext w Q:=grown_own hg j (λb A l=>by have:=(hO.lt b A).1;omega);rw[List.append_assoc,<-List.replicate_succ'] at y;clear hO z j u;go_roundw
     case rel=>exact⟨k+1,U,rfl,by go_num,by omega,H,y⟩
     case measure=>simp[intOf];omega
    ·have I:k=x:=by omega
     subst I;rw[<-O.out.1] at hO;go_wp2;clear u;go_roundw
     case rel=>exact⟨i+1,v4,rfl,by go_num,by omega,hg,hO⟩
     case measure=>simp[intOf];omega
  ·have J:i=e.length:=by omega
   subst J;go_wp2;go_ret;exact⟨_,rfl,hg,hO⟩
theorem Grp.repTo_mem {P:Pr}(G:Grp P) {H:List Int->Prop}(S:Sub P H) {X Y:List Int}(a:Vec P.orders X) (h:RepTo P (cseq P H) X (cseq P H).length Y):Y=zeros P.orders.length↔H X:=by
 obtain⟨h1,h2,h3⟩:=G.seq_facts S;have i:=G.invV a;have e:=h.cos H S h2;constructor
 ·intro b
  rw[b,G.grp.er _ i] at e;have:=S.inv _ e;rwa [G.inv_inv a] at this
 ·intro hx
  have hy:=S.mul _ _ hx e;rw[<-G.ass a i h.vec,G.mul_inv a,G.grp.el _ h.vec] at hy;by_cases b:Y=zeros P.orders.length
  ·exact b
  ·obtain ⟨d,hd,hT,hne⟩:=depth_ex h.vec b
   obtain⟨j,hj,g⟩:=h3 Y hy d hd hT hne;exact absurd (by rw[<-g];exact h.zer j hj) hne
theorem isZeroB_zeros {o l:List Int}(h:Vec o l):isZeroB l=true↔l=zeros o.length:=by
 rw[isZeroB_true];constructor
 ·intro a
  refine ext_gt (by rw[h.1];simp[zeros]) (λi b => ?_);rw[a i b];exact(gt_replicate _ _).symm
 ·intro a i b
  rw[a];exact gt_replicate _ _
theorem isMember_ok (P:Pr) (G:Grp P) (w:World) (p l m:Value) (H:List Int->Prop) (X:List Int) (q u y:Nat->Prop) (S:Sub P H) (z:PresP q w p P) (A:Rows2 u w l (cseq P H)) (hx:Ints y w m X) (B:Vec P.orders X) :
  Calls Tryz.prog 123 #[p,l,m] w (Ret w λ_ v=>∃r:Bool,v=.bool r/\(r=true↔H X)):=by
 have D:=G.v.n6;have I:=G.cseq_len S;have e:=(G.seq_facts S).1;have b:=representative_ok P G w p l m (cseq P H) X q u y z A e (by omega) hx B;obtain⟨pb,po,rfl⟩:=z.shape;obtain⟨J,capu,rfl,_,_⟩:=Sl.shape A;obtain⟨K,capx,rfl,_,_⟩:=hx.shape;have L:=Lib.hid e;clear e;go_enter Tryz.func123,Tryz.ntmps123;go_wp2_with fail
 refine Calls.mono b ?_;rintro M C ⟨v1,rfl,hg1,Y,hO,k⟩;clear b;have g:=hO.ints (by rw[k.vec.1];omega);obtain⟨N,capy,rfl,_,_⟩:=g.shape;have a:=(isZeroB_zeros k.vec).trans (G.repTo_mem S B k);cases j:isZeroB Y with
 | true=>
  rw[j] at a;have n:=Lib.hid a;have i:=isZero_ok _ _ C Any g;rw[j] at i;clear a j k;go_wp2_with fail
  refine Calls.mono i ?_;rintro E F ⟨rfl,rfl⟩;clear i;go_wp2;go_ret;exact⟨_,rfl,hg1,true,rfl,by simpa using n.out⟩
 | false=>
  rw[j] at a;have n:=Lib.hid a;have i:=isZero_ok _ _ C Any g;rw[j] at i;clear a j k;go_wp2_with fail
  refine Calls.mono i ?_;rintro E F ⟨rfl,rfl⟩;clear i;go_wp2;go_ret;exact⟨_,rfl,hg1,false,rfl,by simpa using n.out⟩
theorem l01Zero_ok (v:Value) (l:List Int) (w:World) (S:Nat->Prop) (h:Ints S w v l) :
  Calls Tryz.prog 313 #[v] w λe w'=>e=.returned (.bool (isZeroB l))/\w=w':=by
 obtain⟨a,cap,rfl,_,_⟩:=h.shape;go_enter Tryz.func313,Tryz.ntmps313;go_wp2;go_loop [3] (λi=>∃k:Nat,i=.int .i64 k/\k<=l.length/\∀j,j<k->gt l j=0) (λi=>l.length-(intOf i).toNat)
 case atStart=>exact⟨0,rfl,by omega,λj n=>by omega⟩
 case round=>
  obtain⟨k,rfl,hk,hz⟩:=hrel;have q:=Lib.hid hz;clear hz;by_cases g:k<l.length
  ·obtain ⟨b,off,rfl,_,_,hc⟩:=Ints.at h k g
   by_cases hx:gt l k=0
   ·have r:(gt l k != 0)=false:=by simp[hx]
    have u:=Lib.hid hx;clear hx;go_wp2;go_round
    case rel=>exact⟨k+1,by go_num,by omega,λj n=>by
     rcases Nat.lt_succ_iff_lt_or_eq.1 n with h1|h1
     ·exact q.out j h1
     ·rw[h1];exact u.out⟩
    case measure=>simp[intOf];omega
   ·have r:(gt l k != 0)=true:=by simp[hx]
    have m:isZeroB l=false:=by
     cases y:isZeroB l with
     | false=>rfl
     | true=>exact absurd (isZeroB_true.1 y k g) hx
    have p:=Lib.hid m;clear m hx;go_wp2;go_ret;exact⟨by rw[p.out];rfl,rfl⟩
  ·have m:isZeroB l=true:=isZeroB_true.2 (λj n=>q.out j (by omega))
   have p:=Lib.hid m;clear m;go_wp2;go_ret;exact⟨by rw[p.out];rfl,rfl⟩
theorem l12Order_ok (P:Pr) (hP:Valid P) (w:World) (pv H:Value) (U:List (List Int)) (O Q:Nat->Prop) (r:PresV O w pv P) (u:Rows2 Q w H U) (I:SeqOk P U) (Y:U.length<=100) :
  Calls Tryz.prog 232 #[pv,H] w (Ret w λ_ v=>v=.int .i64 (prodU P U U.length)):=by
 have R:=hP.n6;obtain⟨vo,vp,vc,rfl,h3⟩:=r;have g:=PresP.box h3 28;have j:Ext w (w.alloc (.cells #[vo,vp,vc] 28)):=World.grownBy_alloc _ _ _;have y:=Rows2.ext u j;obtain⟨Z,capo,A,B⟩:=g.ordAt;obtain⟨au,capu,rfl,_,_⟩:=Sl.shape u;have J:=Lib.hid I;clear I g u;go_enter Tryz.func232,Tryz.ntmps232;go_wp2;generalize C:w.alloc (.cells #[vo,vp,vc] 28)=w0 at *;clear C;go_loopw [5,6] (λmv D wr=>∃i:Nat,mv=.int .i64 (prodU P U i)/\D=.int .i64 i/\i<=U.length/\Ext w0 wr) (λ_ D _=>U.length-(intOf D).toNat)
 case atStart=>exact⟨0,rfl,rfl,by omega,Ext.refl _⟩
 case round=>
  obtain⟨i,rfl,rfl,hi,k⟩:=hrel;by_cases e:i<U.length
  ·have K:(i:Int)<U.length:=by omega
   obtain⟨b,off,a2,l,rfl,_,_,E,L⟩:=Rows2.at (Rows2.ext y k) i e;have a:prodU P U (i+1)=prodU P U i*gt P.orders (dep (gt U i)):=rfl;have n:=prodU_729 hP J.out (i+1) e;rw[a] at n;obtain⟨z,p⟩:∃z,z=gt U i:=⟨_,rfl⟩;rw[<-p] at E L a n;obtain⟨d,q⟩:∃d,d=dep z:=⟨_,rfl⟩;rw[<-q] at a n;have F:d<P.orders.length:=by rw[q,p];exact(J.out.1 _ (gtMem e)).2.1
   have S:=Lib.hid (And.intro q p);clear q p;have M:(d:Int)<P.orders.length:=by omega
   obtain⟨N,oo,rfl,_,_,hcd⟩:=Ints.at (B.ext k) d F;have hw:IntKind.i64.wrap (prodU P U i*gt P.orders d)=prodU P U i*gt P.orders d:=IntWalk.i64_in _ (by omega);have T:=Lib.hid a;clear a n;have V:∀w',Ext wr w'->w'.cell? ⟨w.heap.size,0,none⟩=some (.slice (some ⟨N,oo,none⟩) P.orders.length capo):=λw' h=>(grown_trans k h).cell A (by simp);have W:∀w',Ext wr w'->w'.cell? ⟨b,off+i,none⟩=some (.slice a2 z.length l):=λw' h=>h.cell E (by simp);have X:∀w',Ext wr w'->w'.cell? ⟨N,oo+d,none⟩=some (.int .i64 (gt P.orders d)):=λw' h=>h.cell hcd (by simp);clear E hcd;go_wp2
   go_region_held3 (λw'=>Ext wr w') (first|exact grown_drew _ _|assumption)
    (first
     | (go_at_call 289;refine Calls.mono (Calls.rel (w0:=wr) (by first|exact grown_drew _ _|assumption) (l12Depth_ok _ z _ Any (Ints.sub (Ints.ext L (by first|exact grown_drew _ _|assumption)) (λ_ _ _=>trivial)))) ?_;rintro eE wE ⟨vE,rfl,lJ,gJ,m⟩;rw[<-S.out.1] at m;subst m))
   clear V W X;go_wp2;go_roundw
   case rel=>exact⟨i+1,by rw[T.out],by go_num,by omega,grown_trans k lJ⟩
   case measure=>simp[intOf];omega
  ·have G:i=U.length:=by omega
   subst G;go_wp2;go_ret;exact⟨_,rfl,grown_trans j k,rfl⟩
end Go.Proofs.YtdcobapnlpeaaaaGreat
