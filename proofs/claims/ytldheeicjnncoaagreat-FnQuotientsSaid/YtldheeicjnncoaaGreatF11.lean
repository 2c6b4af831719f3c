/- Merged from templates. -/
import Derived.Test.YtldheeicjnncoaaGreatF10
set_option maxRecDepth 100000
set_option maxHeartbeats 8000000
namespace Go.Proofs.YtldheeicjnncoaaGreat
open Go.RowKit
attribute [local go_sem ↓] Go.wp_at_zero Go.wp_at_succ
theorem rows_bound {P:Pr}{N:Nat}(h:Shp N P) (a:N<=1000):(∀x∈P.powers,x.length<=1000000)/\P.powers.length<=1000000/\P.conj.length<=1000000/\(∀i,i<P.conj.length->(∀x∈gt P.conj i,x.length<=1000000)/\(gt P.conj i).length<=1000000):=by
 have hn:=h.n;refine⟨λx hx=>by have:=h.pv x hx;omega,by rw[h.p];omega,by rw[h.c];omega,λi hi=>⟨λx hx => ?_,?_⟩⟩
 ·have:=h.cv _ (by rw[gt_eq _ i hi];exact List.getElem_mem hi) x hx
  omega
 ·rw[h.cl i (by rw[<-h.c];exact hi)];omega
def OwnCut (w0:World) (P:Pr) (q:Value) (b:World):Prop:=∃qb a n c a2 e c2,q=.pointer (some ⟨qb,0,none⟩)/\w0.heap.size<=qb/\Ext w0 b/\Box3 b qb (.slice a n c) (.slice a2 e c2) (.slice none 0 0) /\
 PresX (λk=>w0.heap.size<=k/\k≠qb) b (.slice a n c) (.slice a2 e c2) (.slice none 0 0) ⟨P.orders,P.powers,[]⟩
theorem ownCut_mk {w0 b:World}{P:Pr}{qb n c i c2 a1 a2 b1 b2:Nat}{a j:Option Addr}(l:w0.heap.size<=qb) (hE:Ext w0 b) (hB:Box3 b qb (.slice a n c) (.slice j i c2) (.slice none 0 0))
  (m:OwnIn (λk=>a1<=k/\k<a2) b (.slice a n c) P.orders) (p:RowsI (λk=>b1<=k/\k<b2) b (.slice j i c2) P.powers)
  (h1:w0.heap.size<=a1) (u:w0.heap.size<=b1) (w:a2<=b1\/b2<=a1) (q:¬(a1<=qb/\qb<a2)) (r:¬(b1<=qb/\qb<b2)):OwnCut w0 P (.pointer (some ⟨qb,0,none⟩)) b:=
 ⟨qb,a,n,c,j,i,c2,rfl,l,hE,hB,λk=>a1<=k/\k<a2,λk=>b1<=k/\k<b2,λ_=>False,m,p,⟨[],λ_ _=>False,rfl,by simp,World.ownsRow_nil _ _ _ _,by simp[Value.ownBlock],by simp,by simp,by simp⟩,
  λk hk=>⟨⟨by omega,λe=>q (e▸hk)⟩,λe=>by omega,λe=>e⟩,λk hk=>⟨⟨by omega,λe=>r (e▸hk)⟩,λe=>e⟩,λk hk=>hk.elim⟩
theorem l07Own_ok (w:World) (pv:Value) (P:Pr) (S:Nat->Prop) (N:Nat) (hp:PresV S w pv P) (hS:Shp N P) (hN:N<=1000) :
  Calls Tryz.prog 240 #[pv] w (Ret w (PresR w.heap.size P)):=by
 obtain⟨vo,vp,vc,rfl,h3⟩:=hp;obtain⟨O,m,ez,_,_⟩:=h3.o.shape;obtain⟨ap,q,hvp,_,_⟩:=Sl.shape h3.p;obtain⟨Q,l,ey,_,_⟩:=Sl.shape h3.c;subst ez hvp ey;have aj:Ext w ((w.alloc (.cells #[.slice O P.orders.length m,.slice ap P.powers.length q,.slice Q P.conj.length l] 28)).alloc (.cells #[.slice none 0 0,.slice none 0 0,.slice none 0 0] 28)):=grown_trans (World.grownBy_alloc _ _ _) (World.grownBy_alloc _ _ _);have ak:=(Box3.made w 28 (.slice O P.orders.length m) (.slice ap P.powers.length q) (.slice Q P.conj.length l)).ext (World.grownBy_alloc _ (.cells #[.slice none 0 0,.slice none 0 0,.slice none 0 0] 28) _);have R:=Box3.made (w.alloc (.cells #[.slice O P.orders.length m,.slice ap P.powers.length q,.slice Q P.conj.length l] 28)) 28 (.slice none 0 0) (.slice none 0 0) (.slice none 0 0);have al:(w.alloc (.cells #[.slice O P.orders.length m,.slice ap P.powers.length q,.slice Q P.conj.length l] 28)).heap.size=w.heap.size+1:=by simp
 have U:((w.alloc (.cells #[.slice O P.orders.length m,.slice ap P.powers.length q,.slice Q P.conj.length l] 28)).alloc (.cells #[.slice none 0 0,.slice none 0 0,.slice none 0 0] 28)).heap.size=w.heap.size+2:=by simp
 rw[al] at R;have hb:=rows_bound hS hN;have hn:=hS.n;have z:=Lib.hid (And.intro ak (And.intro R (And.intro U (And.intro hb (And.intro hS hn)))));clear ak R al U hb hn;go_enter Tryz.func240,Tryz.ntmps240;go_wp2_with fail
 generalize (w.alloc (.cells #[.slice O P.orders.length m,.slice ap P.powers.length q,.slice Q P.conj.length l] 28)).alloc (.cells #[.slice none 0 0,.slice none 0 0,.slice none 0 0] 28)=w0 at *;have V:=h3.ext aj;have e0:∀w',Ext w0 w'->w'.cell? ⟨w.heap.size,0,none⟩=some (.slice O P.orders.length m):=λw' h=>(z.out.1.ext h).2.1;have e1:∀w',Ext w0 w'->w'.cell? ⟨w.heap.size,1,none⟩=some (.slice ap P.powers.length q):=λw' h=>(z.out.1.ext h).2.2.1;go_cut [3] (λqv wx=>OwnCut w0 P qv wx)
 case first=>
  go_region_held3 (λw'=>Ext w0 w') (first|exact grown_drew _ _|assumption|exact grown_trans (by assumption) (World.grownBy_alloc _ _ _)|exact grown_own (by assumption) (grown_set3 _ _ _ _ _) (λj W a=>by cases W;first|(have:=eu.size;omega)|(have:=hgB.size;omega)|(simp at a)))
   (first
    | (go_at_call 216;refine Calls.mono (Calls.rel2 (w0:=w0) (by assumption) (l01Own2_ok _ _ P.powers S (Rows2.ext V.p (by assumption)) z.out.2.2.2.1.1 z.out.2.2.2.1.2.1)) ?_;rintro eB X ⟨vB,rfl,hgB,r,hsB,I⟩;obtain⟨aB,u,iI,_,_⟩:=SlD.shape (I.toD (by have:=z.out.2.2.2.1.2.1;omega));subst iI;(try have C:=Box3.ext C r);(first|(have C:Box3 _ w0.heap.size _ _ _:=Box3.ext (Box3.made w0.drew _ _ _ _) r)|(have C:=Box3.ext (Box3.made _ _ _ _ _) r)|skip);(try obtain⟨f0,f1,f2,f3,f4⟩:=id C))
    | (go_at_call 86;refine Calls.mono (Calls.rel2 (w0:=w0) (by assumption) (l01Own_ok _ _ P.orders S (Ints.ext V.o (by assumption)) (by have:=z.out.2.2.2.2.2;omega))) ?_;rintro eA H ⟨vA,rfl,eu,D,hsA,J⟩;obtain⟨aA,y,iJ,_⟩:=(J.ints (by have:=z.out.2.2.2.2.2;omega)).shape;subst iJ;(try have C:=Box3.ext C D);(first|(have C:Box3 _ w0.heap.size _ _ _:=Box3.ext (Box3.made w0.drew _ _ _ _) D)|(have C:=Box3.ext (Box3.made _ _ _ _ _) D)|skip);(try obtain⟨f0,f1,f2,f3,f4⟩:=id C)))
  all_goals (try go_wp2_with fail)
  all_goals go_meet
  all_goals
   have bg:=eu.size;have bh:=r.size;have bi:=z.out.2.2.2.2.2;have bj:=z.out.2.2.2.1.2.1
  ·have E:=Box3.made X 28 (.slice aA P.orders.length y) (.slice aB P.powers.length u) (.slice none 0 0)
   have b:=World.grownBy_alloc X (.cells #[.slice aA P.orders.length y,.slice aB P.powers.length u,.slice none 0 0] 28) none
   refine ownCut_mk (a1:=w0.heap.size) (a2:=H.heap.size) (b1:=H.heap.size) (b2:=X.heap.size) (by omega) (grown_trans (by assumption) b) E
       (rdOwn.mono (OwnIn.of J (by omega) (λk h1 B=>⟨h1,B⟩)) (λk hk a=>⟨hk,by have:=b.size;omega,(b.block k (by omega) (by simp)).trans (r.block k a (by simp))⟩))
       (rdRowsI.mono (SlI.of I (by omega) (λk h1 B=>⟨h1,B⟩)) (λk hk a=>⟨hk,by have:=b.size;omega,b.block k a (by simp)⟩)) (by omega) (by omega) (by omega) (by omega) (by omega)
  ·have E:=C.all (.slice aA P.orders.length y) (.slice aB P.powers.length u) (.slice none 0 0)
   have b:=grown_set3 X H.heap.size (.slice aA P.orders.length y) (.slice aB P.powers.length u) (.slice none 0 0);have aO:=grown_trans (World.grownBy_alloc H (.cells #[.slice none 0 0,.slice none 0 0,.slice none 0 0] 28) none) r;have aQ:(H.alloc (.cells #[.slice none 0 0,.slice none 0 0,.slice none 0 0] 28)).heap.size=H.heap.size+1:=by simp
   refine ownCut_mk (a1:=w0.heap.size) (a2:=H.heap.size) (b1:=H.heap.size+1) (b2:=X.heap.size) (by omega) (by assumption) E
       (rdOwn.mono (OwnIn.of J (by omega) (λk h1 B=>⟨h1,B⟩)) (λk hk a=>⟨hk,by have:=b.size;omega,(b.block k (by omega) (λe=>by cases e;omega)).trans (aO.block k (by omega) (by simp))⟩))
       (rdRowsI.mono (SlI.of I (by omega) (λk h1 B=>⟨by rw[<-aQ];exact h1,B⟩)) (λk hk a=>⟨hk,by have:=b.size;omega,b.block k a (λe=>by cases e;omega)⟩)) (by omega) (by omega) (by omega) (by omega) (by omega)
  ·have E:=C.all (.slice aA P.orders.length y) (.slice aB P.powers.length u) (.slice none 0 0)
   have b:=grown_set3 X w0.heap.size (.slice aA P.orders.length y) (.slice aB P.powers.length u) (.slice none 0 0);have bk:=C.1
   refine ownCut_mk (a1:=w0.heap.size+1) (a2:=H.heap.size) (b1:=H.heap.size) (b2:=X.heap.size) (by omega) (by assumption) E
       (rdOwn.mono (OwnIn.of J (by omega) (λk h1 B=>⟨by simpa using h1,B⟩)) (λk hk a=>⟨hk,by have:=b.size;omega,(b.block k (by omega) (λe=>by cases e;omega)).trans (r.block k a (by simp))⟩))
       (rdRowsI.mono (SlI.of I (by omega) (λk h1 B=>⟨h1,B⟩)) (λk hk a=>⟨hk,by have:=b.size;omega,b.block k a (λe=>by cases e;omega)⟩)) (by omega) (by omega) (by omega) (by omega) (by omega)
 case rest=>
  obtain⟨qb,a1,n1,c1,a2,n2,c2,rfl,hqb,hg1,hB1,hX1⟩:=hcut;clear e0 e1;go_wp2
  go_loopw [4] (λiv wr=>∃(i:Nat) (vc:Value),iv=.int .i64 i/\i<=P.conj.length/\Ext w0 wr/\Box3 wr qb (.slice a1 n1 c1) (.slice a2 n2 c2) vc /\
   PresX (λk=>w0.heap.size<=k/\k≠qb) wr (.slice a1 n1 c1) (.slice a2 n2 c2) vc ⟨P.orders,P.powers,P.conj.take i⟩) (λiv _=>P.conj.length-(intOf iv).toNat)
  case atStart=>exact⟨0,_,rfl,by omega,hg1,hB1,hX1⟩
  case round=>
   clear hB1 hX1 hg1;obtain⟨i,vc,rfl,hi,M,hB,hX⟩:=hrel;have e2:∀w',Ext wr w'->w'.cell? ⟨w.heap.size,2,none⟩=some (.slice Q P.conj.length l):=λw' h=>(z.out.1.ext (grown_trans M h)).2.2.2.1;have e3:=e2 wr (grown_refl _ _);by_cases a:i<P.conj.length
   ·have aY:(i:Int)<P.conj.length:=by omega
    obtain⟨Fo,Fp,Fc,hP⟩:=hX.part;obtain⟨_,_,_,Y,Z,c3,_,rfl,_,iK⟩:=hX.sh2
    have an:(Value.slice Y Z c3).ownBlock≠some qb:=by
     obtain⟨_,_,_,_,_,q1,_⟩:=hP.c;exact λe=>(hP.dc _ (q1 _ e)).2 rfl
    obtain⟨bc,oc,ag,aq,rfl,_,mX,aa,iC⟩:=Rows3.at V.c i a;have ar:=aa;have ab:=Rows2.ext iC M;clear iC
    have au:∀k,(Value.slice Y Z c3).ownBlock=some k->w0.heap.size<=k:=by
     obtain⟨_,_,_,_,_,q1,_⟩:=hP.c;exact λk e=>(hP.dc _ (q1 _ e)).1
    have ad:=z.out.2.2.2.1.2.2.2 i a;have A:=take_succ_gt P.conj i a;have av:(P.conj.take i).length<=1000000:=by rw[List.length_take];have:=z.out.2.2.2.1.2.2.1;omega
    obtain⟨G,hG⟩:∃G,G=gt P.conj i:=⟨_,rfl⟩;rw[<-hG] at ab ad A ar aa;have K:=Lib.hid (And.intro A (And.intro av (And.intro an (And.intro ad (And.intro ab au)))));clear A av ad ab hG iK au an ar;have r2:∀w',Ext w0 w'->w'.cell? ⟨bc,oc+i,none⟩=some (.slice ag G.length aq):=λw' h=>h.cell aa (by simp);have r4:∀w',Ext w0 w'->w'.cell? ⟨w.heap.size,2,none⟩=some (.slice (some ⟨bc,oc,none⟩) P.conj.length l):=λw' h=>(z.out.1.ext h).2.2.2.1;have r3:∀w',Ext wr w'->w'.cell? ⟨qb,2,none⟩=some (.slice Y Z c3):=λw' h=>(hB.ext h).2.2.2.1;have f3:=r3 wr.drew (grown_drew _ _);clear e2;go_wp2;clear e3;have f2:=r2 wr.drew (grown_trans M (grown_drew _ _));have f4:=r4 wr.drew (grown_trans M (grown_drew _ _));clear r2 r4
    go_region_law (first
      | (go_simp;go_at_call 216;refine Calls.mono (l01Own2_ok _ _ G S (Rows2.ext K.out.2.2.2.2.1 (grown_drew _ _)) K.out.2.2.2.1.1 K.out.2.2.2.1.2) ?_;rintro eG wG ⟨vG,rfl,aU,aw⟩;obtain⟨aG,ax,je,_,_⟩:=SlD.shape (aw.toD (by have:=K.out.2.2.2.1.2;omega));subst je;have F:Ext wr wG:=grown_trans (grown_drew _ _) aU;have g3:=r3 wG F;have g4:=r3 (wG.alloc (.cells #[.slice aG G.length ax] 25)) (grown_trans F (World.grownBy_alloc _ _ _)))
      | (refine step_app_I (rdI rdOwn) 26 (.slice none 0 0) 24 und_rows3 Tryz.infoRows rfl (by decide) (by rfl) _ _ (by rfl) Fc wr wG _ _ (P.conj.take i) G (by rfl) hP.c F (SlI.of aw (by have:=K.out.2.2.2.1.2;omega) (λk h _=>h)) (by rfl) (by rfl) K.out.2.1 ?_;intro v8 w8 ay L bq;obtain⟨g8,m8,k8,rfl,fU⟩:=SlI.sl ay;clear fU;have aE:=Box3.keep hB L.size (L.block _ hB.1 (λe=>K.out.2.2.1 e.symm));have aF:Ext w0 w8:=grown_own M L (λj W a=>by have:=K.out.2.2.2.2.2 _ W;omega);obtain⟨f80,f81,f82,f83,f84⟩:=id aE))
    all_goals
     have aH:Ext w0 (w8.setCell ⟨qb,2,none⟩ (.slice g8 m8 k8)):=grown_own aF (grown_set1 _ _ _ _) (λj W a=>by cases W;omega);have aV:=(aE.put (.slice g8 m8 k8)).2.2;have aI:=hP.newC ay L;rw[<-K.out.1] at aI
     have aJ:PresX (λk=>w0.heap.size<=k/\k≠qb) (w8.setCell ⟨qb,2,none⟩ (.slice g8 m8 k8)) (.slice a1 n1 c1) (.slice a2 n2 c2) (.slice g8 m8 k8) ⟨P.orders,P.powers,P.conj.take (i+1)⟩:=
      aI.mono (frame_of (grown_set w8 qb 2 (.slice g8 m8 k8)) (λk hk a=>by
       have br:(w0.heap.size<=k/\k≠qb)\/wr.heap.size<=k:=hk;have h1:=hB.1;have B:=M.size;exact⟨by omega,λe=>by cases e;omega⟩))
     clear f80 f81 f82 f83 f84 f3 g3 g4 f2 f4 r3;go_wp2;go_roundw
     case rel=>exact⟨i+1,_,by go_num,by omega,aH,aV,aJ⟩
     case measure=>simp[intOf];omega
   ·have aW:i=P.conj.length:=by omega
    subst aW;rw[List.take_length] at hX;clear e2;obtain⟨_,_,_,Y,Z,c3,_,rfl,hn2,iK⟩:=hX.sh2;clear hn2 iK;have hz:=z.out.2.1.ext M;obtain⟨h0,h1,B,h3',h4⟩:=id hB;obtain⟨k0,k1,k2,k3,k4⟩:=id hz;have hZ:=hz.all (.slice a1 n1 c1) (.slice a2 n2 c2) (.slice Y Z c3);have hT:=grown_set3 wr (w.heap.size+1) (.slice a1 n1 c1) (.slice a2 n2 c2) (.slice Y Z c3);obtain⟨_,z0,z1,z2,_⟩:=id hZ;have HT:=Lib.hid hT;clear hT hZ;go_wp2;refine bodyPost_ret (v := .agg #[.slice a1 n1 c1,.slice a2 n2 c2,.slice Y Z c3]) (by simp[results,Tryz.results240,go_sem,z0,z1,z2]) rfl ?_;have U:=z.out.2.2.1;exact⟨_,rfl,grown_own (grown_trans aj M) HT.out (λj W a=>by cases W;omega),_,_,_,rfl,hX.mono (frame_of HT.out (λk hk _=>⟨by show w.heap.size<=k;omega,λe=>by cases e;omega⟩))⟩
theorem copyPres_ok (w:World) (p:Value) (P:Pr) (S:Nat->Prop) (N:Nat) (hp:PresP S w p P) (hS:Shp N P) (hN:N<=1000) :
  Calls Tryz.prog 146 #[p] w (Ret w (PresR w.heap.size P)):=by
 obtain⟨pb,po,rfl⟩:=hp.shape;have B:Ext w (w.alloc (.cells #[.slice none 0 0,.slice none 0 0,.slice none 0 0] 28)):=World.grownBy_alloc _ _ _;obtain⟨vo,vp,vc,_,_,y,hc1,hc2,h3⟩:=hp.at;obtain⟨ao,L,ez,_,_⟩:=h3.o.shape;obtain⟨ap,M,hvp,_,_⟩:=Sl.shape h3.p;obtain⟨ac,ah,ey,_,_⟩:=Sl.shape h3.c;subst ez hvp ey;have ai:∀w',Ext w w'->w'.cell? ⟨pb,po,none⟩=some (.slice ao P.orders.length L)/\w'.cell? ⟨pb,po+1,none⟩=some (.slice ap P.powers.length M)/\w'.cell? ⟨pb,po+2,none⟩=some (.slice ac P.conj.length ah):=λw' h=>⟨h.cell y (by simp),h.cell hc1 (by simp),h.cell hc2 (by simp)⟩;have aj:=Box3.made w 28 (.slice none 0 0) (.slice none 0 0) (.slice none 0 0);have O:(w.alloc (.cells #[.slice none 0 0,.slice none 0 0,.slice none 0 0] 28)).heap.size=w.heap.size+1:=by simp
 have hb:=rows_bound hS hN;have hn:=hS.n;have u:=Lib.hid (And.intro ai (And.intro aj (And.intro O (And.intro hb (And.intro hS hn)))));clear ai aj O hb hn y hc1 hc2;go_enter Tryz.func146,Tryz.ntmps146;go_wp2_with fail
 generalize w.alloc (.cells #[.slice none 0 0,.slice none 0 0,.slice none 0 0] 28)=w0 at *;have Q:=h3.ext B;have e0:∀w',Ext w0 w'->w'.cell? ⟨pb,po,none⟩=some (.slice ao P.orders.length L):=λw' h=>(u.out.1 w' (grown_trans B h)).1;have e1:∀w',Ext w0 w'->w'.cell? ⟨pb,po+1,none⟩=some (.slice ap P.powers.length M):=λw' h=>(u.out.1 w' (grown_trans B h)).2.1;go_cut [3] (λqv wx=>OwnCut w0 P qv wx)
 case first=>
  go_region_held3 (λw'=>Ext w0 w') (first|exact grown_drew _ _|assumption|exact grown_trans (by assumption) (World.grownBy_alloc _ _ _)|exact grown_own (by assumption) (grown_set3 _ _ _ _ _) (λj R a=>by cases R;first|(have:=eu.size;omega)|(have:=hgB.size;omega)|(simp at a)))
   (first
    | (go_at_call 237;refine Calls.mono (Calls.rel2 (w0:=w0) (by assumption) (copyRows_ok _ _ P.powers S (Rows2.ext Q.p (by assumption)) u.out.2.2.2.1.1 u.out.2.2.2.1.2.1)) ?_;rintro eB U ⟨vB,rfl,hgB,l,hsB,H⟩;obtain⟨aB,m,iI,_,_⟩:=SlD.shape (H.toD (by have:=u.out.2.2.2.1.2.1;omega));subst iI;(try have A:=Box3.ext A l);(first|(have A:Box3 _ w0.heap.size _ _ _:=Box3.ext (Box3.made w0.drew _ _ _ _) l)|(have A:=Box3.ext (Box3.made _ _ _ _ _) l)|skip);(try obtain⟨f0,f1,f2,f3,f4⟩:=id A))
    | (go_at_call 183;refine Calls.mono (Calls.rel2 (w0:=w0) (by assumption) (clone_ok _ _ P.orders S (Ints.ext Q.o (by assumption)) (by have:=u.out.2.2.2.2.2;omega))) ?_;rintro eA F ⟨vA,rfl,eu,C,hsA,I⟩;obtain⟨aA,q,iJ,_⟩:=(I.ints (by have:=u.out.2.2.2.2.2;omega)).shape;subst iJ;(try have A:=Box3.ext A C);(first|(have A:Box3 _ w0.heap.size _ _ _:=Box3.ext (Box3.made w0.drew _ _ _ _) C)|(have A:=Box3.ext (Box3.made _ _ _ _ _) C)|skip);(try obtain⟨f0,f1,f2,f3,f4⟩:=id A)))
  all_goals (try go_wp2_with fail)
  all_goals go_meet
  all_goals
   have be:=eu.size;have bf:=l.size;have bg:=u.out.2.2.2.2.2;have bh:=u.out.2.2.2.1.2.1
  ·have D:=Box3.made U 28 (.slice aA P.orders.length q) (.slice aB P.powers.length m) (.slice none 0 0)
   have b:=World.grownBy_alloc U (.cells #[.slice aA P.orders.length q,.slice aB P.powers.length m,.slice none 0 0] 28) none
   refine ownCut_mk (a1:=w0.heap.size) (a2:=F.heap.size) (b1:=F.heap.size) (b2:=U.heap.size) (by omega) (grown_trans (by assumption) b) D
       (rdOwn.mono (OwnIn.of I (by omega) (λk h1 z=>⟨h1,z⟩)) (λk hk a=>⟨hk,by have:=b.size;omega,(b.block k (by omega) (by simp)).trans (l.block k a (by simp))⟩))
       (rdRowsI.mono (SlI.of H (by omega) (λk h1 z=>⟨h1,z⟩)) (λk hk a=>⟨hk,by have:=b.size;omega,b.block k a (by simp)⟩)) (by omega) (by omega) (by omega) (by omega) (by omega)
  ·have D:=A.all (.slice aA P.orders.length q) (.slice aB P.powers.length m) (.slice none 0 0)
   have b:=grown_set3 U F.heap.size (.slice aA P.orders.length q) (.slice aB P.powers.length m) (.slice none 0 0);have aM:=grown_trans (World.grownBy_alloc F (.cells #[.slice none 0 0,.slice none 0 0,.slice none 0 0] 28) none) l;have aN:(F.alloc (.cells #[.slice none 0 0,.slice none 0 0,.slice none 0 0] 28)).heap.size=F.heap.size+1:=by simp
   refine ownCut_mk (a1:=w0.heap.size) (a2:=F.heap.size) (b1:=F.heap.size+1) (b2:=U.heap.size) (by omega) (by assumption) D
       (rdOwn.mono (OwnIn.of I (by omega) (λk h1 z=>⟨h1,z⟩)) (λk hk a=>⟨hk,by have:=b.size;omega,(b.block k (by omega) (λe=>by cases e;omega)).trans (aM.block k (by omega) (by simp))⟩))
       (rdRowsI.mono (SlI.of H (by omega) (λk h1 z=>⟨by rw[<-aN];exact h1,z⟩)) (λk hk a=>⟨hk,by have:=b.size;omega,b.block k a (λe=>by cases e;omega)⟩)) (by omega) (by omega) (by omega) (by omega) (by omega)
  ·have D:=A.all (.slice aA P.orders.length q) (.slice aB P.powers.length m) (.slice none 0 0)
   have b:=grown_set3 U w0.heap.size (.slice aA P.orders.length q) (.slice aB P.powers.length m) (.slice none 0 0);have bi:=A.1
   refine ownCut_mk (a1:=w0.heap.size+1) (a2:=F.heap.size) (b1:=F.heap.size) (b2:=U.heap.size) (by omega) (by assumption) D
       (rdOwn.mono (OwnIn.of I (by omega) (λk h1 z=>⟨by simpa using h1,z⟩)) (λk hk a=>⟨hk,by have:=b.size;omega,(b.block k (by omega) (λe=>by cases e;omega)).trans (l.block k a (by simp))⟩))
       (rdRowsI.mono (SlI.of H (by omega) (λk h1 z=>⟨h1,z⟩)) (λk hk a=>⟨hk,by have:=b.size;omega,b.block k a (λe=>by cases e;omega)⟩)) (by omega) (by omega) (by omega) (by omega) (by omega)
 case rest=>
  obtain⟨qb,a1,n1,c1,a2,n2,c2,rfl,hqb,V,hB1,hX1⟩:=hcut;have aO:=(u.out.1 wc (grown_trans B V)).2.2;go_wp2;clear e0 e1 aO
  go_loopw [22] (λiv wr=>∃(i:Nat) (vc:Value),iv=.int .i64 i/\i<=P.conj.length/\Ext w0 wr/\Box3 wr qb (.slice a1 n1 c1) (.slice a2 n2 c2) vc /\
   PresX (λk=>w0.heap.size<=k/\k≠qb) wr (.slice a1 n1 c1) (.slice a2 n2 c2) vc ⟨P.orders,P.powers,P.conj.take i⟩) (λiv _=>P.conj.length-(intOf iv).toNat)
  case atStart=>exact⟨0,_,rfl,by omega,V,hB1,hX1⟩
  case round=>
   clear hB1 hX1 V;obtain⟨i,vc,rfl,hi,hg,hB,hX⟩:=hrel;by_cases a:i<P.conj.length
   ·have aY:(i:Int)<P.conj.length:=by omega
    obtain⟨Fo,Fp,Fc,hP⟩:=hX.part;obtain⟨_,_,_,W,X,c3,_,rfl,_,iK⟩:=hX.sh2
    have al:(Value.slice W X c3).ownBlock≠some qb:=by
     obtain⟨_,_,_,_,_,q1,_⟩:=hP.c;exact λe=>(hP.dc _ (q1 _ e)).2 rfl
    obtain⟨bc,oc,ag,am,rfl,_,mX,y,iC⟩:=Rows3.at Q.c i a;have an:=y;have Y:=Rows2.ext iC hg;clear iC
    have aq:∀k,(Value.slice W X c3).ownBlock=some k->w0.heap.size<=k:=by
     obtain⟨_,_,_,_,_,q1,_⟩:=hP.c;exact λk e=>(hP.dc _ (q1 _ e)).1
    have Z:=u.out.2.2.2.1.2.2.2 i a;have r:=take_succ_gt P.conj i a;have ar:(P.conj.take i).length<=1000000:=by rw[List.length_take];have:=u.out.2.2.2.1.2.2.1;omega
    obtain⟨G,hG⟩:∃G,G=gt P.conj i:=⟨_,rfl⟩;rw[<-hG] at Y Z r an y;have J:=Lib.hid (And.intro r (And.intro ar (And.intro al (And.intro Z (And.intro Y aq)))));clear r ar Z Y hG iK aq al an;have r2:∀w',Ext w0 w'->w'.cell? ⟨bc,oc+i,none⟩=some (.slice ag G.length am):=λw' h=>h.cell y (by simp);have r3:∀w',Ext wr w'->w'.cell? ⟨qb,2,none⟩=some (.slice W X c3):=λw' h=>(hB.ext h).2.2.2.1;have f3:=r3 wr.drew (grown_drew _ _);have f2:=r2 wr hg;go_wp2;clear f2 r2
    go_region_law (first
      | (go_simp;go_at_call 237;refine Calls.mono (copyRows_ok _ _ G S (Rows2.ext J.out.2.2.2.2.1 (grown_drew _ _)) J.out.2.2.2.1.1 J.out.2.2.2.1.2) ?_;rintro eG wG ⟨vG,rfl,aS,au⟩;obtain⟨aG,av,je,_,_⟩:=SlD.shape (au.toD (by have:=J.out.2.2.2.1.2;omega));subst je;have E:Ext wr wG:=grown_trans (grown_drew _ _) aS;have g3:=r3 wG E;have g4:=r3 (wG.alloc (.cells #[.slice aG G.length av] 25)) (grown_trans E (World.grownBy_alloc _ _ _)))
      | (refine step_app_I (rdI rdOwn) 26 (.slice none 0 0) 24 und_rows3 Tryz.infoRows rfl (by decide) (by rfl) _ _ (by rfl) Fc wr wG _ _ (P.conj.take i) G (by rfl) hP.c E (SlI.of au (by have:=J.out.2.2.2.1.2;omega) (λk h _=>h)) (by rfl) (by rfl) J.out.2.1 ?_;intro v8 w8 aw K bo;obtain⟨g8,m8,k8,rfl,fU⟩:=SlI.sl aw;clear fU;have aC:=Box3.keep hB K.size (K.block _ hB.1 (λe=>J.out.2.2.1 e.symm));have aD:Ext w0 w8:=grown_own hg K (λj R a=>by have:=J.out.2.2.2.2.2 _ R;omega);obtain⟨f80,f81,f82,f83,f84⟩:=id aC))
    all_goals
     have aE:Ext w0 (w8.setCell ⟨qb,2,none⟩ (.slice g8 m8 k8)):=grown_own aD (grown_set1 _ _ _ _) (λj R a=>by cases R;omega);have aT:=(aC.put (.slice g8 m8 k8)).2.2;have aF:=hP.newC aw K;rw[<-J.out.1] at aF
     have aH:PresX (λk=>w0.heap.size<=k/\k≠qb) (w8.setCell ⟨qb,2,none⟩ (.slice g8 m8 k8)) (.slice a1 n1 c1) (.slice a2 n2 c2) (.slice g8 m8 k8) ⟨P.orders,P.powers,P.conj.take (i+1)⟩:=
      aF.mono (frame_of (grown_set w8 qb 2 (.slice g8 m8 k8)) (λk hk a=>by
       have bp:(w0.heap.size<=k/\k≠qb)\/wr.heap.size<=k:=hk;have h1:=hB.1;have z:=hg.size;exact⟨by omega,λe=>by cases e;omega⟩))
     clear f80 f81 f82 f83 f84 f3 g3 g4 r3;go_wp2;go_roundw
     case rel=>exact⟨i+1,_,by go_num,by omega,aE,aT,aH⟩
     case measure=>simp[intOf];omega
   ·have aU:i=P.conj.length:=by omega
    subst aU;rw[List.take_length] at hX;obtain⟨_,_,_,W,X,c3,_,rfl,hn2,iK⟩:=hX.sh2;clear hn2 iK;have hz:=u.out.2.1.ext hg;obtain⟨h0,h1,z,h3',h4⟩:=id hB;obtain⟨k0,k1,k2,k3,k4⟩:=id hz;have hZ:=hz.all (.slice a1 n1 c1) (.slice a2 n2 c2) (.slice W X c3);have hT:=grown_set3 wr w.heap.size (.slice a1 n1 c1) (.slice a2 n2 c2) (.slice W X c3);obtain⟨_,z0,z1,z2,_⟩:=id hZ;have HT:=Lib.hid hT;clear hT hZ;go_wp2;refine bodyPost_ret (v := .agg #[.slice a1 n1 c1,.slice a2 n2 c2,.slice W X c3]) (by simp[results,Tryz.results146,go_sem,z0,z1,z2]) rfl ?_;have O:=u.out.2.2.1;exact⟨_,rfl,grown_own (grown_trans B hg) HT.out (λj R a=>by cases R;omega),_,_,_,rfl,hX.mono (frame_of HT.out (λk hk _=>⟨by show w.heap.size<=k;omega,λe=>by cases e;omega⟩))⟩
end Go.Proofs.YtldheeicjnncoaaGreat
namespace Go.Proofs.YtldheeicjnncoaaGreat
open Go.RowKit
theorem PresX.sl {F:Nat->Prop}{w:World}{x y z:Value}{P:Pr}(h:PresX F w x y z P):∃(a1:Option Addr) (i c1:Nat) (a2:Option Addr) (j c2:Nat) (b:Option Addr) (k c3:Nat),x=.slice a1 i c1/\y=.slice a2 j c2/\z=.slice b k c3:=by
 obtain⟨a,c,e,_⟩:=h.p3.o.shape;obtain⟨a2,c2,e2,_⟩:=Sl.shape h.p3.p;obtain⟨b,c3,e3,_⟩:=Sl.shape h.p3.c;exact⟨_,_,_,_,_,_,_,_,_,e,e2,e3⟩
theorem RowsO.shapeC {B:Nat}{w:World}{v:Value}{L:List (List Int)}(h:RowsO B w v L) (b:L.length<=1000000):∃a c,v=.slice a L.length c:=by
 obtain⟨a,c,hv,_,_⟩:=SlD.shape (h.toD (by omega));exact⟨a,c,hv⟩
theorem iOrder_ok (P:Pr) (hr:rconsB P=true) (w:World) (pv D:Value) (U:List (List Int)) (I E:Nat->Prop) (r:PresV I w pv P) (k:Rows2 E w D U) (hU:SubB P U) :
  Calls Tryz.prog 36 #[pv,D] w (Ret w λ_ v=>v=.tuple #[.int .i64 (prodU P U U.length),.int .i64 0]):=by
 have G:=grp_of_r hr;have J:=G.v.n6;obtain⟨vo,vp,vc,rfl,h3⟩:=r;have l:=PresP.box h3 28;have m:Ext w (w.alloc (.cells #[vo,vp,vc] 28)):=World.grownBy_alloc _ _ _;have i:(w.alloc (.cells #[vo,vp,vc] 28)).heap.size=w.heap.size+1:=by simp
 have p:=Rows2.ext k m;obtain⟨K,q,rfl,_,_⟩:=Sl.shape k;have j:Ext (w.alloc (.cells #[vo,vp,vc] 28)) ((w.alloc (.cells #[vo,vp,vc] 28)).alloc (.cells #[.slice K U.length q] 25)):=World.grownBy_alloc _ _ _;have F:=rows3One p;have a:=areSubgroups_ok P _ _ _ [U] Any Any (l.ext j) F;rw[i] at a;clear F k;have H:U.length<=P.orders.length:=G.sub_len hU;have y:=Lib.hid (And.intro hr (And.intro hU ((trivial:True))));clear hr hU;go_enter Tryz.func36,Tryz.ntmps36;go_wp2_with fail
 refine Calls.mono a ?_;rintro M L ⟨v1,rfl,eu,r1,rfl,hr1⟩;clear a;obtain rfl:r1=true:=hr1.2 (by have:=y.out;simp only[List.mem_cons,List.mem_nil_iff,or_false];exact⟨this.1,λu k=>by subst k;exact this.2.1⟩);clear hr1;have b:=grown_trans j eu;have N:=Lib.hid i;clear i;generalize z:(w.alloc (.cells #[vo,vp,vc] 28))=w0 at *;clear z j eu;have A:=l.ext b;have B:=Rows2.ext p b;have e:=G.seq_facts (G.subB y.out.2.1);rw[<-y.out.2.1.2] at e;have HF:=Lib.hid e;clear e;go_wp2_with fail
 refine Calls.mono (sizeOf_ok P G.v L _ _ U Any E A B HF.out.1 (by omega)) ?_;rintro O Q ⟨v2,rfl,C,rfl⟩;go_wp2;go_ret2
 exact⟨_,rfl,grown_trans m (grown_trans b C),rfl⟩
theorem indexI_ok (l:List Int) (x:Int) (w:World) (v:Value) (S:Nat->Prop) (z:Ints S w v l) :
  Calls Tryz.prog 331 #[v,.int .i64 x] w (Ret w λ_ r=>∃k:Int,r=.int .i64 k/\(0<=k↔x∈l)):=by
 obtain⟨a,c,rfl,_,_⟩:=z.shape;have I:=Lib.hid z;clear z;go_enter Tryz.func331,Tryz.ntmps331;go_wp2;go_loopw [8] (λA wr=>∃i:Nat,A=.int .i64 i/\i<=l.length/\Ext w wr/\Hid (∀j,j<i->gt l j≠x)) (λA _=>l.length-(intOf A).toNat)
 case atStart=>exact⟨0,by go_num,by omega,Ext.refl _,Lib.hid (λj B=>by omega)⟩
 case round=>
  obtain⟨i,rfl,hi,hg,hN⟩:=hrel;by_cases p:i<l.length
  ·have H:(i:Int)<l.length:=by omega
   obtain⟨b,o,hab,_,_,hc⟩:=Ints.at I.out i p;subst hab;have C:=hg.cell hc (by simp);by_cases m:gt l i=x
   ·have q:x∈l:=by rw[<-m];exact gt_mem p
    rw[m] at C;have D:=Lib.hid q;clear q m hc;go_wp2;go_ret;exact⟨_,rfl,hg,(i:Int),rfl,⟨λ_=>D.out,λ_=>by omega⟩⟩
   ·have E:(x == gt l i)=false:=by
     have:¬x=gt l i:=λe=>m e.symm;simpa using this
    have u:∀j,j<i+1->gt l j≠x:=λj B=>by
     rcases Nat.lt_succ_iff_lt_or_eq.1 B with h|h
     ·exact hN.out j h
     ·rw[h];exact m
    have F:=Lib.hid u;clear u m hc hN;generalize gt l i=y at *;go_wp2;clear E;go_roundw
    case rel=>exact⟨i+1,by go_num,by omega,hg,F⟩
    case measure=>simp[intOf];omega
  ·have G:i=l.length:=by omega
   have q:¬x∈l:=λh=>by
    obtain⟨j,B,e⟩:=mem_gt h;exact hN.out j (by omega) e
   have J:¬(i:Int)<l.length:=by omega
   have D:=Lib.hid q;clear q G hN;go_wp2;go_ret;exact⟨_,rfl,hg,-1,rfl,⟨λh=>by omega,λh=>absurd h D.out⟩⟩
theorem containsI_ok (l:List Int) (x:Int) (w:World) (v:Value) (S:Nat->Prop) (b:Ints S w v l) :
  Calls Tryz.prog 282 #[v,.int .i64 x] w (Ret w λ_ r=>r=.bool (decide (x∈l))):=by
 have hi:=indexI_ok l x w v S b;obtain⟨a,c,rfl,_,_⟩:=b.shape;go_enter Tryz.func282,Tryz.ntmps282;go_wp2_with fail
 refine Calls.mono hi ?_;rintro i j ⟨v1,rfl,hg1,k,rfl,hk⟩;have e:=Lib.hid hk;clear hk hi;go_wp2;go_ret;refine⟨_,rfl,hg1,?_⟩;show Value.bool (decide (0<=k))=_
 rw[decide_eq_decide.2 e.out]
def idxV (l:List Nat):List Value:=l.map (λi:Nat=>Value.int .i64 (i:Int))
def frT (U:List (List Int)) (k:Nat):List Nat:=(List.range k).filter (λi => !(U.map dep).contains i)
theorem frT_yes {U:List (List Int)}{k:Nat}(h:¬k∈U.map dep):frT U (k+1)=frT U k++[k]:=by
 unfold frT;rw[List.range_succ,List.filter_append,List.filter_cons_of_pos (by simpa using h),List.filter_nil]
theorem frT_no {U:List (List Int)}{k:Nat}(h:k∈U.map dep):frT U (k+1)=frT U k:=by
 unfold frT;rw[List.range_succ,List.filter_append,List.filter_cons_of_neg (by simpa using h),List.filter_nil,List.append_nil]
theorem frT_len (U:List (List Int)) (k:Nat):(frT U k).length<=k:=by
 unfold frT;exact Nat.le_trans (List.length_filter_le _ _) (by rw[List.length_range];exact Nat.le_refl _)
theorem depV_map (U:List (List Int)):depV U=(U.map (λz=>(dep z:Int))).map (Value.int .i64):=by unfold depV;rw[List.map_map];rfl
theorem dep_mem {U:List (List Int)}{k:Nat} : ((k:Nat):Int)∈U.map (λz=>(dep z:Int))↔k∈U.map dep:=by
 rw[List.mem_map,List.mem_map];constructor
 ·rintro⟨z,hz,e⟩;exact⟨z,hz,by omega⟩
 ·rintro⟨z,hz,e⟩;exact⟨z,hz,by rw[e]⟩
theorem otherIndices_ok (P:Pr) (F:P.orders.length<=6) (w:World) (p uv:Value) (U:List (List Int)) (Sp Su:Nat->Prop) (G:PresP Sp w p P) (hu:Rows2 Su w uv U) (hU:∀z∈U,dep z<z.length) (H:U.length<=6) :
  Calls Tryz.prog 194 #[p,uv] w (Ret w λw' r=>OwnV w.heap.size 3 w' r (idxV (frI P U))):=by
 obtain⟨pb,po,rfl⟩:=G.shape;have ak:=G;obtain⟨ao,co,dM,hoi⟩:=G.ordAt;obtain⟨au,capu,rfl,_,_⟩:=Sl.shape hu;go_enter Tryz.func194,Tryz.ntmps194;go_wp2_with fail
 refine Calls.mono (pivots_ok _ U w Su hu hU (by omega)) ?_;rintro e1 w1 ⟨v1,rfl,hg1,hO⟩;have q:(depV U).length<=6:=by unfold depV;rw[List.length_map];exact H
 rw[depV_map] at hO q;have hI:=ints_of_ownV (S:=Any) hO (by rw[List.length_map];rw[List.length_map] at q;omega) (λ_ _=>trivial);obtain⟨l,u⟩:∃l,l=U.map (λz=>(dep z:Int)):=⟨_,rfl⟩;rw[<-u] at hI;obtain⟨da,dc,rfl,_,_⟩:=hI.shape;have B:∀w',Ext w1 w'->Ints Any w' (.slice da l.length dc) l:=λw' h=>Ints.ext hI h;have E:=Lib.hid (And.intro u B);clear u B hI hO q;have I:=hg1.cell dM (by simp);obtain⟨N,J⟩:∃N,N=P.orders.length:=⟨_,rfl⟩;rw[<-J] at F I;have HN:=Lib.hid J;clear J;obtain⟨y,rfl⟩:∃y:World,y=w1:=⟨_,rfl⟩;go_wp2;go_loopw [6,15] (λov K wr=>∃(k:Nat) (v4:Value),v4=ov/\K=.int .i64 k/\k<=N/\Ext y wr/\OwnV y.heap.size 3 wr v4 (idxV (frT U k))) (λ_ K _=>N-(intOf K).toNat)
 case atStart=>exact⟨0,_,rfl,rfl,by omega,Ext.refl _,World.ownsRow_nil _ _ _ _⟩
 case round=>
  obtain⟨k,v4,rfl,rfl,hk,C,hO⟩:=hrel;by_cases L:k<N
  ·have ag:(k:Int)<N:=by omega
   have M:=frT_len U k;have O:(idxV (frT U k)).length<=1000000:=by unfold idxV;rw[List.length_map];omega
   by_cases A:k∈U.map dep
   ·have a:=frT_no A
    have D:decide (((k:Nat):Int)∈l)=true:=by rw[E.out.1];exact decide_eq_true (dep_mem.2 A)
    have Q:=Lib.hid a;clear a A;go_wp2_with fail
    refine Calls.mono (containsI_ok l (k:Int) wr _ Any (E.out.2 wr C)) ?_;rintro e2 w2 ⟨v2,rfl,hg2,rfl⟩;rw[D];clear D;have e:=World.ownsRow.kept hO hg2 (by cases hv:v4.ownBlock<;>simp);have i:=grown_trans C hg2;go_wp2;go_roundw
    case rel=>exact⟨k+1,v4,rfl,by go_num,by omega,i,by rw[Q.out];exact e⟩
    case measure=>simp[intOf];omega
   ·have a:idxV (frT U (k+1))=idxV (frT U k)++[.int .i64 (k:Int)]:=by rw[frT_yes A];unfold idxV;rw[List.map_append];rfl
    have D:decide (((k:Nat):Int)∈l)=false:=by rw[E.out.1];exact decide_eq_false (λh=>A (dep_mem.1 h))
    have Q:=Lib.hid a;clear a A;go_wp2_with fail
    refine Calls.mono (containsI_ok l (k:Int) wr _ Any (E.out.2 wr C)) ?_;rintro e2 w2 ⟨v2,rfl,hg2,rfl⟩;rw[D];clear D;have e:=World.ownsRow.kept hO hg2 (by cases hv:v4.ownBlock<;>simp);have i:=grown_trans C hg2;go_wp2_with (first|(at_builtin;refine wp_app_val 170 3 (.int .i64 0) 8 und_intsG Tryz.infoIntG rfl (by decide) rfl _ _ rfl y.heap.size v4 _ (idxV (frT U k)) rfl w2 e rfl rfl rfl O i.size ?_;intro v5 w5 R V)|fail)
    have W:Ext y w5:=grown_own i V (λj hj L=>by have:=(e.lt j hj).1;omega);go_roundw
    case rel=>exact⟨k+1,v5,rfl,by go_num,by omega,W,by rw[Q.out];exact R⟩
    case measure=>simp[intOf];omega
  ·have X:k=N:=by omega
   subst X;have he:frT U k=frI P U:=by unfold frT frI;rw[HN.out]
   have M:=frT_len U k
   have Y:∃Z b,v4=.slice Z (frT U k).length b:=by
    rcases hO.form with⟨h1,h2⟩|⟨g,cp,h1,_⟩
    ·have h3:(frT U k).length=0:=by unfold idxV at h2;rw[List.map_eq_nil_iff] at h2;rw[h2];rfl
     exact⟨none,0,by rw[h1,h3]⟩
    ·exact⟨_,_,by rw[h1];unfold idxV;rw[List.length_map]⟩
   obtain⟨Z,b,rfl⟩:=Y;have ab:=grown_trans hg1 C;have m:OwnV w.heap.size 3 wr (.slice Z (frT U k).length b) (idxV (frI P U)):=by rw[<-he];exact hO.weak hg1.size
   have HF:=Lib.hid m;clear m he hO;go_wp2;go_ret;exact⟨_,rfl,ab,HF.out⟩
theorem sub_dep {P:Pr}(G:Grp P) {U:List (List Int)}(hU:SubB P U):SeqOk P U/\U.length<=6/\∀z∈U,dep z<z.length:=by
 have h1:=(G.seq_facts (G.subB hU)).1;rw[<-hU.2] at h1;have b:=G.sub_len hU;have e:=G.v.n6;exact⟨h1,by omega,λz a=>by have:=h1.1 z a;rw[this.1.1];exact this.2.1⟩
theorem fr_len (P:Pr) (U:List (List Int)):(frI P U).length<=P.orders.length:=by
 have:=frT_len U P.orders.length;have e:frT U P.orders.length=frI P U:=rfl;rw[e] at this;exact this
theorem idx_ints {B:Nat}{w:World}{v:Value}{l:List Nat}(h:OwnV B 3 w v (idxV l)) (j:l.length<=100000):∃a c,v=.slice a l.length c/\Ints (From B) w (.slice a l.length c) (l.map (λi:Nat=>(i:Int))):=by
 have e:idxV l=(l.map (λi:Nat=>(i:Int))).map (Value.int .i64):=by unfold idxV;rw[List.map_map];rfl
 have hI:Ints (From B) w v (l.map (λi:Nat=>(i:Int))):=by
  rw[e] at h;exact ints_of_ownV h (by rw[List.length_map];omega) (λk hk=>(h.lt k hk).1)
 obtain⟨a,c,b,_,_⟩:=hI.shape;rw[List.length_map] at b;subst b;exact⟨a,c,rfl,hI⟩
theorem project_ok (P:Pr) (hr:rconsB P=true) (w:World) (p uv xv:Value) (U:List (List Int)) (X:List Int) (Sp Su Sx:Nat->Prop) (hp:PresP Sp w p P) (hu:Rows2 Su w uv U) (hU:SubB P U) (hx:Ints Sx w xv X) (hX:Vec P.orders X) :
  Calls Tryz.prog 129 #[p,uv,xv] w (Ret w λw' v=>Own w.heap.size w' v (prjV P U X)):=by
 have G:=grp_of_r hr;have ap:=G.v.n6;obtain⟨hS,aq,Q⟩:=sub_dep G hU;have ar:=fr_len P U;obtain⟨pb,po,rfl⟩:=hp.shape;obtain⟨au,capu,rfl,_,_⟩:=Sl.shape hu;obtain⟨ax,capx,rfl,_,_⟩:=hx.shape;have M:=Lib.hid (And.intro hU (And.intro Q hX));clear hU Q hX;go_enter Tryz.func129,Tryz.ntmps129;go_wp2_with fail
 refine Calls.mono (representative_ok P G w _ _ _ U X Sp Su Sx hp hu hS (by omega) hx M.out.2.2) ?_;rintro e1 u ⟨v1,rfl,B,Y,hO,hR⟩
 have R:crV P U X=Y:=by
  have e:cseq P (gU P U)=U:=M.out.1.2.symm;exact cr_ok ⟨⟨hr,M.out.1⟩,M.out.2.2⟩ (G.rep_of_to M.out.1 (by rw[e];exact hR))
 have av:Y.length=P.orders.length:=hR.vec.1;have F:=hO.ints (by omega);obtain⟨ay,cy,rfl,_,_⟩:=F.shape;have HY:=Lib.hid (And.intro R (And.intro av F));clear R F hO hR hS;have y:Ext u (u.alloc (.cells #[] 2)):=World.grownBy_alloc _ _ _;have H:Own u.heap.size (u.alloc (.cells #[] 2)) (.slice (some ⟨u.heap.size,0,none⟩) 0 0) []:=World.ownsRow_lit u #[] 0 (Nat.le_refl _) (by decide) rfl;have q:=grown_trans B y;go_wp2_with fail
 generalize u.alloc (.cells #[] 2)=w2 at *;refine Calls.mono (otherIndices_ok P ap w2 _ _ U Sp Su (hp.ext q) (Rows2.ext hu q) M.out.2.1 aq) ?_;rintro e3 N ⟨iv,rfl,l,gB⟩;obtain⟨ai,ci,rfl,hI⟩:=idx_ints gB (by omega);obtain⟨m,hm⟩:∃m,m=(frI P U).length:=⟨_,rfl⟩;have z:Own w.heap.size N (.slice (some ⟨u.heap.size,0,none⟩) 0 0) []:=(H.ext0 l).weak B.size;have D:=grown_trans q l;have aA:=B.size;have aB:u.heap.size+1<=w2.heap.size:=by have:=H.lt u.heap.size rfl;omega
 have aV:=l.size;have S:=Ints.ext HY.out.2.2 (grown_trans y l);have V:Ints (λk=>k<u.heap.size) N (.slice ay Y.length cy) Y:=Ints.sub (Ints.mono (Ints.sub HY.out.2.2 (λk _ a=>a)) (λk hk a=>⟨hk,Nat.lt_of_lt_of_le a (grown_trans y l).size,(grown_trans y l).block k a (by simp)⟩)) (λk hk _=>hk);obtain⟨I,J⟩:∃I,I=u.heap.size:=⟨_,rfl⟩;have W:=Lib.hid (And.intro hI (And.intro hm V));clear hI S V gB H;rw[<-J] at z W aA aB;have Z:=Lib.hid J;clear J;rw[<-hm] at ar ⊢;clear hm y q l B;go_wp2;go_loopw [8,20] (λov kv wr=>∃(k:Nat) (O:Value),O=ov/\kv=.int .i64 (k:Int)/\k<=m/\N.grownBy wr (some I)/\(∀b,O.ownBlock=some b->b=I\/N.heap.size<=b)/\Own w.heap.size wr O ((prjV P U X).take k)) (λ_ kv _=>m-(intOf kv).toNat)
 case atStart=>exact⟨0,_,rfl,rfl,by omega,grown_refl _ _,λb hb=>(.inl ((Option.some.inj hb).symm.trans Z.out.symm)),by have h:=z;rw[Z.out] at h;exact h⟩
 case round=>
  clear z;obtain⟨k,O,rfl,rfl,hk,E,ab,hO⟩:=hrel;have ac:Ext w wr:=grown_own D E (λj hj a=>by have:=Option.some.inj hj;omega);have ae:(prjV P U X).length=m:=by unfold prjV;rw[List.length_map,W.out.2.1]
  by_cases a:k<m
  ·have aO:(k:Int)<m:=by omega
   have A:k<(frI P U).length:=by rw[<-W.out.2.1];exact a
   obtain⟨bi,oi,hai,_,_,af⟩:=Ints.at (Ints.mono W.out.1 (frame_of E (λk hk _=>⟨hk,λe=>by have:=Option.some.inj e;have hk:w2.heap.size<=k:=hk;omega⟩))) k (by rw[List.length_map];exact A);subst hai;rw[gt_map _ _ _ A] at af
   have C:(prjV P U X).take (k+1)=(prjV P U X).take k++[gt Y (gt (frI P U) k)]:=by
    rw[take_succ_gt _ k (by rw[ae];exact a),gt_prj A,HY.out.1]
   have K:=(fr_at A).1;obtain⟨i,hi⟩:∃i,i=gt (frI P U) k:=⟨_,rfl⟩;rw[<-hi] at af C K;have ag:i<Y.length:=by rw[HY.out.2.1];exact K
   obtain⟨aX,oy,jf,_,_,aD⟩:=Ints.at (Ints.mono W.out.2.2 (frame_of E (λk hk _=>⟨hk,λe=>by have:=Option.some.inj e;have hk:k<I:=hk;omega⟩))) i ag;subst jf;have aQ:(i:Int)<Y.length:=by omega
   have ah:((prjV P U X).take k).length<=1000000:=by rw[List.length_take];omega
   have aj:w.heap.size<=wr.heap.size:=by have:=D.size;have:=E.size;omega
   obtain⟨c,hc⟩:∃c,c=gt Y i:=⟨_,rfl⟩;rw[<-hc] at C aD;have HS:=Lib.hid (And.intro C (And.intro ah aj));clear C ah aj ae hi A hc K ag;go_wp2_with (first|(at_builtin;refine wp_app_intb rfl _ _ rfl w.heap.size O _ c rfl wr hO rfl rfl HS.out.2.1 HS.out.2.2 ?_;intro v9 w9 aF r aG)|fail)
   have aH:N.grownBy w9 (some I):=by
    rcases L:O.ownBlock with _|b
    ·rw[L] at r;exact grown_own E r (λj hj a=>by cases hj)
    ·rw [L] at r
     rcases ab b L with e|e
     ·rw[e] at r;exact grown_trans E r
     ·exact grown_own E r (λj hj a=>by have:=Option.some.inj hj;omega)
   have aI:∀b,v9.ownBlock=some b->b=I\/N.heap.size<=b:=λb hb=>by
    rcases aG with e|e
    ·rw[e] at hb;exact ab b hb
    ·exact .inr (Nat.le_trans E.size (e b hb))
   go_roundw
   case rel=>exact⟨k+1,v9,rfl,by go_num,by omega,aH,aI,by rw[HS.out.1];exact aF⟩
   case measure=>simp[intOf];omega
  ·have aZ:k=m:=by omega
   have he:(prjV P U X).take k=prjV P U X:=List.take_of_length_le (by omega);rw[he] at hO;go_wp2;go_ret;exact⟨_,rfl,ac,hO⟩
theorem step_app_intb {ops:Array Oper}{o:Oper}{a:Act}{K:Act->World->Prop}{Q:Exit->Act->World->Prop}{r:Prop}{w:World}(m:o.guard=none) (s x:Operand)
  (u:o.op=Op.call { callee:=Callee.builtin Builtin.append,args := #[s,x],argTypes := #[24,24] }) (B:Nat) (v:Value) (l:List Int) (y:Int) (z:a.eval s=v) (b:World) (i:Own B b v l)
  (A:w=b.alloc (.cells #[.int .i64 y] 2)) (hx:a.eval x=.slice (some ⟨b.heap.size,0,none⟩) 1 1) (q:l.length<=1000000) (p:B<=b.heap.size)
  (h:∀v' w',Own B w' v' (l++[y])->b.grownBy w' v.ownBlock->(v'.ownBlock=v.ownBlock\/∀k,v'.ownBlock=some k->b.heap.size<=k)->K (a.put o.dst v') w') :
  if Region.wanted o (yielded ops a.tmps)=true then Oper.wp Tryz.prog o a w K Q else r:=by
 subst A;have e:Ext b (b.alloc (.cells #[.int .i64 y] 2)):=World.grownBy_alloc _ _ _;refine step_app 24 2 (.int .i64 0) 8 und_ints Tryz.infoInt rfl (by decide) m s x u B v (l.map (Value.int .i64)) z (i.ext0 e).v b.heap.size (.int .i64 y) hx (by rw[World.cell?_alloc_at _ _ _ _ rfl];rfl) rfl (by simpa using (by omega:l.length<=2000000)) (by have:=e.size;omega) ?_;intro v' w' h1 C j;refine h v' w' (Own.of (by rw[List.map_append];exact h1)) (grown_trans (grown_of_ext _ e) C) ?_;rcases j with j|j
 ·exact .inl j
 ·refine .inr (λk hk => ?_)
  rw[j] at hk;have:=Option.some.inj hk;simp at this
  omega
theorem Part3.newO {F:Nat->Prop}{w w':World}{vo vp vc v':Value}{P:Pr}{Fo Fp Fc:Nat->Prop}(h:Part3 F w vo vp vc P Fo Fp Fc) {L:List Int}(j:OwnIn (λk=>Fo k\/w.heap.size<=k) w' v' L) (b:w.grownBy w' vo.ownBlock) :
  PresX (λk=>F k\/w.heap.size<=k) w' v' vp vc { P with orders:=L } :=by
 have i:∀k,vo.ownBlock=some k->Fo k:=h.o.2.1
 refine ⟨λk=>Fo k/\k<w.heap.size\/w.heap.size<=k,λk=>Fp k/\k<w.heap.size,λk=>Fc k/\k<w.heap.size,
  rdOwn.mono j (λk hk a=>⟨?_,a,rfl⟩),
  rdRowsI.mono h.p (λk hk a=>⟨⟨hk,a⟩,Nat.lt_of_lt_of_le a b.size,b.block k a (λe=>(h.do_ k (i k e.symm)).2.1 hk)⟩),
  rdRows3I.mono h.c (λk hk a=>⟨⟨hk,a⟩,Nat.lt_of_lt_of_le a b.size,b.block k a (λe=>(h.do_ k (i k e.symm)).2.2 hk)⟩),
  λk hk=>⟨?_,λe => ?_,λe => ?_⟩,λk hk=>⟨.inl (h.dp k hk.1).1,λe=>(h.dp k hk.1).2 e.1⟩,λk hk => .inl (h.dc k hk.1)⟩
 ·rcases hk with hk|hk
  ·rcases Nat.lt_or_ge k w.heap.size with h|h
   ·exact .inl ⟨hk,h⟩
   ·exact .inr h
  ·exact .inr hk
 ·rcases hk with hk|hk
  ·exact .inl (h.do_ k hk.1).1
  ·exact .inr hk
 ·rcases hk with hk|hk
  ·exact(h.do_ k hk.1).2.1 e.1
  ·omega
 ·rcases hk with hk|hk
  ·exact(h.do_ k hk.1).2.2 e.1
  ·omega
structure OutP (G:Nat->Prop) (B qb:Nat) (w:World) (x y z:Value) (Q:Pr):Prop where
 le:B<=w.heap.size
 gl:∀k,G k->k<w.heap.size
 box:Box3 w qb x y z
 px:PresX (λk=>B<=k/\k≠qb/\¬G k) w x y z Q
section
variable {G:Nat->Prop}{B qb:Nat}{w w':World}{x y z:Value}{Q:Pr}
theorem OutP.ext (h:OutP G B qb w x y z Q) (a:Ext w w'):OutP G B qb w' x y z Q:=
 ⟨Nat.le_trans h.le a.size,λk hk=>Nat.lt_of_lt_of_le (h.gl k hk) a.size,h.box.ext a,h.px.ext a⟩
theorem OutP.away {G':Nat->Prop}(h:OutP G B qb w x y z Q) (b:Ext w w') (h1:∀k,G' k->k<w'.heap.size) (j:∀k,G' k->G k\/w.heap.size<=k):OutP G' B qb w' x y z Q:=
 ⟨Nat.le_trans h.le b.size,h1,h.box.ext b,h.px.mono (λk hk a=>⟨⟨hk.1,hk.2.1,λe=>by
  rcases j k e with i|i
  ·exact hk.2.2 i
  ·omega⟩,Nat.lt_of_lt_of_le a b.size,b.block k a (by simp)⟩)⟩
theorem OutP.start (a:B<=w.heap.size) (b:Box3 w qb (.slice none 0 0) (.slice none 0 0) (.slice none 0 0)):OutP (λ_=>False) B qb w (.slice none 0 0) (.slice none 0 0) (.slice none 0 0) ⟨[],[],[]⟩:=
 ⟨a,λ_ h=>h.elim,b,λ_=>False,λ_=>False,λ_=>False,OwnIn.nil _ _,⟨[],λ_ _=>False,rfl,by simp,World.ownsRow_nil _ _ _ _,by simp[Value.ownBlock],by simp,by simp,by simp⟩,
  ⟨[],λ_ _=>False,rfl,by simp,World.ownsRow_nil _ _ _ _,by simp[Value.ownBlock],by simp,by simp,by simp⟩,λ_ h=>h.elim,λ_ h=>h.elim,λ_ h=>h.elim⟩
theorem OutP.parts (h:OutP G B qb w x y z Q):∃Fo Fp Fc,Part3 (λk=>B<=k/\k≠qb/\¬G k) w x y z Q Fo Fp Fc/\(∀k,x.ownBlock=some k->B<=k/\k≠qb/\¬G k)/\(∀k,y.ownBlock=some k->B<=k/\k≠qb/\¬G k)/\(∀k,z.ownBlock=some k->B<=k/\k≠qb/\¬G k):=by
 obtain⟨Fo,Fp,Fc,hP⟩:=h.px.part;refine⟨Fo,Fp,Fc,hP,λk e=>(hP.do_ k (hP.o.2.1 k e)).1,λk e => ?_,λk e => ?_⟩
 ·obtain ⟨_,_,_,_,_,a,_⟩:=hP.p
  exact(hP.dp k (a k e)).1
 ·obtain ⟨_,_,_,_,_,a,_⟩:=hP.c
  exact hP.dc k (a k e)
theorem OutP.boxed (h:OutP G B qb w x y z Q) {v:Value}(b:∀k,v.ownBlock=some k->B<=k/\k≠qb/\¬G k) (a:w.grownBy w' v.ownBlock):Box3 w' qb x y z:=
 h.box.keep a.size (a.block _ h.box.1 (λe=>(b _ e.symm).2.1 rfl))
theorem OutP.near {w0:World}(_h:OutP G B qb w x y z Q) {v v':Value}{j:Nat}(a:∀k,v.ownBlock=some k->B<=k/\k≠qb/\¬G k) (b:w.grownBy w' v.ownBlock) (l:w0.heap.size<=B) (e:w0.grownBy w (some qb)):w0.grownBy (w'.setCell ⟨qb,j,none⟩ v') (some qb):=
 grown_trans (grown_own e b (λk hk i=>by have:=(a k hk).1;omega)) (grown_set1 _ _ _ _)
theorem OutP.done (h:OutP G B qb w x y z Q) {m:Pr}{x' i l v:Value}{j:Nat}(p:w.grownBy w' v.ownBlock)
  (q:PresX (λk=>(B<=k/\k≠qb/\¬G k)\/w.heap.size<=k) w' x' i l m) {u:Value}(r:Box3 (w'.setCell ⟨qb,j,none⟩ u) qb x' i l):OutP G B qb (w'.setCell ⟨qb,j,none⟩ u) x' i l m:=by
 have b:=grown_set1 w' qb j u;refine⟨Nat.le_trans h.le (Nat.le_trans p.size b.size),λk hk=>Nat.lt_of_lt_of_le (h.gl k hk) (Nat.le_trans p.size b.size),r,q.mono (λk hk a=>⟨?_,Nat.lt_of_lt_of_le a b.size,b.block k a (λe => ?_)⟩)⟩
 ·rcases hk with hk|hk
  ·exact hk
  ·exact⟨Nat.le_trans h.le hk,λe=>by have:=h.box.1;omega,λe=>by have:=h.gl k e;omega⟩
 ·have e:=Option.some.inj e
  have h1:=h.box.1;rcases hk with hk|hk
  ·exact hk.2.1 e
  ·omega
theorem OutP.putO (h:OutP G B qb w x y z Q) {v':Value}{c:Int}(hO:Own 0 w' v' (Q.orders++[c])) (b:w.grownBy w' x.ownBlock) (a:v'.ownBlock=x.ownBlock\/∀k,v'.ownBlock=some k->w.heap.size<=k) (e:Q.orders.length<=1000) :
  OutP G B qb (w'.setCell ⟨qb,0,none⟩ v') v' y z { Q with orders:=Q.orders++[c] } :=by
 obtain⟨Fo,Fp,Fc,hP,h1,h2,h3⟩:=h.parts;refine h.done b (hP.newO (L:=Q.orders++[c]) ⟨hO,λk hk => ?_,by rw[List.length_append,List.length_singleton];omega⟩ b) ((h.boxed h1 b).put v').1;rcases a with a|a
 ·exact .inl (hP.o.2.1 k (by rw[<-a];exact hk))
 ·exact .inr (a k hk)
theorem OutP.putP (h:OutP G B qb w x y z Q) {Fo Fp Fc:Nat->Prop}(hP:Part3 (λk=>B<=k/\k≠qb/\¬G k) w x y z Q Fo Fp Fc) {v':Value}{L:List (List Int)}(hO:RowsI (λk=>Fp k\/w.heap.size<=k) w' v' L) (a:w.grownBy w' y.ownBlock) :
  OutP G B qb (w'.setCell ⟨qb,1,none⟩ v') x v' z { Q with powers:=L } :=by
 obtain⟨_,_,_,_,h1,b,h3⟩:=h.parts;exact h.done a (hP.newP hO a) ((h.boxed b a).put v').2.1
theorem OutP.putC (h:OutP G B qb w x y z Q) {Fo Fp Fc:Nat->Prop}(hP:Part3 (λk=>B<=k/\k≠qb/\¬G k) w x y z Q Fo Fp Fc) {v':Value}{L:List (List (List Int))}(hO:Rows3I (λk=>Fc k\/w.heap.size<=k) w' v' L) (a:w.grownBy w' z.ownBlock) :
  OutP G B qb (w'.setCell ⟨qb,2,none⟩ v') x y v' { Q with conj:=L } :=by
 obtain⟨_,_,_,_,h1,h2,b⟩:=h.parts;exact h.done a (hP.newC hO a) ((h.boxed b a).put v').2.2
theorem OutP.ret (h:OutP G B qb w x y z Q) {b i:Nat}(l:b<=B) (hr:i<B) {w':World}(j:w.grownBy w' (some i)):PresR b Q w' (.agg #[x,y,z]):=
 ⟨_,_,_,rfl,h.px.mono (λk hk a=>⟨Nat.le_trans l hk.1,Nat.lt_of_lt_of_le a j.size,j.block k a (λe=>by have:=Option.some.inj e;have:=hk.1;omega)⟩)⟩
end
theorem exP_pw {P:Pr}(G:Grp P) {a:List Int}(ha:Vec P.orders a) (k:Int):iPow P a k=pw P a k.toNat:=by
 rw[G.iPow_eq ha]
 have:∀n:Nat,iter n (λy=>rMul P y a) (zeros P.orders.length)=pw P a n:=λn=>by
  induction n with
  | zero=>rfl
  | succ n b=>rw[pw_succ,<-b];rfl
 exact this _
end Go.Proofs.YtldheeicjnncoaaGreat
namespace Go.Proofs.YtldheeicjnncoaaGreat
open Go.RowKit
attribute [local go_sem ↓] Go.wp_at_zero Go.wp_at_succ
def cutQ (Q:Pr) (j:Nat):Pr:=⟨Q.orders.take j,Q.powers.take j,Q.conj.take j⟩
theorem cutQ_all {Q:Pr}{j:Nat}(a:Q.orders.length<=j) (h1:Q.powers.length<=j) (b:Q.conj.length<=j):cutQ Q j=Q:=by
 unfold cutQ;rw[List.take_of_length_le a,List.take_of_length_le h1,List.take_of_length_le b]
theorem quo_at {P:Pr}{U:List (List Int)}{k:Nat}(hk:k<(frI P U).length) :
  (quoP P U).orders.take (k+1)=(quoP P U).orders.take k++[gt P.orders (gt (frI P U) k)] /\
  (quoP P U).powers.take (k+1)=(quoP P U).powers.take k++[prjV P U (pw P (unitV P.orders.length (gt (frI P U) k)) (gt P.orders (gt (frI P U) k)).toNat)] /\
  (quoP P U).conj.take (k+1)=(quoP P U).conj.take k++[((frI P U).drop (k+1)).map (λj=>prjV P U (rConj P (unitV P.orders.length j) (unitV P.orders.length (gt (frI P U) k))))]:=by
 refine⟨?_,?_,?_⟩
 ·show ((frI P U).map _).take (k+1)=((frI P U).map _).take k++_
  rw[take_succ_gt _ k (by rw[List.length_map];exact hk),gt_map _ _ _ hk]
 ·show ((frI P U).map _).take (k+1)=((frI P U).map _).take k++_
  rw[take_succ_gt _ k (by rw[List.length_map];exact hk),gt_map _ _ _ hk]
 ·show ((List.range _).map _).take (k+1)=((List.range _).map _).take k++_
  rw[take_succ_gt _ k (by rw[List.length_map,List.length_range];exact hk),gt_map _ _ _ (by rw[List.length_range];exact hk),gt_range hk]
theorem run_tail_int (w:World) (a:Option Addr) (n cap:Nat) (k:Int) (b:0<=k) (h1:k<=n) :
  (Instr.slice 170 (.slice a n cap) (some (.int .i64 k)) none none).run Tryz.prog w=.ok (subSl (.slice a n cap) k.toNat n) w:=by
 rw[run_slice_l w 170 a n cap (by kernel_rfl) .i64 k b h1];have:(sizeOf (Tryz.prog.elem 170)).run Tryz.prog w=.ok 1 w:=by kernel_rfl
 rw[this];simp[Result.andThen,sliced,subSl]
theorem quoPres_ok (P:Pr) (hr:rconsB P=true) (w:World) (p uv:Value) (U:List (List Int)) (Sp Su:Nat->Prop) (hp:PresP Sp w p P) (hu:Rows2 Su w uv U) (hU:SubB P U) :
  Calls Tryz.prog 96 #[p,uv] w (Ret w (PresR w.heap.size (quoP P U))):=by
 have G:=grp_of_r hr;have cv:=G.v.n6;obtain⟨hS,cw,bE⟩:=sub_dep G hU;clear hS;have cx:=fr_len P U;obtain⟨pb,po,rfl⟩:=hp.shape;obtain⟨au,capu,rfl,_,_⟩:=Sl.shape hu;have az:Ext w ((w.alloc (.cells #[.slice none 0 0,.slice none 0 0,.slice none 0 0] 28)).alloc (.cells #[.slice none 0 0,.slice none 0 0,.slice none 0 0] 28)):=grown_trans (World.grownBy_alloc _ _ _) (World.grownBy_alloc _ _ _);have bF:=(Box3.made w 28 (.slice none 0 0) (.slice none 0 0) (.slice none 0 0)).ext (World.grownBy_alloc _ (.cells #[.slice none 0 0,.slice none 0 0,.slice none 0 0] 28) none);have a':=Box3.made (w.alloc (.cells #[.slice none 0 0,.slice none 0 0,.slice none 0 0] 28)) 28 (.slice none 0 0) (.slice none 0 0) (.slice none 0 0);have bG:(w.alloc (.cells #[.slice none 0 0,.slice none 0 0,.slice none 0 0] 28)).heap.size=w.heap.size+1:=by simp
 have dh:((w.alloc (.cells #[.slice none 0 0,.slice none 0 0,.slice none 0 0] 28)).alloc (.cells #[.slice none 0 0,.slice none 0 0,.slice none 0 0] 28)).heap.size=w.heap.size+2:=by simp
 rw[bG] at a';obtain⟨ao,capo,dM,bH⟩:=(hp.ext az).ordAt;have HU:=Lib.hid (And.intro hU (And.intro bE (And.intro bF (And.intro a' bH))));clear hU bE bF a' bG bH;go_enter Tryz.func96,Tryz.ntmps96;go_wp2_with fail
 generalize (w.alloc (.cells #[.slice none 0 0,.slice none 0 0,.slice none 0 0] 28)).alloc (.cells #[.slice none 0 0,.slice none 0 0,.slice none 0 0] 28)=w0 at *;refine Calls.mono (otherIndices_ok P cv w0 _ _ U Sp Su (hp.ext az) (Rows2.ext hu az) HU.out.2.1 cw) ?_;rintro e3 M ⟨iv,rfl,hg3,gB⟩;obtain⟨ai,ci,bJ,hI⟩:=idx_ints gB (by omega);obtain⟨m,hm⟩:∃m,m=(frI P U).length:=⟨_,rfl⟩;rw[<-hm] at bJ hI cx;subst bJ;have ae:=grown_trans az hg3;have ba:=HU.out.2.2.2.1.ext hg3;have bK:=HU.out.2.2.1.ext hg3;obtain⟨qb,bb⟩:∃qb,qb=w.heap.size+1:=⟨_,rfl⟩;rw[<-bb] at ba;have dj:=hg3.size;have af:OutP (λ_=>False) M.heap.size qb M (.slice none 0 0) (.slice none 0 0) (.slice none 0 0) (cutQ (quoP P U) 0):=OutP.start (Nat.le_refl _) ba;have bL:Ints (λk=>w0.heap.size<=k) M (.slice ai m ci) ((frI P U).map (λi:Nat=>(i:Int))):=hI;have Y:=Lib.hid (And.intro bL (And.intro hm (And.intro bK af)));clear hI bL bK af gB ba dM hm;have dk:w.heap.size<qb/\qb<w0.heap.size:=by omega
 have bM:=Lib.hid bb;go_wp2;rw[<-bM.out];clear bb bM;go_loopw [25] (λkv wr=>∃(k:Nat) (a1:Option Addr) (n1 c1:Nat) (a2:Option Addr) (n2 c2:Nat) (a3:Option Addr) (n3 c3:Nat),kv=.int .i64 (k:Int)/\k<=m/\M.grownBy wr (some qb)/\OutP (λ_=>False) M.heap.size qb wr (.slice a1 n1 c1) (.slice a2 n2 c2) (.slice a3 n3 c3) (cutQ (quoP P U) k)) (λkv _=>m-(intOf kv).toNat)
 case atStart=>exact⟨0,_,_,_,_,_,_,_,_,_,rfl,by omega,grown_refl _ _,Y.out.2.2.2⟩
 case round=>
  obtain⟨k,a1,n1,c1,a2,n2,c2,a3,n3,c3,rfl,hkm,hg,A⟩:=hrel;have bN:Ext w wr:=grown_own ae hg (λj hj ah=>by have:=Option.some.inj hj;omega);by_cases ah:k<m
  ·have c9:(k:Int)<m:=by omega
   have Z:k<(frI P U).length:=by rw[<-Y.out.2.1];exact ah
   have bc:=Ints.mono Y.out.1 (frame_of hg (λk hk _=>⟨hk,λe=>by have:=Option.some.inj e;have hk:w0.heap.size<=k:=hk;omega⟩));obtain⟨bi,oi,hai,_,_,be⟩:=Ints.at bc k (by rw[List.length_map];exact Z);subst hai;rw[gt_map _ _ _ Z] at be;obtain⟨q1,q2,q3⟩:=quo_at (P:=P) (U:=U) Z;have aj:=(fr_at Z).1;obtain⟨i,hi⟩:∃i,i=gt (frI P U) k:=⟨_,rfl⟩;rw[<-hi] at be q1 q2 q3 aj;have dl:∀l,k<l->l<(frI P U).length->gt (frI P U) l<P.orders.length:=λl _ hl=>(fr_at hl).1;have bO:Vec P.orders (unitV P.orders.length i):=unitV_vec G.v i;have bQ:=G.v.ord7 i aj;have HS:=Lib.hid (And.intro q1 (And.intro q2 (And.intro q3 (And.intro Z (And.intro bc (And.intro bO bQ))))));clear q1 q2 q3 Z bc bO bQ hi;go_wp2_with fail
   refine Calls.mono (unitVector_ok P.orders.length i wr aj (by omega)) ?_;rintro e4 w4 ⟨gv,rfl,bf,ab⟩;clear be;obtain⟨O,Q,S,hgv⟩:∃a n c,gv=.slice a n c:=by obtain⟨a,c,e,_⟩:=(ab.ints (by rw[HS.out.2.2.2.2.2.1.1];omega)).shape;exact⟨_,_,_,e⟩
   subst hgv;have ak:=A.away (G':=λb=>(Value.slice O Q S).ownBlock=some b) bf (λb y=>(ab.lt b y).2) (λb y => .inr (ab.lt b y).1);have bR:Ints (λb=>(Value.slice O Q S).ownBlock=some b) w4 (.slice O Q S) (unitV P.orders.length i):=ints_of_own ab (by rw[HS.out.2.2.2.2.2.1.1];omega) (λb y=>y);have bS:M.grownBy w4 (some qb):=grown_trans hg (grown_of_ext _ bf);have bT:Ext w w4:=grown_trans bN bf;have bg:∀b,(Value.slice O Q S).ownBlock=some b->M.heap.size<=b:=λb y=>by have:=(ab.lt b y).1;have:=hg.size;omega
   have cG:=Lib.hid bg;have H4:=Lib.hid (And.intro ak (And.intro bR bg));clear ak bR ab A bg;have cH:=hp.ext bT;obtain⟨dn,j8,kT,kU⟩:=cH.ordAt;obtain⟨bo,oo,hao,_,_,al⟩:=Ints.at kU i aj;subst hao;have db:(i:Int)<P.orders.length:=by omega
   obtain⟨c,hc⟩:∃c,c=gt P.orders i:=⟨_,rfl⟩;rw[<-hc] at al;have HC:=Lib.hid hc;clear hc;have e1:∀w',Ext w4 w'->w'.cell? ⟨pb,po,none⟩=some (.slice (some ⟨bo,oo,none⟩) P.orders.length j8):=λw' h=>h.cell kT (by simp);have e2:∀w',Ext w4 w'->w'.cell? ⟨bo,oo+i,none⟩=some (.int .i64 c):=λw' h=>h.cell al (by simp);have e3:∀w',Ext w4 w'->w'.cell? ⟨qb,0,none⟩=some (.slice a1 n1 c1):=λw' h=>(H4.out.1.box.ext h).2.1;have f1:=e1 w4.drew (grown_drew _ _);have f2:=e2 w4.drew (grown_drew _ _);have f3:=e3 w4.drew (grown_drew _ _);have f4:=e3 (w4.alloc (.cells #[.int .i64 c] 2)) (World.grownBy_alloc _ _ _);clear kT al kU;go_wp2;go_cut [] (λwx=>M.grownBy wx (some qb)/\Ints (λb=>(Value.slice O Q S).ownBlock=some b) wx (.slice O Q S) (unitV P.orders.length i)/\∃(g8:Option Addr) (m8 k8:Nat),OutP (λb=>(Value.slice O Q S).ownBlock=some b) M.heap.size qb wx (.slice g8 m8 k8) (.slice a2 n2 c2) (.slice a3 n3 c3) ⟨(quoP P U).orders.take (k+1),(quoP P U).powers.take k,(quoP P U).conj.take k⟩)
   case' rest=>
    clear f1 f2 f3 f4 e1 e2 e3 H4;obtain⟨H,B,g8,m8,k8,I⟩:=hcut;obtain⟨V,rfl⟩:∃V:World,V=wc:=⟨_,rfl⟩;have u:Ext w V:=grown_own ae H (λj hj ah=>by have:=Option.some.inj hj;omega);have bX:=hp.ext u;obtain⟨dp,capo5,kV,kW⟩:=bX.ordAt;obtain⟨bY,kX,mY,_,_,J⟩:=Ints.at kW i aj;subst mY;rw[<-HC.out] at J;obtain⟨X,hX⟩:∃X,X=pw P (unitV P.orders.length i) c.toNat:=⟨_,rfl⟩;have am:Vec P.orders X:=by rw[hX];exact G.pw_vec HS.out.2.2.2.2.2.1 _
    have bZ:iPow P (unitV P.orders.length i) c=X:=by rw[hX];exact exP_pw G HS.out.2.2.2.2.2.1 c
    have b0:c<=1000000000:=by rw[HC.out];have:=HS.out.2.2.2.2.2.2;omega
    obtain⟨R,hR⟩:∃R,R=prjV P U X:=⟨_,rfl⟩;have cJ:R.length<=6:=by rw[hR];unfold prjV;rw[List.length_map,<-Y.out.2.1];omega
    have aT:(quoP P U).powers.take (k+1)=(quoP P U).powers.take k++[R]:=by rw[HS.out.2.1,hR,hX,HC.out]
    have aU:((quoP P U).powers.take k).length<=1000000:=by rw[List.length_take];omega
    have e1:∀w',Ext V w'->w'.cell? ⟨pb,po,none⟩=some (.slice (some ⟨bY,kX,none⟩) P.orders.length capo5):=λw' h=>h.cell kV (by simp);have e2:∀w',Ext V w'->w'.cell? ⟨bY,kX+i,none⟩=some (.int .i64 c):=λw' h=>h.cell J (by simp);have e3:∀w',Ext V w'->w'.cell? ⟨qb,1,none⟩=some (.slice a2 n2 c2):=λw' h=>(I.box.ext h).2.2.1;obtain⟨Fo,Fp,Fc,D,o1,o2,o3⟩:=I.parts;have z:=Lib.hid (And.intro I (And.intro D (And.intro o1 (And.intro o2 (And.intro o3 (And.intro am (And.intro bZ (And.intro b0 (And.intro hR (And.intro aT (And.intro aU B)))))))))));clear I D o1 o2 o3 am bZ b0 hR aT aU B hX J kV kW;have f1:=e1 V.drew (grown_drew _ _);have f2:=e2 V.drew (grown_drew _ _);have f3:=e3 V.drew (grown_drew _ _);go_wp2;go_cut [] (λwx=>M.grownBy wx (some qb)/\Ints (λb=>(Value.slice O Q S).ownBlock=some b) wx (.slice O Q S) (unitV P.orders.length i)/\∃(h8:Option Addr) (m9 k9:Nat),OutP (λb=>(Value.slice O Q S).ownBlock=some b) M.heap.size qb wx (.slice g8 m8 k8) (.slice h8 m9 k9) (.slice a3 n3 c3) ⟨(quoP P U).orders.take (k+1),(quoP P U).powers.take (k+1),(quoP P U).conj.take k⟩)
    case' rest=>
     clear f1 f2 f3 e1 e2 e3 z H u bX;obtain⟨H,B,h8,m9,k9,I⟩:=hcut;obtain⟨w6,rfl⟩:∃w6:World,w6=wc:=⟨_,rfl⟩;have b1:Ext w w6:=grown_own ae H (λj hj ah=>by have:=Option.some.inj hj;omega);have b2:=Ints.mono Y.out.1 (frame_of H (λk hk _=>⟨hk,λe=>by have:=Option.some.inj e;have hk:w0.heap.size<=k:=hk;omega⟩));have aJ:((frI P U).map (λi:Nat=>(i:Int))).length=m:=by rw[List.length_map,Y.out.2.1]
     have ac:=subSl_ints b2 (k+1) m (by omega) (by rw[aJ];exact Nat.le_refl _);rw[List.take_of_length_le (by rw[aJ];exact Nat.le_refl _)] at ac;obtain⟨ta,tc,aK,_,_⟩:=ac.shape;rw[aK] at ac;obtain⟨N,hN⟩:∃N,N=(((frI P U).map (λi:Nat=>(i:Int))).drop (k+1)).length:=⟨_,rfl⟩;have cK:N=m-(k+1):=by rw[hN,List.length_drop,aJ]
     rw[<-hN] at aK ac
     have cL:∀w',(Instr.slice 170 (.slice (some ⟨bi,oi,none⟩) m ci) (some (.int .i64 ((k:Int)+1))) none none).run Tryz.prog w'=.ok (.slice ta N tc) w':=λw'=>by
      have h:=run_tail_int w' (some ⟨bi,oi,none⟩) m ci ((k:Int)+1) (by omega) (by omega);rw[show((k:Int)+1).toNat=k+1 by omega,aK] at h;exact h
     have b3:∀l,l<N->gt (((frI P U).map (λi:Nat=>(i:Int))).drop (k+1)) l=((gt (frI P U) (k+1+l):Nat):Int)/\gt (frI P U) (k+1+l)<P.orders.length:=λl hl=>by
      have b4:k+1+l<(frI P U).length:=by rw[<-Y.out.2.1];omega
      refine⟨?_,(fr_at b4).1⟩;have e:gt (((frI P U).map (λi:Nat=>(i:Int))).drop (k+1)) l=gt ((frI P U).map (λi:Nat=>(i:Int))) (k+1+l):=by simp[gt,List.getElem?_drop]
      rw[e,gt_map _ _ _ b4]
     obtain⟨C,hC⟩:∃C,C=((frI P U).drop (k+1)).map (λj=>prjV P U (rConj P (unitV P.orders.length j) (unitV P.orders.length i))):=⟨_,rfl⟩;have b5:C.length=N:=by rw[hC,List.length_map,List.length_drop,cK,Y.out.2.1]
     have b6:∀l,l<N->gt C l=prjV P U (rConj P (unitV P.orders.length (gt (frI P U) (k+1+l))) (unitV P.orders.length i)):=λl hl=>by
      rw[hC,gt_map _ _ _ (by rw[List.length_drop,<-Y.out.2.1];omega)];congr 3
      simp[gt,List.getElem?_drop]
     have aY:(quoP P U).conj.take (k+1)=(quoP P U).conj.take k++[C]:=by rw[HS.out.2.2.1,hC]
     have aZ:((quoP P U).conj.take k).length<=1000000:=by rw[List.length_take];omega
     have K:=Lib.hid (And.intro I (And.intro B (And.intro ac (And.intro b3 (And.intro b5 (And.intro b6 (And.intro aY (And.intro aZ hN))))))));clear I B ac b3 b5 b6 aY aZ hN hC aK aJ b2;have ds:N<=6:=by omega
     go_wp2;clear cL;go_loopw [11,68] (λlv jv wr=>∃(l:Nat) (v7:Value),v7=lv/\jv=.int .i64 (l:Int)/\l<=N/\Ext w6 wr/\RowsO w6.heap.size wr v7 (C.take l)) (λ_ jv _=>N-(intOf jv).toNat)
     case atStart=>exact⟨0,_,rfl,rfl,by omega,Ext.refl _,SlO.nil _ _ _ _⟩
     case round=>
      obtain⟨l,v7,rfl,rfl,hl,L,hO⟩:=hrel;obtain⟨wo,rfl⟩:∃wo:World,wo=wr:=⟨_,rfl⟩;have b8:Ext w wo:=grown_trans b1 L;by_cases W:l<N
      ·have cN:(l:Int)<N:=by omega
       obtain⟨b9,hj⟩:=K.out.2.2.2.1 l W;obtain⟨bd,od,mZ,_,_,bm⟩:=Ints.at (Ints.ext K.out.2.2.1 L) l (by rw[<-K.out.2.2.2.2.2.2.2.2];exact W);subst mZ;rw[b9] at bm;obtain⟨j,b'⟩:∃j,j=gt (frI P U) (k+1+l):=⟨_,rfl⟩;have bn:=K.out.2.2.2.2.2.1 l W;rw[<-b'] at bm hj bn;have aM:Vec P.orders (unitV P.orders.length j):=unitV_vec G.v j;obtain⟨X,hX⟩:∃X,X=rConj P (unitV P.orders.length j) (unitV P.orders.length i):=⟨_,rfl⟩;have am:Vec P.orders X:=by rw[hX];exact G.conjV aM HS.out.2.2.2.2.2.1
       have ca:iConj P (unitV P.orders.length j) (unitV P.orders.length i)=X:=by rw[hX];exact G.iConj_eq aM HS.out.2.2.2.2.2.1
       obtain⟨R,hR⟩:∃R,R=prjV P U X:=⟨_,rfl⟩;have cJ:R.length<=6:=by rw[hR];unfold prjV;rw[List.length_map,<-Y.out.2.1];omega
       have an:C.take (l+1)=C.take l++[R]:=by rw[take_succ_gt _ l (by rw[K.out.2.2.2.2.1];exact W),bn,hR,hX]
       have a0:(C.take l).length<=1000000:=by rw[List.length_take];omega
       have HR:=Lib.hid (And.intro aM (And.intro am (And.intro ca (And.intro hR (And.intro an a0)))));clear aM am ca hR an a0 bn b' hX b9;go_wp2_with fail
       refine Calls.mono (unitVector_ok P.orders.length j wo hj (by omega)) ?_;rintro eA wA ⟨cO,rfl,aN,fE⟩;have bp:=fE.ints (by rw[HR.out.1.1];omega);obtain⟨aA,nA,cA,huv⟩:∃a n c,cO=Value.slice a n c:=by obtain⟨a,c,e,_⟩:=bp.shape;exact⟨_,_,_,e⟩
       subst huv;have a6:=grown_trans b8 aN;have HA:=Lib.hid bp;clear bp fE bm;go_wp2_with fail
       refine Calls.mono (conjugate_ok P G.v wA _ _ _ (unitV P.orders.length j) (unitV P.orders.length i) Sp _ _ (hp.ext a6) HA.out (Ints.ext K.out.2.1 (grown_trans L aN)) HR.out.1 HS.out.2.2.2.2.2.1) ?_;rintro eB wB ⟨cP,rfl,bq,br⟩;rw[HR.out.2.2.1] at br;have bt:=br.ints (by rw[HR.out.2.1.1];omega);obtain⟨aB,nB,cB,hcv⟩:∃a n c,cP=Value.slice a n c:=by obtain⟨a,c,e,_⟩:=bt.shape;exact⟨_,_,_,e⟩
       subst hcv;have a7:=grown_trans a6 bq;have HB:=Lib.hid bt;clear bt br;go_wp2_with fail
       refine Calls.mono (project_ok P hr wB _ _ _ U X Sp Su _ (hp.ext a7) (Rows2.ext hu a7) HU.out.1 HB.out HR.out.2.1) ?_;rintro eD wD ⟨rv,rfl,cQ,bu⟩;rw[<-HR.out.2.2.2.1] at bu;have cb:=grown_trans aN (grown_trans bq cQ);have cc:OwnIn (From wo.heap.size) wD rv R:=OwnIn.of bu (by omega) (λk h _=>by have:=(grown_trans aN bq).size;show wo.heap.size<=k;omega);obtain⟨aD,cD,jg,_,_⟩:=cc.ints.shape;subst jg;clear bu;go_wp2_with (first|(at_builtin;refine wp_app_row rfl _ _ rfl w6.heap.size wo wD v7 _ (C.take l) R rfl hO cb cc rfl rfl HR.out.2.2.2.2.2 L.size ?_;intro v5 V cR cS dz;have u:=hO.extw L (Nat.le_refl _) cS)|fail)
       go_roundw
       case rel=>exact⟨l+1,v5,rfl,by go_num,by omega,u,by rw[HR.out.2.2.2.2.1];exact cR⟩
       case measure=>simp[intOf];omega
      ·have cT:l=N:=by omega
       subst cT;rw[List.take_of_length_le (by rw[K.out.2.2.2.2.1];exact Nat.le_refl _)] at hO;have ce:RowsI (From w6.heap.size) wo v7 C:=SlI.of hO (by rw[K.out.2.2.2.2.1];omega) (λk h _=>h);obtain⟨a4,n4,c4,rfl,jh⟩:=SlI.sl ce;obtain⟨Fo,Fp,Fc,D,o1,o2,o3⟩:=K.out.1.parts;have cU:=K.out.1.box.ext L;have HN:=Lib.hid jh;clear jh hO;obtain⟨f0,f1,f2,f3,f4⟩:=id cU;go_wp2_with (first|(at_builtin;refine wp_app_I (rdI rdOwn) 26 (.slice none 0 0) 24 und_rows3 Tryz.infoRows rfl (by decide) rfl _ _ rfl Fc w6 wo _ _ ((quoP P U).conj.take k) C rfl D.c L ce rfl rfl K.out.2.2.2.2.2.2.2.1 ?_;intro v8 w8 E r cW;obtain⟨g9,m10,kY,rfl,fU⟩:=SlI.sl E;clear fU;have ap:=K.out.1.boxed o3 r;clear f0 f1 f2 f3 f4;obtain⟨f0,f1,f2,f3,f4⟩:=id ap)|fail)
       have q:=K.out.1.putC D E r;rw[<-K.out.2.2.2.2.2.2.1] at q;have bv:=q.away (G':=λ_=>False) (Ext.refl _) (λ_ h=>h.elim) (λ_ h=>h.elim);have aq:=K.out.1.near (j:=2) (v' := .slice g9 m10 kY) (w0:=M) o3 r (Nat.le_refl _) H;clear f0 f1 f2 f3 f4;go_roundw
       case rel=>exact⟨k+1,_,_,_,_,_,_,_,_,_,by go_num,by omega,aq,bv⟩
       case measure=>simp[intOf];omega
    case first=>
     go_region_law (first
      | (go_simp;go_at_call 129;refine Calls.mono (project_ok P hr _ _ _ _ U X Sp Su _ (hp.ext (grown_trans u F)) (Rows2.ext hu (grown_trans u F)) HU.out.1 cf z.out.2.2.2.2.2.1) ?_;rintro eR wR ⟨vR,rfl,jU,bw⟩;rw[<-z.out.2.2.2.2.2.2.2.2.1] at bw;obtain⟨aR,ch,ji,_,_⟩:=(bw.ints (by omega)).shape;subst ji;have ar:Ext V wR:=grown_trans F jU;have g3:=e3 wR ar;have g4:=e3 (wR.alloc (.cells #[.slice aR R.length ch] 24)) (grown_trans ar (World.grownBy_alloc _ _ _)))
      | (go_simp;go_at_call 192;refine Calls.mono (power_ok P G.v _ _ _ (unitV P.orders.length i) c _ _ (hp.ext (grown_trans u (grown_drew _ _))) (Ints.ext z.out.2.2.2.2.2.2.2.2.2.2.2 (grown_drew _ _)) HS.out.2.2.2.2.2.1 z.out.2.2.2.2.2.2.2.1) ?_;rintro eX wX ⟨vX,rfl,cX,cj⟩;rw[z.out.2.2.2.2.2.2.1] at cj;have cf:=cj.ints (by rw[z.out.2.2.2.2.2.1.1];omega);obtain⟨aX,capX,j9,_,_⟩:=cf.shape;subst j9;have F:Ext V wX:=grown_trans (grown_drew _ _) cX;have x3:=e3 wX F)
      | (refine step_app_I rdOwn 25 (.slice none 0 0) 24 und_rows Tryz.infoRow rfl (by decide) (by rfl) _ _ (by rfl) Fp V wR _ _ ((quoP P U).powers.take k) R (by rfl) z.out.2.1.p ar (OwnIn.of bw (by omega) (λk h _=>by have:=F.size;show V.heap.size<=k;omega)) (by rfl) (by rfl) z.out.2.2.2.2.2.2.2.2.2.2.1 ?_;intro v8 w8 E r cW;obtain⟨h8,m9,k9,rfl,fU⟩:=SlI.sl E;clear fU;have ap:=z.out.1.boxed z.out.2.2.2.1 r;obtain⟨f80,f81,f82,f83,f84⟩:=id ap))
     all_goals
      have q:=z.out.1.putP z.out.2.1 E r;rw[<-z.out.2.2.2.2.2.2.2.2.2.1] at q;have aq:=z.out.1.near (j:=1) (v' := .slice h8 m9 k9) (w0:=M) z.out.2.2.2.1 r (Nat.le_refl _) H
      have av:Ints (λb=>(Value.slice O Q S).ownBlock=some b) (w8.setCell ⟨qb,1,none⟩ (.slice h8 m9 k9)) (.slice O Q S) (unitV P.orders.length i):=
       Ints.mono (Ints.mono z.out.2.2.2.2.2.2.2.2.2.2.2 (frame_of r (λb y _=>⟨y,λe=>(z.out.2.2.2.1 b e).2.2 y⟩))) (frame_of (grown_set1 w8 qb 1 (.slice h8 m9 k9)) (λb y _=>⟨y,λe=>by have:=Option.some.inj e;have:=cG.out b y;omega⟩))
      clear f1 f2 f3;try go_wp2
      go_meet;exact⟨aq,av,h8,m9,k9,q⟩
   case first=>
    have bx:=H4.out.1.ext (grown_drew w4 none);obtain⟨Fo,Fp,Fc,D,o1,o2,o3⟩:=bx.parts;have HO:=Lib.hid (And.intro bx (And.intro D (And.intro o1 (And.intro o2 o3))));clear bx D o1 o2 o3;have ck:((quoP P U).orders.take k).length<=1000:=by rw[List.length_take];omega
    have HT:=Lib.hid ck;clear ck;go_region_law (refine step_app_intb rfl _ _ (by rfl) 0 (.slice a1 n1 c1) ((quoP P U).orders.take k) c (by rfl) w4.drew HO.out.2.1.o.1 (by rfl) (by rfl) (by have:=HT.out;omega) (Nat.zero_le _) ?_;intro v8 w8 E r cZ;obtain⟨g8,m8,k8,gj⟩:∃a n c,v8=Value.slice a n c:=(by obtain⟨a,c,e,_⟩:=(E.ints (by rw[List.length_append,List.length_singleton];have:=HT.out;omega)).shape;exact⟨_,_,_,e⟩);subst gj;have ap:=HO.out.1.boxed HO.out.2.2.1 r;obtain⟨f80,f81,f82,f83,f84⟩:=id ap)
    all_goals
     have q:=HO.out.1.putO E r cZ HT.out;have c0:(cutQ (quoP P U) k).orders++[c]=(quoP P U).orders.take (k+1):=by rw[HS.out.1,HC.out];rfl
     rw[c0] at q;have aq:=HO.out.1.near (j:=0) (v' := .slice g8 m8 k8) (w0:=M) HO.out.2.2.1 r (Nat.le_refl _) (grown_trans bS (grown_of_ext _ (grown_drew _ none)))
     have av:Ints (λb=>(Value.slice O Q S).ownBlock=some b) (w8.setCell ⟨qb,0,none⟩ (.slice g8 m8 k8)) (.slice O Q S) (unitV P.orders.length i):=
      Ints.mono (Ints.mono (Ints.ext H4.out.2.1 (grown_drew w4 none)) (frame_of r (λb y _=>⟨y,λe=>(HO.out.2.2.1 b e).2.2 y⟩))) (frame_of (grown_set1 w8 qb 0 (.slice g8 m8 k8)) (λb y _=>⟨y,λe=>by have:=Option.some.inj e;have:=H4.out.2.2 b y;omega⟩))
     clear f1 f2 f3 f4;try go_wp2
     go_meet;exact⟨aq,av,g8,m8,k8,q⟩
  ·have c5:k=m:=by omega
   subst c5;have c6:=Y.out.2.1;have a8:cutQ (quoP P U) k=quoP P U:=cutQ_all (by rw[quo_n];omega) (by show((frI P U).map _).length<=k;rw[List.length_map];omega) (by show((List.range _).map _).length<=k;rw[List.length_map,List.length_range];omega);rw[a8] at A;have hz:=Y.out.2.2.1.keep hg.size (hg.block _ Y.out.2.2.1.1 (λe=>by have:=Option.some.inj e;omega));obtain⟨h0,h1,h2,h3,h4⟩:=id A.box;obtain⟨k0,k1,k2,k3,k4⟩:=id hz;have hZ:=hz.all (.slice a1 n1 c1) (.slice a2 n2 c2) (.slice a3 n3 c3);have hT:=grown_set3 wr w.heap.size (.slice a1 n1 c1) (.slice a2 n2 c2) (.slice a3 n3 c3);obtain⟨_,z0,z1,z2,_⟩:=id hZ
   have a9:Ret w (PresR w.heap.size (quoP P U)) (.returned (.agg #[.slice a1 n1 c1,.slice a2 n2 c2,.slice a3 n3 c3])) (((wr.setCell ⟨w.heap.size,0,none⟩ (.slice a1 n1 c1)).setCell ⟨w.heap.size,1,none⟩ (.slice a2 n2 c2)).setCell ⟨w.heap.size,2,none⟩ (.slice a3 n3 c3)):=
    ⟨_,rfl,grown_own bN hT (λj hj ah=>by cases hj;omega),A.ret (by omega) (by omega) hT⟩
   have HE:=Lib.hid a9;clear a9 hT hZ a8 c6;go_wp2;refine bodyPost_ret (v := .agg #[.slice a1 n1 c1,.slice a2 n2 c2,.slice a3 n3 c3]) (by simp[results,Tryz.results96,go_sem,z0,z1,z2]) rfl ?_;exact HE.out
end Go.Proofs.YtldheeicjnncoaaGreat
namespace Go.Proofs.YtldheeicjnncoaaGreat
open Go
section
variable {P:Program}{ops:Array Oper}{Q:Exit->Act->World->Prop}{md:Region.Mode}{S:World->Prop}{n:Nat}
def wpAnyX (P:Program) (md:Region.Mode) (ops:Array Oper) (Q:Exit->Act->World->Prop) (S:World->Prop) (n:Nat):Nat->Array Bool->Act->World->Prop
 | 0,b,a,w=>Region.ready md ops b=[]/\Q .normal a w
 | e+1,b,a,w=>
  (Region.ready md ops b=[]->Q .normal a w) /\
  ∀i∈Region.ready md ops b,wpOp P ops Q i (λj w'=>(i≠n->S w')/\wpAnyX P md ops Q S n e (b.setIfInBounds i true) j w') a w
theorem wpAny_of_X:∀(b:Nat) (e:Array Bool) (a:Act) (w:World),wpAnyX P md ops Q S n b e a w->wpAny P md ops Q b e a w
 | 0,_,_,_,h=>h
 | b+1,_,_,_,h=>⟨h.1,λi hi=>wpOp_mono (λj w' k=>wpAny_of_X b _ j w' k.2) (h.2 i hi)⟩
def chainB (md:Region.Mode) (ops:Array Oper) (a:Array Bool):List Nat->Bool
 | []=>true
 | x :: r => !a.getD x true && (match r with
  | []=>true
  | y :: _=>match ops[y]? with
   | some o=>o.after.any (λe=>Region.binds md e && e.on == x)
   | none=>false) && chainB md ops a r
theorem chain_keep {a:Array Bool}{j:Nat}(q:j∈Region.ready md ops a):∀(c:List Nat) (i:Nat),j≠i->chainB md ops a (i :: c)=true->chainB md ops (a.setIfInBounds j true) (i :: c)=true/\¬j∈i :: c
 | [],i,b,h=>by
  simp only[chainB,Bool.and_true] at h ⊢;rw[getD_set_ne true b];exact⟨h,by simpa using b⟩
 | y :: c,i,b,h=>by
  rw[chainB] at h ⊢;simp only[Bool.and_eq_true] at h;obtain⟨⟨h1,l⟩,h3⟩:=h
  have hy:j≠y:=λe=>by
   subst e;obtain⟨_,o,r,hall⟩:=mem_ready.1 q;rw[r] at l;simp only[Array.any_eq_true,Bool.and_eq_true,beq_iff_eq] at l;obtain⟨t,u,w,m⟩:=l;have k:=hall o.after[t] (Array.getElem_mem u) w;rw[m] at k;rcases Nat.lt_or_ge i a.size with p|p
   ·simp[p] at h1 k;rw[h1] at k;cases k
   ·simp[Array.getElem?_eq_none p] at k
  obtain⟨z,k2⟩:=chain_keep q c y hy h3;rw[getD_set_ne true b,h1,z];simp only[Bool.true_and,Bool.and_true];refine⟨l,λA => ?_⟩;rcases List.mem_cons.1 A with e|e
  ·exact b e
  ·exact k2 e
theorem wpAnyX_first {i:Nat}{z:Oper}{v:Value}{c:List Nat}(hi:ops[i]? = some z) (u:∀(j:Nat) (o:Oper) C b,ops[j]? = some o->o.op ≠ .select C b)
  (U:∀c a w,Q (.panic c) (a.put z.dst v) w->Q (.panic c) a w) (hn:n∈c) (V:i≠n) :
  ∀ (p:Nat) (l:Array Bool) (a:Act) (w:World),
   (∀j A,ops[j]? = some A->j≠i->l.getD j true=false->(∀e∈A.after,Region.binds md e=true->e.on≠i)->z.apart ops A=true) ->
   i∈Region.ready md ops l->chainB md ops l (i :: c)=true->YieldsIf P ops S z v a->S w ->
   wpAnyX P md ops Q S n p (l.setIfInBounds i true) (a.put z.dst v) w->wpAnyX P md ops Q S n (p+1) l a w:=by
 intro p;induction p with
 | zero=>
  intro l a w _ hr _ hy D H;refine⟨λh=>(by rw[h] at hr;cases hr),λj E => ?_⟩;by_cases m:j=i
  ·subst m;exact hy.wpOp hi D ⟨λ_=>D,H⟩
  ·have:=ready_mono E m
   rw[H.1] at this;cases this
 | succ p W=>
  intro l a w q hr X hy D H;refine⟨λh=>(by rw[h] at hr;cases hr),λj E => ?_⟩;by_cases m:j=i
  ·subst m;exact hy.wpOp hi D ⟨λ_=>D,H⟩
  ·have h1:=H.2 j (ready_mono E m)
   obtain⟨L,nh⟩:=chain_keep E c i m X;have F:j≠n:=λe=>nh (by rw[e];exact List.mem_cons_of_mem _ hn);obtain⟨y,A,B,hall⟩:=mem_ready.1 E
   have G:∀e∈A.after,Region.binds md e=true->e.on≠i:=λe Y Z heq=>by
    have h1:=hall e Y Z;have R:=(mem_ready.1 hr).1;rw[heq] at h1;rcases Nat.lt_or_ge i l.size with M|M
    ·simp[M] at R h1;rw[R] at h1;cases h1
    ·simp[Array.getElem?_eq_none M] at h1
   have h2:=wpOp_putIf B (q j A B m y G) (λC b=>u i z C b hi) (λC b=>u j A C b B) U hy h1
   have r:∀k ok,ops[k]? = some ok->k≠i->(l.setIfInBounds j true).getD k true=false ->
     (∀e∈ok.after,Region.binds md e=true->e.on≠i)->z.apart ops ok=true:=λk ok hk N I O=>by
    refine q k ok hk N ?_ O;by_cases J:j=k
    ·subst J;exact y
    ·rw[getD_set_ne true J] at I;exact I
   refine wpOp_mono (λa' w' K=>⟨λ_=>K.2.1 F,W (l.setIfInBounds j true) a' w' r (ready_mono hr (Ne.symm m)) L K.1 (K.2.1 F) ?_⟩) h2;rw[Array.setIfInBounds_comm _ _ m];exact K.2.2
theorem wpAnyX_take {i:Nat}{j:Oper}{v:Value}(c:List Nat) {e:Nat}{b:Array Bool}{a:Act}{w:World}(hi:ops[i]? = some j)
  (l:Region.noSelect ops=true) (m:Region.free md ops b i=true) (hr:(Region.ready md ops b).contains i=true) (k:(chainB md ops b (i :: c) && c.contains n && i != n)=true)
  (p:∀c a w,Q (.panic c) (a.put j.dst v) w->Q (.panic c) a w) (hy:YieldsIf P ops S j v a) (q:S w)
  (h:wpAnyX P md ops Q S n e (b.setIfInBounds i true) (a.put j.dst v) w):wpAnyX P md ops Q S n (e+1) b a w:=by
 simp only[Bool.and_eq_true] at k;exact wpAnyX_first hi (Region.noSelect_spec l) p (by simpa using k.1.2) (by simpa using k.2) e b a w (Region.free_spec hi m) (by simpa using hr) k.1.1 hy q h
theorem wpAnyX_step {i:Nat}{o:Oper}{e:Nat}{b:Array Bool}{a:Act}{w:World}(hi:ops[i]? = some o) (hr:Region.ready md ops b=[i]) (l:o.guard=none)
  (h:∀K':Act->World->Prop,Shut (∀a w,S w->wpAnyX P md ops Q S n e (b.setIfInBounds i true) a w->K' a w)->if Region.wanted o (yielded ops a.tmps)=true then Oper.wp P o a w K' Q else K' (a.put o.dst undef) w):wpAnyX P md ops Q S n (e+1) b a w:=by
 refine⟨λm=>absurd (hr.symm.trans m) (by simp),λj k => ?_⟩;rw[hr] at k;obtain rfl:=List.mem_singleton.1 k;have:=l;exact wpOp_step hi (λK' p=>h K' (λa w q hW=>p a w ⟨λ_=>q,hW⟩))
theorem wpAnyX_last {o:Oper}{i:Nat}{b:Array Bool}{a:Act}{w:World}(hi:ops[n]? = some o) (hr:Region.ready md ops b=[n]) (l:o.guard=none)
  (h:∀K':Act->World->Prop,Shut (∀a w,wpAnyX P md ops Q S n i (b.setIfInBounds n true) a w->K' a w)->if Region.wanted o (yielded ops a.tmps)=true then Oper.wp P o a w K' Q else K' (a.put o.dst undef) w):wpAnyX P md ops Q S n (i+1) b a w:=by
 refine⟨λm=>absurd (hr.symm.trans m) (by simp),λj k => ?_⟩;rw[hr] at k;obtain rfl:=List.mem_singleton.1 k;have:=l;exact wpOp_step hi (λK' p=>h K' (λa w hW=>p a w ⟨λe=>absurd rfl e,hW⟩))
theorem wpAnyX_done {b:Array Bool}{a:Act}{w:World}(hr:Region.ready md ops b=[]) (h:Q .normal a w) :
  ∀e,wpAnyX P md ops Q S n e b a w
 | 0=>⟨hr,h⟩
 | _+1=>⟨λ_=>h,by rw[hr];simp⟩
theorem wp_region_X (S:World->Prop) (n:Nat) {id:Nat}{a:Act}{w:World}(b:P.follows .mixedOrders=true)
  (h:wpAnyX P .any ops Q S n ops.size (Array.replicate ops.size false) a w.drew):(Code.region id ops true).wp P Q a w:=
 wp_region_any b (wpAny_of_X _ _ _ _ h)
end
end Go.Proofs.YtldheeicjnncoaaGreat
namespace Go.Proofs.YtldheeicjnncoaaGreat
open Go.RowKit
def PX (N:Nat) (o:List Int) (F:Nat->Prop) (w:World) (vo vp vc:Value):Prop:=∃P,Shp N P/\P.orders=o/\PresX F w vo vp vc P
structure BX (N:Nat) (o:List Int) (B pb:Nat) (w:World) (vo vp vc:Value):Prop where
 hB:B<=pb
 box:Box3 w pb vo vp vc
 px:PX N o (λk=>B<=k/\k≠pb) w vo vp vc
theorem PX.ext {N:Nat}{o:List Int}{F:Nat->Prop}{w w':World}{vo vp vc:Value}(h:PX N o F w vo vp vc) (b:Ext w w'):PX N o F w' vo vp vc:=by
 obtain⟨P,h1,h2,h3⟩:=h;exact⟨P,h1,h2,h3.mono (λk hk a=>⟨hk,Nat.lt_of_lt_of_le a b.size,b.block k a (by simp)⟩)⟩
theorem BX.ext {N:Nat}{o:List Int}{B pb:Nat}{w w':World}{vo vp vc:Value}(h:BX N o B pb w vo vp vc) (a:Ext w w'):BX N o B pb w' vo vp vc:=⟨h.hB,h.box.ext a,h.px.ext a⟩
theorem BX.storeP {N:Nat}{o:List Int}{B pb:Nat}{w:World}{vo vp vc:Value}(h:BX N o B pb w vo vp vc) (i:Nat) (hi:i<o.length) :
  ∃ g cap z,vp=.slice (some ⟨g,0,none⟩) o.length cap/\B<=g/\g≠pb/\g<w.heap.size/\(∀a,Ext w a->a.cell? ⟨g,i,none⟩=some z/\a.frozen? ⟨g,i,none⟩=false) /\
   ∀a u y,Ext w a->OwnIn (From w.heap.size) a u y->y.length<=N->BX N o B pb (a.setCell ⟨g,i,none⟩ u) vo vp vc:=by
 obtain⟨P,h1,h2,h3⟩:=h.px;obtain⟨g,cap,z,m,⟨q1,q2⟩,l,q4,q,r⟩:=h3.openP i (by rw[h1.p,h2];exact hi);have j:=h.box.1;have hB:=h.hB;refine⟨g,cap,z,by rw[m,h1.p,h2],q1,q2,l,λa b=>⟨b.cell q4 (by simp),(World.frozen?_of_block (b.block g l (by simp))).trans (q i (by rw[h1.p,h2];exact hi))⟩,λa u y b A hy=>⟨hB,Box3.keep h.box (grown_trans (grown_of_ext (some g) b) (grown_set1 a g i u)).size ((grown_trans (grown_of_ext (some g) b) (grown_set1 a g i u)).block _ j (λe=>q2 (by cases e;rfl))),setP P i y,h1.setP i hy,h2,?_⟩⟩;exact(r a u y b A).wide (λk hk=>by rcases hk with hk|hk;exact hk;exact⟨by omega,by omega⟩)
theorem BX.storeC {N:Nat}{o:List Int}{B pb:Nat}{w:World}{vo vp vc:Value}(h:BX N o B pb w vo vp vc) (i j:Nat) (hi:i<o.length) (E:j<o.length-1-i) :
  ∃ g cap b l z,vc=.slice (some ⟨g,0,none⟩) o.length cap/\B<=g/\g≠pb/\g<w.heap.size/\w.cell? ⟨g,i,none⟩=some (.slice (some ⟨b,0,none⟩) (o.length-1-i) l)/\B<=b/\b≠pb/\b≠g/\b<w.heap.size /\
   (∀a,Ext w a->a.cell? ⟨b,j,none⟩=some z/\a.frozen? ⟨b,j,none⟩=false) /\
   ∀a u y,Ext w a->OwnIn (From w.heap.size) a u y->y.length<=N->BX N o B pb (a.setCell ⟨b,j,none⟩ u) vo vp vc:=by
 obtain⟨P,h1,q,h3⟩:=h.px;have m:i<P.orders.length:=by rw[q];exact hi
 have A:(gt P.conj i).length=o.length-1-i:=by rw[h1.cl i m,q]
 obtain⟨g,cap,b,l,z,F,⟨q1,q2⟩,q3,C,⟨r1,r2⟩,r3,D,r5,G,H⟩:=h3.openC i j (by rw[h1.c];exact m) (by rw[A];exact E);have r:=h.box.1;have hB:=h.hB;rw[A] at C;refine⟨g,cap,b,l,z,by rw[F,h1.c,q],q1,q2,q3,C,r1,r2,r3,D,λa p=>⟨p.cell r5 (by simp),(World.frozen?_of_block (p.block b D (by simp))).trans G⟩,λa u y p I hy=>⟨hB,Box3.keep h.box (grown_trans (grown_of_ext (some b) p) (grown_set1 a b j u)).size ((grown_trans (grown_of_ext (some b) p) (grown_set1 a b j u)).block _ r (λe=>r2 (by cases e;rfl))),setC P i j y,h1.setC i j m hy,q,?_⟩⟩;exact(H a u y p I).wide (λk hk=>by rcases hk with hk|hk;exact hk;exact⟨by omega,by omega⟩)
def PresN (N B:Nat) (w':World) (v:Value):Prop:=∃P,Shp N P/\PresR B P w' v
theorem PresN.weak {N B B':Nat}{w':World}{v:Value}(h:PresN N B w' v) (hB:B'<=B):PresN N B' w' v:=by
 obtain⟨P,h1,a,b,c,e,h2⟩:=h;exact⟨P,h1,a,b,c,e,h2.wide (λk hk=>Nat.le_trans hB hk)⟩
theorem BX.ret {N:Nat}{o:List Int}{B pb:Nat}{w:World}{vo vp vc:Value}(h:BX N o B pb w vo vp vc) {w':World}{r:Nat}(a:w.grownBy w' (some r)) (hr:r<B):PresN N B w' (.agg #[vo,vp,vc]):=by
 obtain⟨P,h1,h2,h3⟩:=h.px;exact⟨P,h1,_,_,_,rfl,h3.mono (frame_of a (λk hk _=>⟨hk.1,λe=>by cases e;have:B<=r:=hk.1;omega⟩))⟩
theorem BX.start {N:Nat}{o:List Int}{B:Nat}{w w':World}{vo vp vc:Value}(e:o.length<=N) (h:PresX (From B) w vo vp vc (trivP o)) (b:Ext w w') (i:Box3 w' w.heap.size vo vp vc) (hB:B<=w.heap.size):BX N o B w.heap.size w' vo vp vc:=
 ⟨hB,i,trivP o,trivP_shp o e,rfl,h.mono (λk hk a=>⟨⟨hk,by omega⟩,Nat.lt_of_lt_of_le a b.size,b.block k a (by simp)⟩)⟩
structure BXF (N:Nat) (o:List Int) (F:Nat->Prop) (pb:Nat) (w:World) (vo vp vc:Value):Prop where
 ne:¬F pb
 box:Box3 w pb vo vp vc
 px:PX N o F w vo vp vc
theorem BX.f {N:Nat}{o:List Int}{B pb:Nat}{w:World}{vo vp vc:Value}(h:BX N o B pb w vo vp vc):BXF N o (λk=>B<=k/\k≠pb) pb w vo vp vc:=⟨λh=>h.2 rfl,h.box,h.px⟩
theorem BXF.ext {N:Nat}{o:List Int}{F:Nat->Prop}{pb:Nat}{w w':World}{vo vp vc:Value}(h:BXF N o F pb w vo vp vc) (a:Ext w w'):BXF N o F pb w' vo vp vc:=⟨h.ne,h.box.ext a,h.px.ext a⟩
theorem BXF.turn {N:Nat}{o:List Int}{F F':Nat->Prop}{pb:Nat}{w:World}{vo vp vc:Value}(h:BXF N o F pb w vo vp vc) (hF:∀k,F k->k<w.heap.size->F' k) (hn:¬F' pb):BXF N o F' pb w vo vp vc:=by
 obtain⟨P,h1,h2,h3⟩:=h.px;exact⟨hn,h.box,P,h1,h2,h3.mono (λk hk a=>⟨hF k hk a,a,rfl⟩)⟩
theorem BXF.bx {N:Nat}{o:List Int}{F:Nat->Prop}{B pb:Nat}{w:World}{vo vp vc:Value}(h:BXF N o F pb w vo vp vc) (hB:B<=pb) (hF:∀k,F k->B<=k):BX N o B pb w vo vp vc:=by
 obtain⟨P,h1,h2,h3⟩:=h.px;exact⟨hB,h.box,P,h1,h2,h3.wide (λk hk=>⟨hF k hk,λe=>h.ne (e▸hk)⟩)⟩
theorem BXF.storeC {N:Nat}{o:List Int}{F:Nat->Prop}{pb:Nat}{w:World}{vo vp vc:Value}(h:BXF N o F pb w vo vp vc) (i j:Nat) (hi:i<o.length) (H:j<o.length-1-i) (hF:∀k,w.heap.size<=k->F k) :
  ∃ g cap b l z,vc=.slice (some ⟨g,0,none⟩) o.length cap/\F g/\g≠pb/\g<w.heap.size/\w.cell? ⟨g,i,none⟩=some (.slice (some ⟨b,0,none⟩) (o.length-1-i) l)/\F b/\b≠pb/\b≠g/\b<w.heap.size /\
   (∀a,Ext w a->a.cell? ⟨b,j,none⟩=some z/\a.frozen? ⟨b,j,none⟩=false) /\
   ∀a u y,Ext w a->OwnIn (From w.heap.size) a u y->y.length<=N->BXF N o F pb (a.setCell ⟨b,j,none⟩ u) vo vp vc:=by
 obtain⟨P,h1,q,h3⟩:=h.px;have m:i<P.orders.length:=by rw[q];exact hi
 have A:(gt P.conj i).length=o.length-1-i:=by rw[h1.cl i m,q]
 obtain⟨g,cap,b,l,z,I,B,q3,C,D,r3,E,r5,J,K⟩:=h3.openC i j (by rw[h1.c];exact m) (by rw[A];exact H);have r:=h.box.1;rw[A] at C;have L:g≠pb:=λe=>h.ne (e▸B);have G:b≠pb:=λe=>h.ne (e▸D);refine⟨g,cap,b,l,z,by rw[I,h1.c,q],B,L,q3,C,D,G,r3,E,λa p=>⟨p.cell r5 (by simp),(World.frozen?_of_block (p.block b E (by simp))).trans J⟩,λa u y p M hy=>⟨h.ne,Box3.keep h.box (grown_trans (grown_of_ext (some b) p) (grown_set1 a b j u)).size ((grown_trans (grown_of_ext (some b) p) (grown_set1 a b j u)).block _ r (λe=>G (by cases e;rfl))),setC P i j y,h1.setC i j m hy,q,?_⟩⟩;exact(K a u y p M).wide (λk hk=>by rcases hk with hk|hk;exact hk;exact hF k hk)
theorem trivX_shape {F:Nat->Prop}{w:World}{vo vp vc:Value}{o:List Int}(h:PresX F w vo vp vc (trivP o)):∃a c a2 c2 b c3,vo=.slice a o.length c/\vp=.slice a2 o.length c2/\vc=.slice b o.length c3:=by
 obtain⟨a,c,a2,c2,b,c3,e1,e,i⟩:=h.shape;exact⟨a,c,a2,c2,b,c3,e1,by rw[e];simp[trivP],by rw[i];simp[trivP]⟩
section
variable {α:Type} [Inhabited α] {El:(Nat->Prop)->World->Value->α->Prop}{E:Nat}
theorem SlI.putR (l:RdOk El) {F U:Nat->Prop}{g n cap:Nat}{w:World}{xs:List α}{u:Value}{y:α}(h:SlI El E F w (.slice (some ⟨g,0,none⟩) n cap) xs)
  (A:El U w u y) (hU:∀k,U k->¬F k) (j:Nat) :
  Sl (λw u x=>El (λk=>F k\/U k) w u x) (λk=>F k\/U k) (w.setCell ⟨g,j,none⟩ u) (.slice (some ⟨g,0,none⟩) n cap) (xs.set j y):=by
 obtain⟨m,G,hvl,hl,hO,hF,r,hd,hE⟩:=h;have q:=(hO.lt g rfl).2;have p:=hF g rfl
 have hn:n=m.length:=by
  obtain⟨_,⟨h,_⟩|⟨_,_,_,h,_⟩⟩:=hO<;>cases h;rfl
 subst hn
 have z:m.length<=cap:=by
  rcases hO.form with⟨h,_⟩|⟨_,_,h,h2,_⟩
  ·cases h
  ·cases h;exact h2
 obtain⟨h1,h2⟩:=World.ownsRow.stored hO j u;have h1:OwnV 0 E (w.setCell ⟨g,j,none⟩ u) (.slice (some ⟨g,0,none⟩) m.length cap) (m.set j u):=by unfold OwnV;rw[List.length_set];exact h1
 have a:(w.setCell ⟨g,j,none⟩ u).heap.size=w.heap.size:=by simp[World.setCell]
 have hblk:∀k,k≠g->(w.setCell ⟨g,j,none⟩ u).heap[k]? = w.heap[k]? :=λk hk=>Below.heap_setCell _ _ _ _ (by simpa using hk);refine⟨_,cap,by rw[List.length_set,hvl],⟨by rw[List.length_set];omega,by rw[List.length_set];exact hl,λh=>by cases h⟩,λi hi => ?_⟩;rw[List.length_set] at hi;refine⟨g,0,gt (m.set j u) i,rfl,.inl p,by rw[a];exact q,by rw[Nat.zero_add];exact h1.cell i (by rw[List.length_set];omega),?_⟩;by_cases e:j=i
 ·subst e
  rw[gt_set_eq _ _ _ (by omega),gt_set_eq _ _ _ hi];exact l.mono A (λk hk b=>⟨.inr hk,by rw[a];exact b,hblk k (λe=>hU k hk (e▸p))⟩)
 ·rw [gt_set_ne _ _ _ _ e,gt_set_ne _ _ _ _ e]
  exact l.mono (hE i hi) (λk hk b=>⟨.inl (r i k hi hk).1,by rw[a];exact b,hblk k (λe=>(r i k hi hk).2.1 (by rw[e];rfl))⟩)
end
theorem PresX.putP {F U:Nat->Prop}{w:World}{vo vp vc u:Value}{P:Pr}{y:List Int}(h:PresX F w vo vp vc P) (i:Nat) (hi:i<P.powers.length) (A:Ints U w u y) (hU:∀k,U k->¬F k) :
  ∃ g cap z,vp=.slice (some ⟨g,0,none⟩) P.powers.length cap/\F g/\g<w.heap.size/\w.cell? ⟨g,i,none⟩=some z/\w.frozen? ⟨g,i,none⟩=false /\
   Pres3 (λk=>F k\/U k) (w.setCell ⟨g,i,none⟩ u) vo vp vc (setP P i y):=by
 obtain⟨Fo,Fp,Fc,h1,m,B,r,l,C⟩:=h;rcases SlI.form m with⟨_,e⟩|⟨g,cap,rfl,a,hgl⟩
 ·rw[e] at hi;simp at hi
 obtain⟨⟨z,hz⟩,hf⟩:=SlI.place m i hi;have j:(w.setCell ⟨g,i,none⟩ u).heap.size=w.heap.size:=by simp[World.setCell]
 have hblk:∀k,k≠g->(w.setCell ⟨g,i,none⟩ u).heap[k]? = w.heap[k]? :=λk hk=>Below.heap_setCell _ _ _ _ (by simpa using hk);have p:SlI (λF w u (x:List Int)=>Ints F w u x) 24 Fp w (.slice (some ⟨g,0,none⟩) P.powers.length cap) P.powers:=SlI.map (λ_ _ _ _ h=>h.ints) m;have q:RdOk (λF w u (x:List Int)=>Ints F w u x):=⟨λh D=>Ints.mono h D,λh=>by obtain⟨_,_,rfl,_⟩:=h.shape;rfl⟩;have E:=SlI.putR q p A (λk hk h=>hU k hk (l k h).1) i;refine⟨g,cap,z,rfl,(l g a).1,hgl,hz,hf,⟨?_,?_,?_⟩⟩
 ·exact Ints.mono h1.ints (λk hk b=>⟨.inl (r k hk).1,by rw[j];exact b,hblk k (λe=>(r k hk).2.1 (e▸a))⟩)
 ·exact Rows2.sub (S:=λk=>Fp k\/U k) E (λk hk _=>hk.elim (λh => .inl (l k h).1) .inr)
 ·exact Rows3.mono (Rows3I.rows B) (λk hk b=>⟨.inl (C k hk),by rw[j];exact b,hblk k (λe=>(l g a).2 (e▸hk))⟩)
theorem PresX.putC {F U:Nat->Prop}{w:World}{vo vp vc u:Value}{P:Pr}{y:List Int}(h:PresX F w vo vp vc P) (i j:Nat) (hi:i<P.conj.length) (M:j<(gt P.conj i).length) (hu:Ints U w u y) (hU:∀k,U k->¬F k) :
  ∃ g cap b l z,vc=.slice (some ⟨g,0,none⟩) P.conj.length cap/\F g/\g<w.heap.size/\w.cell? ⟨g,i,none⟩=some (.slice (some ⟨b,0,none⟩) (gt P.conj i).length l)/\F b/\b≠g/\b<w.heap.size /\
   w.cell? ⟨b,j,none⟩=some z/\w.frozen? ⟨b,j,none⟩=false/\Pres3 (λk=>F k\/U k) (w.setCell ⟨b,j,none⟩ u) vo vp vc (setC P i j y):=by
 obtain⟨Fo,Fp,Fc,h1,h2,N,Z,h5,E⟩:=h;rcases SlI.form N with⟨_,e⟩|⟨g,cap,rfl,H,hgl⟩
 ·rw[e] at hi;simp at hi
 have O:=N;obtain⟨I,G,hvl,hl,hO,hF,L,hd,hE⟩:=N;have hn:I.length=P.conj.length:=hvl;have q:=hE i hi;rcases SlI.form q with⟨_,e⟩|⟨b,l,B,J,hbl⟩
 ·rw[e] at M;simp at M
 rw[B] at q;obtain⟨C,r,_⟩:=L i b hi J;have r:b≠g:=λe=>r (by rw[e];rfl);obtain⟨⟨z,hz⟩,hf⟩:=SlI.place q j M
 have Q:w.cell? ⟨g,i,none⟩=some (.slice (some ⟨b,0,none⟩) (gt P.conj i).length l):=by
  rw[<-B];have D:OwnV 0 25 w (.slice (some ⟨g,0,none⟩) P.conj.length cap) I:=hO;exact D.cell i (by omega)
 have K:SlI (λF w u (x:List Int)=>Ints F w u x) 24 (G i) w (.slice (some ⟨b,0,none⟩) (gt P.conj i).length l) (gt P.conj i):=SlI.map (λ_ _ _ _ h=>h.ints) q;have R:RdOk (λF w u (x:List Int)=>Ints F w u x):=⟨λh hb=>Ints.mono h hb,λh=>by obtain⟨_,_,rfl,_⟩:=h.shape;rfl⟩;have hp:=SlI.putR R K hu (λk hk h=>hU k hk (E k (L i k hi h).1)) j;have A:(w.setCell ⟨b,j,none⟩ u).heap.size=w.heap.size:=by simp[World.setCell]
 have hblk:∀k,k≠b->(w.setCell ⟨b,j,none⟩ u).heap[k]? = w.heap[k]? :=λk hk=>Below.heap_setCell _ _ _ _ (by simpa using hk);have V:=Rows3I.rows O;refine⟨g,cap,b,l,z,rfl,E g H,hgl,Q,E b C,r,hbl,hz,hf,⟨?_,?_,?_⟩⟩
 ·exact Ints.mono h1.ints (λk hk p=>⟨.inl (Z k hk).1,by rw[A];exact p,hblk k (λe=>(Z k hk).2.2 (e▸C))⟩)
 ·exact Rows2.mono (RowsI.rows h2) (λk hk p=>⟨.inl (h5 k hk).1,by rw[A];exact p,hblk k (λe=>(h5 k hk).2 (e▸C))⟩)
 ·refine ⟨_,cap,by show _=Value.slice _ (P.conj.set i _).length _;rw[List.length_set],⟨?_,?_,λh=>by cases h⟩,λk hk => ?_⟩
  ·obtain ⟨a,c,e,W,_⟩:=Sl.shape V
   cases e
   show(P.conj.set i _).length<=_;rw[List.length_set];exact W
  ·show(P.conj.set i _).length<=_;rw[List.length_set];exact hl
  ·have hk:k<P.conj.length:=by
    have hk:k<(P.conj.set i ((gt P.conj i).set j y)).length:=hk;rw[List.length_set] at hk;exact hk
   show ∃ah off X,_/\_/\_/\_/\Rows2 _ _ X (gt (P.conj.set i ((gt P.conj i).set j y)) k)
   have D:OwnV 0 25 w (.slice (some ⟨g,0,none⟩) P.conj.length cap) I:=hO
   have Y:(w.setCell ⟨b,j,none⟩ u).cell? ⟨g,0+k,none⟩=some (gt I k):=by
    rw[Nat.zero_add,World.cell?_of_block (w:=w) (a:=⟨g,k,none⟩) (hblk g (λe=>r e.symm))];exact D.cell k (by omega)
   refine⟨g,0,gt I k,rfl,.inl (E g H),by rw[A];exact hgl,Y,?_⟩;by_cases e:i=k
   ·subst e
    rw[gt_set_eq _ _ _ hi,B];exact Rows2.sub (S:=λk=>G i k\/U k) hp (λk hk _=>hk.elim (λh => .inl (E k (L i k hi h).1)) .inr)
   ·rw [gt_set_ne _ _ _ _ e]
    have hr:=RowsI.rows (hE k hk);exact Rows2.mono hr (λm hm p=>⟨.inl (E m (L k m hk hm).1),by rw[A];exact p,hblk m (λW=>e (hd i k b hi hk J (W▸hm)))⟩)
end Go.Proofs.YtldheeicjnncoaaGreat
