/- Merged from templates. -/
import Derived.Test.YtldheeicjnncoaaGreatF12
set_option maxRecDepth 100000
set_option maxHeartbeats 8000000
namespace Go.Proofs.YtldheeicjnncoaaGreat
open Go.RowKit
attribute [local go_sem ↓] Go.wp_at_zero Go.wp_at_succ
def PresQ (N B:Nat) (w':World) (v:Value):Prop:=∃(vo vp vc:Value),v=.agg #[vo,vp,vc]/\PresN3 N B w' vo vp vc
theorem PresN.q {N B:Nat}{w':World}{v:Value}(h:PresN N B w' v):PresQ N B w' v:=by
 obtain⟨P,h1,vo,vp,vc,rfl,h2⟩:=h;exact⟨_,_,_,rfl,P,h1,h2.p3⟩
theorem PresQ.mono {N M B B':Nat}{w':World}{v:Value}(h:PresQ N B w' v) (b:N<=M) (hB:B'<=B):PresQ M B' w' v:=by
 obtain⟨vo,vp,vc,rfl,P,h1,h2⟩:=h;exact⟨_,_,_,rfl,P,h1.mono b,h2.mono (λk hk a=>⟨Nat.le_trans hB hk,a,rfl⟩)⟩
theorem PresN3.shape {N B:Nat}{w':World}{vo vp vc:Value}(h:PresN3 N B w' vo vp vc):∃a n c a2 b c2 e i c3,vo=.slice a n c/\vp=.slice a2 b c2/\vc=.slice e i c3:=by
 obtain⟨Q,_,h2⟩:=h;obtain⟨j,c5,iD,_,_⟩:=h2.o.shape;obtain⟨k,c6,jk,_,_⟩:=Sl.shape h2.p;obtain⟨l,c7,jl,_,_⟩:=Sl.shape h2.c;exact⟨_,_,_,_,_,_,_,_,_,iD,jk,jl⟩
theorem hQ3 {B r:Nat}{w w':World}{vo vp vc:Value}{Q:Pr}(b:w.grownBy w' (some r)) (h:Pres3 (λk=>B<=k/\k≠r) w vo vp vc Q):Pres3 (From B) w' vo vp vc Q:=
 h.mono (λk hk a=>⟨hk.1,Nat.lt_of_lt_of_le a b.size,b.block k a (λe=>hk.2 (by cases e;rfl))⟩)
theorem l07Table_ok (w:World) (k:Int) (h0:0<=k) (h9:k<10) :
  Calls Tryz.prog 260 #[.int .i64 k] w (Ret w (PresQ 6 w.heap.size)):=by
 have R:=Box3.made w 28 (.slice none 0 0) (.slice none 0 0) (.slice none 0 0);have S:Ext w (w.alloc (.cells #[.slice none 0 0,.slice none 0 0,.slice none 0 0] 28)):=World.grownBy_alloc _ _ _;have U:(w.alloc (.cells #[.slice none 0 0,.slice none 0 0,.slice none 0 0] 28)).heap.size=w.heap.size+1:=by simp
 rcases(show k=0\/k=1\/k=2\/k=3\/k=4\/k=5\/k=6\/k=7\/k=8\/k=9 by omega) with rfl|rfl|rfl|rfl|rfl|rfl|rfl|rfl|rfl|rfl
 all_goals
  clear h0 h9;go_enter Tryz.func260,Tryz.ntmps260;go_wp2_with fail
  refine Calls.mono (ParsePresentation_ok _ _ (by decide)) ?_;rintro e1 m ⟨v1,rfl,p,vo,vp,vc,c,rfl,hP⟩;obtain⟨a1,u,c1,a2,y,c2,z,A,c3,rfl,rfl,rfl⟩:=hP.shape;have p:=grown_trans (World.grownBy_alloc _ _ _) p;have J:=R.ext p;have D:=grown_trans S p;have aj:=p.size;clear R S p;generalize w.alloc (.cells #[.slice none 0 0,.slice none 0 0,.slice none 0 0] 28)=w0 at *
  have K:∃Q,Shp 6 Q/\Pres3 (λk=>w.heap.size<=k/\k≠w.heap.size) m (.slice a1 u c1) (.slice a2 y c2) (.slice z A c3) Q:=by
   obtain⟨Q,q1,q2⟩:=hP;exact⟨Q,q1,q2.mono (λk hk a=>⟨by have hk:_<=k:=hk;simp at hk;omega,a,rfl⟩)⟩
  have ae:w.heap.size+1<=m.heap.size:=by omega
  have af:=Lib.hid U;clear U hP p;obtain⟨q0,q1,q2,q3,q4⟩:=id J;by_cases hc:c=0
  ·subst hc
   have l:=World.grownBy_alloc (((m.setCell ⟨w.heap.size,0,none⟩ (.slice a1 u c1)).setCell ⟨w.heap.size,1,none⟩ (.slice a2 y c2)).setCell ⟨w.heap.size,2,none⟩ (.slice z A c3)) (.cells #[.slice a1 u c1,.slice a2 y c2,.slice z A c3] 28) none;have q:=(J.all (.slice a1 u c1) (.slice a2 y c2) (.slice z A c3)).ext l;obtain⟨-,z0,z1,z2,-⟩:=id q;have b:=grown_set3 m w.heap.size (.slice a1 u c1) (.slice a2 y c2) (.slice z A c3);have L:=Lib.hid (And.intro b (And.intro K l));clear q b K l;go_wp2_with fail
   refine bodyPost_ret (v := .agg #[.slice a1 u c1,.slice a2 y c2,.slice z A c3]) (by simp[results,Tryz.results260,go_sem,z0,z1,z2]) rfl ?_;obtain⟨b,⟨Q,k1,k2⟩,l⟩:=L.out;exact⟨_,rfl,grown_trans (grown_own D b (λj V a=>by cases V;omega)) l,_,_,_,rfl,Q,k1,(hQ3 b k2).ext l⟩
  ·have al:(c != 0)=true:=by simp[hc]
   clear hc;have l:Ext m (m.alloc (.cells #[.slice a1 u c1,.slice a2 y c2,.slice z A c3] 28)):=World.grownBy_alloc _ _ _;have W:=Box3.made m 28 (.slice a1 u c1) (.slice a2 y c2) (.slice z A c3);have ab:(m.alloc (.cells #[.slice a1 u c1,.slice a2 y c2,.slice z A c3] 28)).heap.size=m.heap.size+1:=by simp
   go_wp2_with fail
   generalize m.alloc (.cells #[.slice a1 u c1,.slice a2 y c2,.slice z A c3] 28)=X at *;have M:Ext X (X.alloc (.cells #[.int .i64 2] 2)):=World.grownBy_alloc _ _ _
   have hL:Ints Any (X.alloc (.cells #[.int .i64 2] 2)) (.slice (some ⟨X.heap.size,0,none⟩) 1 1) [2]:=
    ints_of_own (show Own 0 _ _ [2] from World.ownsRow_lit X #[.int .i64 2] 1 (Nat.zero_le _) (by decide) rfl) (by simp) (λ_ _=>trivial)
   rw[ab] at hL;refine Calls.mono (l07Trivial_ok _ _ [2] _ hL (by simp)) ?_;rintro e3 Z ⟨v3,rfl,N,vo,vp,vc,rfl,fS⟩;obtain⟨E,c4,F,c5,G,c6,rfl,rfl,rfl⟩:=trivX_shape fS;have H:=grown_trans l (grown_trans M N);have B:=J.ext H;have r:=W.ext (grown_trans M N);have Y:=grown_trans D H;have ad:Pres3 (λk=>w.heap.size<=k/\k≠w.heap.size) Z (.slice E 1 c4) (.slice F 1 c5) (.slice G 1 c6) (trivP [2]):=fS.p3.mono (λk hk a=>⟨by have hk:_<=k:=hk;simp at hk;omega,a,rfl⟩);have C:Pres3 (λk=>m.heap.size<k) Z (.slice E 1 c4) (.slice F 1 c5) (.slice G 1 c6) (trivP [2]):=fS.p3.mono (λk hk a=>⟨by have hk:_<=k:=hk;simp at hk;omega,a,rfl⟩);clear fS ad hL W K q0 q1 q2 q3 q4 N M;obtain⟨p0,p1,p2,p3,p4⟩:=id r;obtain⟨q0,q1,q2,q3,q4⟩:=id B;have i:=grown_set3 Z m.heap.size (.slice E 1 c4) (.slice F 1 c5) (.slice G 1 c6);have I:=r.all (.slice E 1 c4) (.slice F 1 c5) (.slice G 1 c6);have O:=Box3.keep B i.size (i.block _ B.1 (λe=>by have:=Option.some.inj e;omega));obtain⟨r0,r1,r2,r3,r4⟩:=id I;obtain⟨s0,s1,s2,s3,s4⟩:=id O;have q:=O.all (.slice E 1 c4) (.slice F 1 c5) (.slice G 1 c6);obtain⟨-,z0,z1,z2,-⟩:=id q;have b:=grown_set3 (((Z.setCell ⟨m.heap.size,0,none⟩ (.slice E 1 c4)).setCell ⟨m.heap.size,1,none⟩ (.slice F 1 c5)).setCell ⟨m.heap.size,2,none⟩ (.slice G 1 c6)) w.heap.size (.slice E 1 c4) (.slice F 1 c5) (.slice G 1 c6);have L:=Lib.hid (And.intro i (And.intro b C));clear q b i C B r I O;go_wp2_with fail
   refine bodyPost_ret (v := .agg #[.slice E 1 c4,.slice F 1 c5,.slice G 1 c6]) (by simp[results,Tryz.results260,go_sem,z0,z1,z2]) rfl ?_;obtain⟨i,b,C⟩:=L.out;refine⟨_,rfl,grown_own (grown_own Y i (λj V a=>by have:=Option.some.inj V;omega)) b (λj V a=>by have:=Option.some.inj V;omega),_,_,_,rfl,trivP [2],trivP_shp _ (by simp),C.mono (λk hk a=>⟨(show w.heap.size<=k by omega),?_,?_⟩)⟩
   ·exact Nat.lt_of_lt_of_le a (Nat.le_trans i.size b.size)
   ·exact(b.block k (Nat.lt_of_lt_of_le a i.size) (λe=>by have:=Option.some.inj e;omega)).trans (i.block k a (λe=>by have:=Option.some.inj e;omega))
theorem i64_succ (i:Nat) (h:i<100000):IntKind.i64.wrap ((i:Int)+1)=(i:Int)+1:=IntWalk.i64_in _ (by omega)
theorem w64_succ (i:Nat) (h:i<100000):wrap64 ((i:Int)+1)=(i:Int)+1:=IntWalk.wrap64_in _ (by omega)
theorem i64_sp (k:Nat) (h:k<100000):IntKind.i64.wrap (((k+1:Nat):Int)-1)=(k:Int):=by
 rw[show((k+1:Nat):Int)-1=(k:Int) by omega];exact IntWalk.i64_in _ (by omega)
theorem w64_sp (k:Nat) (h:k<100000):wrap64 (((k+1:Nat):Int)-1)=(k:Int):=by
 rw[show((k+1:Nat):Int)-1=(k:Int) by omega];exact IntWalk.wrap64_in _ (by omega)
theorem l07Meta_ok (w:World) (n m r s:Int) (hn:1<=n/\n<=729) (hm:1<=m/\m<=729) (hr:0<=r/\r<30000) (hs:0<=s/\s<=1000000000) :
  Calls Tryz.prog 261 #[.int .i64 n,.int .i64 m,.int .i64 r,.int .i64 s] w (Ret w (PresN 18 w.heap.size)):=by
 obtain⟨n,rfl⟩:=Int.eq_ofNat_of_zero_le (show 0<=n by omega);obtain⟨m,rfl⟩:=Int.eq_ofNat_of_zero_le (show 0<=m by omega);have aO:∀w',Ext (w.alloc (.cells #[.slice none 0 0,.slice none 0 0,.slice none 0 0] 28)) w'->Box3 w' w.heap.size (.slice none 0 0) (.slice none 0 0) (.slice none 0 0):=λw' h=>(Box3.made w 28 _ _ _).ext h;have aQ:Ext w (w.alloc (.cells #[.slice none 0 0,.slice none 0 0,.slice none 0 0] 28)):=World.grownBy_alloc _ _ _;have aR:(w.alloc (.cells #[.slice none 0 0,.slice none 0 0,.slice none 0 0] 28)).heap.size=w.heap.size+1:=by simp
 have S:0<=r%(m:Int):=Int.emod_nonneg _ (by omega);have Y:r%(m:Int)<m:=Int.emod_lt_of_pos _ (by omega);obtain⟨pw,ai⟩:∃pw,pw=r%(m:Int):=⟨_,rfl⟩;rw[<-ai] at S Y;have bM:(m:Int)≠0:=by omega
 have HN:=Lib.hid (And.intro hn (And.intro hm (And.intro hs (And.intro aO (And.intro aR (And.intro S Y))))));clear hn aO aR S Y hs hm;go_enter Tryz.func261,Tryz.ntmps261;go_wp2_with fail
 generalize w.alloc (.cells #[.slice none 0 0,.slice none 0 0,.slice none 0 0] 28)=w0 at *;refine Calls.mono (l07Factors_ok w0 n (by have:=HN.out.1;omega)) ?_;rintro e1 w1 ⟨v1,rfl,hg1,a1,c1,t,r1,rfl,az,aS,aA⟩;go_wp2_with fail
 refine Calls.mono (l07Factors_ok w1 m (by have:=HN.out.2.1;omega)) ?_;rintro e2 w2 ⟨v2,rfl,aB,a2,c2,b,r2,rfl,aT,aU,hbx⟩;go_wp2_with fail
 refine Calls.mono (l01Own_ok w2 _ t _ (Ints.ext (az.ints (by omega)) aB) (by omega)) ?_;rintro e3 w3 ⟨v3,rfl,ak,aC⟩;go_wp2_with (at_builtin;refine wp_app_ints rfl _ _ rfl w2.heap.size v3 t rfl aC _ b rfl _ (Ints.ext (aT.ints (by omega)) ak) (by omega) ak.size ?_;intro v4 F al aV _)
 have Z:Ext w2 F:=grown_own ak aV (λj hj u=>by have:=(aC.lt j hj).1;omega);obtain⟨o,ho⟩:∃o,o=t++b:=⟨_,rfl⟩;rw[<-ho] at al;have aW:o.length=t.length+b.length:=by rw[ho];simp
 have ab:∀i,i<o.length->1<=gt o i/\gt o i<=7:=λi hi=>by
  have aX:gt o i∈t++b:=by rw[<-ho,gt_eq o i hi];exact List.getElem_mem hi
  rcases List.mem_append.1 aX with h|h
  ·have:=aA _ h;omega
  ·have:=hbx _ h;omega
 clear ho;have HT:=Lib.hid (And.intro aW (And.intro ab (And.intro aA (And.intro aS aU))));clear aW ab aA hbx aU aS;have au:o.length<=18:=by have:=HT.out;omega
 have bN:t.length<=o.length:=by have:=HT.out;omega
 obtain⟨a4,c4,hv4,_⟩:=(al.ints (by omega)).shape;subst hv4;have bO:=Z.size;have aY:Ints Any F (.slice a4 o.length c4) o:=(al.ints (by omega)).sub (λ_ _ _=>trivial);refine Calls.mono (l07Trivial_ok F _ o _ aY (by omega)) ?_;rintro e5 w5 ⟨v5,rfl,am,vo,vp,vc,rfl,q⟩;obtain⟨X,co,ap,K,U,O,rfl,rfl,rfl⟩:=trivX_shape q;go_wp2_with fail
 have aZ:Ext w5 (w5.alloc (.cells #[.slice X o.length co,.slice ap o.length K,.slice U o.length O] 28)):=World.grownBy_alloc _ _ _;have e:=BX.start (N:=18) (B:=F.heap.size) (by omega) q aZ (Box3.made w5 28 (.slice X o.length co) (.slice ap o.length K) (.slice U o.length O)) am.size;have bQ:=am.size;generalize w5.alloc (.cells #[.slice X o.length co,.slice ap o.length K,.slice U o.length O] 28)=w6 at *;have a0:Ext F w6:=grown_trans am aZ;have D:Ext w0 F:=grown_trans hg1 (grown_trans aB Z);have bm:Ints Any w1 (.slice a1 t.length c1) t:=(az.ints (by omega)).sub (λ_ _ _=>trivial);have bn:Ext w1 F:=grown_trans aB Z;clear q am az aT aC al ak aV;go_loopw [16] (λiv wr=>∃i:Nat,iv=.int .i64 i/\i<=o.length/\Ext F wr/\BX 18 o F.heap.size w5.heap.size wr (.slice X o.length co) (.slice ap o.length K) (.slice U o.length O)) (λiv _=>o.length-(intOf iv).toNat)
 case atStart=>exact⟨0,rfl,by omega,a0,e⟩
 case round =>
  clear e a0;obtain⟨i,rfl,hi,G,e⟩:=hrel;by_cases u:i+1<o.length
  ·have Q:(i:Int)+1<o.length:=by omega
   have a3:i<100000:=by omega
   have bR:t.length<100000:=by omega
   by_cases hk:(i:Int)=(t.length:Int)-1
   ·skip
    go_wp2;go_roundw
    case rel=>exact⟨i+1,by go_num,by omega,G,e⟩
    case measure=>simp[intOf];omega
   ·obtain ⟨g,cap,z,eW,hgB,hgp,hgl,ad,ae⟩:=e.storeP i (by omega)
    obtain⟨rfl,rfl⟩:ap=some ⟨g,0,none⟩/\K=cap:=by cases eW;exact⟨rfl,rfl⟩
    clear eW;have e1:∀w',Near wr g w'->w'.cell? ⟨w5.heap.size,1,none⟩=some (.slice (some ⟨g,0,none⟩) o.length K):=λw' h=>h.cell e.box.2.2.1 (by simp;omega)
    have R:∀w,Calls Tryz.prog 149 #[.int .i64 o.length,.int .i64 ((i:Int)+1)] w (Ret w λw' v=>Own w.heap.size w' v (unitV o.length (i+1))):=λw=>by
     have h:=l07Unit_ok o.length (i+1) w (by omega) (by omega);rwa [show((i+1:Nat):Int)=(i:Int)+1 by omega] at h
    have a5:(unitV o.length (i+1)).length<=9223372036854775807:=by rw[unitV_len];omega
    have L:=Lib.hid (And.intro e (And.intro ae (And.intro ad a5)));clear e ae ad a5;have bS:(i:Int)<o.length:=by omega
    go_wp2;clear hk;have aD:IntKind.i64.wrap ((i:Int)+1)=(i:Int)+1:=i64_succ _ a3;have aF:wrap64 ((i:Int)+1)=(i:Int)+1:=w64_succ _ a3
    go_region_held3 (λw'=>Near wr g w') (first|exact Near.of (grown_drew _ _)|exact Near.of (by assumption)|exact Near.store (by assumption)|assumption)
     (first
      | (go_at_call 149;refine Calls.mono (Calls.rel (w0:=wr) (by first|exact grown_drew _ _|assumption) (R _)) ?_;rintro eE M ⟨vE,rfl,a,gu,E⟩;obtain⟨aE,cE,fJ,_⟩:=(E.ints L.out.2.2.2).shape;subst fJ;have V:=(L.out.2.2.1 M a).1;have af:=(L.out.2.2.1 M a).2))
    clear aD aF;have a6:=a.size;have q:=L.out.2.1 M _ (unitV o.length (i+1)) a (OwnIn.of E (by rw[unitV_len];omega) (λk hk _=>Nat.le_trans (by assumption) hk)) (by rw[unitV_len];omega);have C:Ext F (M.setCell ⟨g,i,none⟩ (.slice aE (unitV o.length (i+1)).length cE)):=grown_own (grown_trans G a) (grown_set1 _ _ _ _) (λj hj u=>by cases hj;omega);clear V af e1;go_wp2;go_roundw
    case rel=>exact⟨i+1,by go_num,by omega,C,q⟩
    case measure=>simp[intOf];omega
  ·have Q:¬((i:Int)+1<o.length):=by omega
   have bo:t.length<=18:=by omega
   have bT:(1:Int)<=m/\(m:Int)<=729:=HN.out.2.1;by_cases bU:t.length=0
   ·have a7:¬(0:Int)<t.length:=by omega
    go_wp2;clear ai;generalize bp:r%(m:Int)=qx;clear bp;go_loopw [18] (λiv wx=>iv=.int .i64 0/\wx=wr) (λ_ _=>0)
    case atStart=>exact⟨rfl,rfl⟩
    case round=>
     obtain⟨rfl,rfl⟩:=hrel;have hz:=HN.out.2.2.2.1 _ (grown_trans D G);obtain⟨h0,h1,h2,h3',h4⟩:=id e.box;obtain⟨k0,k1,k2,k3,k4⟩:=id hz;have hZ:=hz.all (.slice X o.length co) (.slice ap o.length K) (.slice U o.length O);have hT:=grown_set3 wr w.heap.size (.slice X o.length co) (.slice ap o.length K) (.slice U o.length O);obtain⟨_,z0,z1,z2,_⟩:=id hZ;have HQ:=Lib.hid (And.intro hT e);clear hT hZ e;go_wp2;refine bodyPost_ret (v := .agg #[.slice X o.length co,.slice ap o.length K,.slice U o.length O]) (by simp[results,Tryz.results261,go_sem,z0,z1,z2]) rfl ?_;have br:=HN.out.2.2.2.2.1;have bu:=D.size;exact⟨_,rfl,grown_own (grown_trans aQ (grown_trans D G)) HQ.out.1 (λj hj u=>by cases hj;omega),(HQ.out.2.ret HQ.out.1 (by omega)).weak (by omega)⟩
   ·have a7:(0:Int)<t.length:=by omega
    obtain⟨kt,W⟩:∃kt,t.length=kt+1:=⟨t.length-1,by omega⟩;obtain⟨g,cap,z,eW,hgB,hgp,hgl,ad,ae⟩:=e.storeP kt (by omega);obtain⟨rfl,rfl⟩:ap=some ⟨g,0,none⟩/\K=cap:=by cases eW;exact⟨rfl,rfl⟩
    clear eW;have e1:∀w',Near wr g w'->w'.cell? ⟨w5.heap.size,1,none⟩=some (.slice (some ⟨g,0,none⟩) o.length K):=λw' h=>h.cell e.box.2.2.1 (by simp;omega);have ab:=HT.out.2.1
    have H:∀w' (k:Nat) (x:Int),Ext F w'->0<=x->x<=1000000000->Calls Tryz.prog 318 #[.slice a4 o.length c4,.int .i64 k,.int .i64 x] w' (Ret w' λaH r=>∃l,l.length=o.length/\Own w'.heap.size aH r l):=λw' k x he h1 h2=>
     l07Digits_ok w' _ o k x Any (aY.ext he) (by omega) ab ⟨h1,h2⟩
    have I:o.length<=9223372036854775807:=by omega
    have bw:(kt:Int)<o.length:=by omega
    have L:=Lib.hid (And.intro e (And.intro ae (And.intro ad (And.intro H (And.intro I W)))));clear e ae ad H ab I W;have aI:=HN.out.2.2.2.2.2;have aJ:=HN.out.2.2.1;go_wp2;have av:kt<100000:=by omega
    have W:=L.out.2.2.2.2.2;have aD:IntKind.i64.wrap ((t.length:Int)-1)=(kt:Int):=by rw[W];exact i64_sp kt av
    have aF:wrap64 ((t.length:Int)-1)=(kt:Int):=by rw[W];exact w64_sp kt av
    clear W
    go_region_held3 (λw'=>Near wr g w') (first|exact Near.of (grown_drew _ _)|exact Near.of (by assumption)|exact Near.store (by assumption)|assumption)
     (first
      | (go_at_call 318;refine Calls.mono (Calls.rel (w0:=wr) (by first|exact grown_drew _ _|assumption) (L.out.2.2.2.1 _ t.length s (grown_trans G (by first|exact grown_drew _ _|assumption)) aJ.1 aJ.2)) ?_;rintro eE M ⟨vE,rfl,a,gu,lE,A,E⟩;obtain⟨aE,cE,fJ,_⟩:=(E.ints (by rw[A];exact L.out.2.2.2.2.1)).shape;subst fJ;have V:=(L.out.2.2.1 M a).1;have af:=(L.out.2.2.1 M a).2))
    clear aD aF;have a6:=a.size;have q:=L.out.2.1 M _ lE a (OwnIn.of E (by rw[A];exact L.out.2.2.2.2.1) (λk hk _=>Nat.le_trans (by assumption) hk)) (by rw[A];exact au);have C:Ext F (M.setCell ⟨g,kt,none⟩ (.slice aE lE.length cE)):=grown_own (grown_trans G a) (grown_set1 _ _ _ _) (λj hj u=>by cases hj;omega);rw[A] at q C;have H:=L.out.2.2.2.1;have I:=L.out.2.2.2.2.1;have HD:=Lib.hid (And.intro H I);clear H A I L;clear V af e1 u Q bw hgB hgp hgl aJ E a a6 gu;go_wp2;rw[<-ai];clear ai;clear hi G;generalize M.setCell ⟨g,kt,none⟩ (.slice aE o.length cE)=w7 at *;go_loopw [17,18] (λpv iv wr=>∃(i:Nat) (p:Int),iv=.int .i64 i/\pv=.int .i64 p/\i<=t.length/\0<=p/\p<30000/\Ext F wr/\BX 18 o F.heap.size w5.heap.size wr (.slice X o.length co) (.slice (some ⟨g,0,none⟩) o.length K) (.slice U o.length O)) (λ_ iv _=>t.length-(intOf iv).toNat)
    case atStart=>exact⟨0,pw,rfl,rfl,by omega,aI.1,by have:=aI.2;omega,C,q⟩
    case round=>
     clear q C aI;obtain⟨i,p,rfl,rfl,hi,S,Y,G,e⟩:=hrel;by_cases u:i<t.length
     ·have Q:(i:Int)<t.length:=by omega
      obtain⟨wo,kg⟩:∃wo:World,wo=wr:=⟨_,rfl⟩;go_wp2;go_loopw [19] (λjv wx=>∃(J:Nat) (y:Int),jv=.int .i64 y/\y=((i+1+J:Nat):Int)/\i+1+J<=o.length/\Ext F wx/\BX 18 o F.heap.size w5.heap.size wx (.slice X o.length co) (.slice (some ⟨g,0,none⟩) o.length K) (.slice U o.length O)) (λjv _=>o.length-(intOf jv).toNat)
      case atStart=>exact⟨t.length-i-1,_,rfl,by omega,by omega,G,e⟩
      case round=>
       clear e G kg;obtain⟨J,y,rfl,hy,hJ,G,e⟩:=hrel;by_cases bK:i+1+J<o.length
       ·have bA:y<o.length:=by omega
        have hy0:0<=y:=by omega
        obtain⟨gc,capc,b,bb,z2,ey,hcB,hcp,V,hcell,hbB,hbp,hbg,hbl,aw,ax⟩:=e.storeC i J (by omega) (by omega);obtain⟨rfl,rfl⟩:U=some ⟨gc,0,none⟩/\O=capc:=by cases ey;exact⟨rfl,rfl⟩
        clear ey;have e1:∀w',Near wr b w'->w'.cell? ⟨w5.heap.size,2,none⟩=some (.slice (some ⟨gc,0,none⟩) o.length O):=λw' h=>h.cell e.box.2.2.2.1 (by simp;omega);have e2:∀w',Near wr b w'->w'.cell? ⟨gc,i,none⟩=some (.slice (some ⟨b,0,none⟩) (o.length-1-i) bb):=λw' h=>h.cell hcell (by simp;omega);have bc:=HD.out.1
        have R:∀w',Ext F w'->Calls Tryz.prog 318 #[.slice a4 o.length c4,.int .i64 y,.int .i64 p] w' (Ret w' λaH r=>∃l,l.length=o.length/\Own w'.heap.size aH r l):=λw' he=>by
         rw[hy];exact bc w' _ p he S (by omega)
        have HY:=Lib.hid (And.intro e (And.intro ax (And.intro aw (And.intro R hy))));clear e ax aw R bc hcell;have bX:(J:Int)<((o.length-1-i:Nat):Int):=by omega
        have bY:(i:Int)<o.length:=by omega
        go_wp2;obtain⟨d,hd⟩:∃d,d=y-(i:Int):=⟨_,rfl⟩;have aq:IntKind.i64.wrap (y-(i:Int))=d:=by rw[hd];exact IntWalk.i64_in _ (by omega)
        have ar:IntKind.i64.wrap (d-1)=(J:Int):=by rw[show d-1=(J:Int) by omega];exact IntWalk.i64_in _ (by omega)
        have aK:wrap64 (y-(i:Int))=d:=by rw[hd];exact IntWalk.wrap64_in _ (by clear aq ar;omega)
        have bC:wrap64 (d-1)=(J:Int):=by rw[show d-1=(J:Int) by clear aq aK ar;omega];exact IntWalk.wrap64_in _ (by clear aq aK ar;omega)
        clear hd hy
        go_region_held3 (λw'=>Near wr b w') (first|exact Near.of (grown_drew _ _)|exact Near.of (by assumption)|exact Near.store (by assumption)|assumption)
         (first
          | (go_at_call 318;refine Calls.mono (Calls.rel (w0:=wr) (by first|exact grown_drew _ _|assumption) (HY.out.2.2.2.1 _ (grown_trans G (by first|exact grown_drew _ _|assumption)))) ?_;rintro eE M ⟨vE,rfl,a,gu,lE,A,E⟩;obtain⟨aE,cE,fJ,_⟩:=(E.ints (by rw[A];exact HD.out.2)).shape;subst fJ;have V:=(HY.out.2.2.1 M a).1;have af:=(HY.out.2.2.1 M a).2))
        clear aq aK ar bC;have q:=HY.out.2.1 M _ lE a (OwnIn.of E (by rw[A];exact HD.out.2) (λk hk _=>Nat.le_trans (by assumption) hk)) (by rw[A];exact au);have C:Ext F (M.setCell ⟨b,J,none⟩ (.slice aE lE.length cE)):=grown_own (grown_trans G a) (grown_set1 _ _ _ _) (λj hj u=>by cases hj;omega);rw[A] at q C;have be:=HY.out.2.2.2.2;clear V af e1 e2 A;have HZ:=Lib.hid be;clear be;go_wp2;go_roundw
        case rel=>exact⟨J+1,y+1,rfl,by have:=HZ.out;omega,by omega,C,q⟩
        case measure=>have:=HZ.out;simp[intOf];omega
       ·have bA:¬(y<o.length):=by omega
        obtain⟨bt,ot,rfl,_,_,qy⟩:=Ints.at (Ints.ext bm (grown_trans bn G)) i u;have bf:2<=gt t i/\gt t i<=7:=HT.out.2.2.1 _ (by rw[gt_eq t i u];exact List.getElem_mem u);have ay:=l01Power_ok wr p (gt t i) m ⟨S,Y⟩ (by omega) (by omega);have HP:=Lib.hid (And.intro bf hy);clear bf hy;go_wp2_with fail
        refine Calls.mono ay ?_;rintro eP wP ⟨vP,rfl,lq,pn,rfl,nj,nk⟩;have C:=grown_trans G lq;have bD:=e.ext lq;clear e G ay;go_wp2;go_roundw
        case rel=>exact⟨i+1,pn,by go_num,rfl,by omega,nj,nk,C,bD⟩
        case measure=>simp[intOf];omega
     ·have Q:¬((i:Int)<t.length):=by omega
      have hz:=HN.out.2.2.2.1 _ (grown_trans D G);obtain⟨h0,h1,h2,h3',h4⟩:=id e.box;obtain⟨k0,k1,k2,k3,k4⟩:=id hz;have hZ:=hz.all (.slice X o.length co) (.slice (some ⟨g,0,none⟩) o.length K) (.slice U o.length O);have hT:=grown_set3 wr w.heap.size (.slice X o.length co) (.slice (some ⟨g,0,none⟩) o.length K) (.slice U o.length O);obtain⟨_,z0,z1,z2,_⟩:=id hZ;have HQ:=Lib.hid (And.intro hT e);clear hT hZ e;go_wp2;refine bodyPost_ret (v := .agg #[.slice X o.length co,(.slice (some ⟨g,0,none⟩) o.length K),(.slice U o.length O)]) (by simp[results,Tryz.results261,go_sem,z0,z1,z2]) rfl ?_;have br:=HN.out.2.2.2.2.1;have bu:=D.size;exact⟨_,rfl,grown_own (grown_trans aQ (grown_trans D G)) HQ.out.1 (λj hj u=>by cases hj;omega),(HQ.out.2.ret HQ.out.1 (by omega)).weak (by omega)⟩
theorem BX.by {N:Nat}{o:List Int}{B pb:Nat}{w w':World}{vo vp vc:Value}(h:BX N o B pb w vo vp vc) {r:Option Nat}(b:w.grownBy w' r) (hr:∀k,r=some k->k<B):BX N o B pb w' vo vp vc:=by
 obtain⟨P,h1,h2,h3⟩:=h.px;have hB:=h.hB;refine⟨hB,Box3.keep h.box b.size (b.block _ h.box.1 (λe=>by have:=hr _ e.symm;omega)),P,h1,h2,h3.mono (λk hk a=>⟨hk,Nat.lt_of_lt_of_le a b.size,b.block k a (λe=>by have:=hr _ e.symm;have:B<=k:=hk.1;omega)⟩)⟩
def NearS (w:World) (s g:Nat) (w':World):Prop:=∀k,k<w.heap.size->k≠s->k≠g->w'.heap[k]? = w.heap[k]?
theorem NearS.of {w w':World}{s g:Nat}(h:w.grownBy w' (some s)):NearS w s g w':=λk hk a _=>h.block k hk (λe=>a (by cases e;rfl))
theorem NearS.ext {w w':World}{s g:Nat}(h:Ext w w'):NearS w s g w':=NearS.of (grown_of_ext _ h)
theorem NearS.two {w a w':World}{s g:Nat}(h:w.grownBy a (some s)) (b:a.grownBy w' (some g)):NearS w s g w':=λk hk i j=>
 (b.block k (Nat.lt_of_lt_of_le hk h.size) (λe=>j (by cases e;rfl))).trans (h.block k hk (λe=>i (by cases e;rfl)))
theorem NearS.cell {w w':World}{s g:Nat}(h:NearS w s g w') {a:Addr}{v:Value}(i:w.cell? a=some v) (b:a.block≠g) (e:a.block≠s):w'.cell? a=some v:=
 (World.cell?_of_block (h a.block (World.block_lt_of_cell? w a i) e b)).trans i
theorem own_lit3 (w:World) (x y z:Int) {B:Nat}(hB:B<=w.heap.size):OwnIn (From B) (w.alloc (.cells #[.int .i64 x,.int .i64 y,.int .i64 z] 2)) (.slice (some ⟨w.heap.size,0,none⟩) 3 3) [x,y,z]:=
 OwnIn.of (Own.of (World.ownsRow_lit w #[.int .i64 x,.int .i64 y,.int .i64 z] 3 hB (by decide) rfl)) (by simp) (λk hk _=>hk)
def DrawR (a sb:Nat) (b : World->Value->Prop) (w':World) (v:Value):Prop := b w' v/\Src a w' sb
theorem l07Heisenberg_ok (B0:Nat) (w:World) (sb:Nat) (p:Int) (au:B0<=w.heap.size) (hs:Src B0 w sb) :
  Calls Tryz.prog 328 #[.pointer (some ⟨sb,0,none⟩),.int .i64 p] w (Mut w (some sb) (DrawR B0 sb (PresN 3 w.heap.size))):=by
 have av:∀w' r,(w.alloc (.cells #[.slice none 0 0,.slice none 0 0,.slice none 0 0] 28)).grownBy w' r->(∀k,r=some k->k≠w.heap.size)->Box3 w' w.heap.size (.slice none 0 0) (.slice none 0 0) (.slice none 0 0):=λw' r h hr=>
  Box3.keep (Box3.made w 28 _ _ _) h.size (h.block _ (by simp) (λe=>hr _ e.symm rfl))
 have aK:Ext w (w.alloc (.cells #[.slice none 0 0,.slice none 0 0,.slice none 0 0] 28)):=World.grownBy_alloc _ _ _;have aw:(w.alloc (.cells #[.slice none 0 0,.slice none 0 0,.slice none 0 0] 28)).heap.size=w.heap.size+1:=by simp
 have ax:=hs.lt;have I:=Lib.hid (And.intro av (And.intro aw (And.intro hs ax)));clear av aw hs ax;go_enter Tryz.func328,Tryz.ntmps328;go_wp2_with fail
 generalize w.alloc (.cells #[.slice none 0 0,.slice none 0 0,.slice none 0 0] 28)=w0 at *;have V:=own_lit3 w0 p p p (Nat.le_refl _);have ay:Ext w0 (w0.alloc (.cells #[.int .i64 p,.int .i64 p,.int .i64 p] 2)):=World.grownBy_alloc _ _ _;rw[I.out.2.1] at V;obtain⟨o,ho⟩:∃o,o=[p,p,p]:=⟨_,rfl⟩;have az:o.length=3:=by rw[ho];rfl
 rw[<-ho] at V;clear ho;have aX:(w0.alloc (.cells #[.int .i64 p,.int .i64 p,.int .i64 p] 2)).heap.size=w.heap.size+2:=by simp[I.out.2.1]
 generalize w0.alloc (.cells #[.int .i64 p,.int .i64 p,.int .i64 p] 2)=w1 at *;refine Calls.mono (l07Trivial_ok w1 _ o _ V.ints (by omega)) ?_;rintro e5 w5 ⟨v5,rfl,K,vo,vp,vc,rfl,gC⟩;obtain⟨W,co,ap,J,ac,L,h1,h2,h3⟩:=trivX_shape gC;subst h1 h2 h3;have X:=Lib.hid az;clear az;go_wp2_with fail
 have M:Ext w5 (w5.alloc (.cells #[.slice W o.length co,.slice ap o.length J,.slice ac o.length L] 28)):=World.grownBy_alloc _ _ _;have hX:=BX.start (N:=3) (B:=w1.heap.size) (by have:=X.out;omega) gC M (Box3.made w5 28 (.slice W o.length co) (.slice ap o.length J) (.slice ac o.length L)) K.size;have aY:=K.size;generalize w5.alloc (.cells #[.slice W o.length co,.slice ap o.length J,.slice ac o.length L] 28)=y at *;have aM:Ext w y:=grown_trans aK (grown_trans ay (grown_trans K M));have aA:Ext w0 y:=grown_trans ay (grown_trans K M);clear gC V K;obtain⟨gc,capc,b,capb,z2,ey,hcB,hcp,Y,A,hbB,hbp,hbg,hbl,lu,lz⟩:=hX.storeC 0 0 (by have:=X.out;omega) (by have:=X.out;omega);obtain⟨rfl,rfl⟩:ac=some ⟨gc,0,none⟩/\L=capc:=by cases ey;exact⟨rfl,rfl⟩
 clear ey;have q:Ext y (y.alloc (.cells #[.int .i64 0,.int .i64 1,.int .i64 1] 2)):=World.grownBy_alloc _ _ _;have aN:=own_lit3 y 0 1 1 (Nat.le_refl _);have c1:=(hX.ext q).box.2.2.2.1;have c2:=q.cell A (by simp);obtain⟨c3,c4⟩:=lu _ q;have k1:=hX.box.2.2.2.1;have aj:=lz _ _ _ q aN (by simp);have aZ:=q.size;have Z:Ext w ((y.alloc (.cells #[.int .i64 0,.int .i64 1,.int .i64 1] 2)).setCell ⟨b,0,none⟩ (.slice (some ⟨y.heap.size,0,none⟩) 3 3)):=grown_own (grown_trans aM q) (grown_set1 _ _ _ _) (λj C D=>by cases C;omega);have O:Ext w0 ((y.alloc (.cells #[.int .i64 0,.int .i64 1,.int .i64 1] 2)).setCell ⟨b,0,none⟩ (.slice (some ⟨y.heap.size,0,none⟩) 3 3)):=grown_own (grown_trans aA q) (grown_set1 _ _ _ _) (λj C D=>by cases C;have:=I.out.2.1;omega);clear lz hX;obtain⟨m,hm⟩:∃m,m=o.length-1-0:=⟨_,rfl⟩;have a0:(0:Int)<m:=by have:=X.out;omega
 have a1:0<o.length:=by have:=X.out;omega
 have a2:1<o.length:=by have:=X.out;omega
 have a3:0<m:=by have:=X.out;omega
 have aQ:(0:Int)<o.length:=by have:=X.out;omega
 have a4:(1:Int)<o.length:=by have:=X.out;omega
 rw[<-hm] at A c2;clear hm
 have heq:(y.alloc (.cells #[.int .i64 0,.int .i64 1,.int .i64 1] 2)).setCell ⟨b,0,none⟩ (.slice (some ⟨y.heap.size,0,none⟩) 3 3)=(y.setCell ⟨b,0,none⟩ (.slice (some ⟨y.heap.size,0,none⟩) 3 3)).alloc (.cells #[.int .i64 0,.int .i64 1,.int .i64 1] 2):=by
  simp[go_sem,hbl]
 rw[heq] at aj Z O
 have i1:∀w',(Instr.indexAt 26 (.slice (some ⟨gc,0,none⟩) o.length L) (.int .i64 0)).run Tryz.prog w'=.ok (.pointer (some ⟨gc,0,none⟩)) w':=λw'=>by
  rw[run_indexAt_slice (h:=by rfl),if_pos ⟨by decide,aQ⟩];kernel_rfl
 go_wp2;rw[i1];clear i1;go_wp2_with fail
 generalize (y.setCell ⟨b,0,none⟩ (.slice (some ⟨y.heap.size,0,none⟩) 3 3)).alloc (.cells #[.int .i64 0,.int .i64 1,.int .i64 1] 2)=w7 at *;have a6:=I.out.2.2.2;refine Calls.mono (l01Next_ok B0 w7 sb 2 (I.out.2.2.1.ext Z)) ?_;rintro e8 w8 ⟨v8,rfl,aa,x,rfl,hx0,hx1,al⟩;have H:=aj.by aa (λk e=>by cases e;omega)
 have Q:=grown_trans (grown_of_ext (some sb) Z) aa;have E:=grown_trans (grown_of_ext (some sb) O) aa;clear aj aa Z O c1 c2 c3 c4 k1 hx0 hx1 A lu heq;by_cases hx:x=0
 ·subst hx
  go_wp2;obtain⟨g,capg,z,eW,hgB,hgp,hgl,hcc,hst⟩:=H.storeP 0 (by omega);obtain⟨rfl,rfl⟩:ap=some ⟨g,0,none⟩/\J=capg:=by cases eW;exact⟨rfl,rfl⟩
  clear eW;have e1:∀w',NearS w8 sb g w'->w'.cell? ⟨w5.heap.size,1,none⟩=some (.slice (some ⟨g,0,none⟩) o.length J):=λw' h=>h.cell H.box.2.2.1 (by simp;omega) (by simp;omega);have ab:=Lib.hid (And.intro H (And.intro al (And.intro Q E)));clear H al Q E hcc hst
  go_region_held3 (λw'=>NearS w8 sb g w') (first|exact NearS.ext (grown_drew _ _)|exact NearS.of (by assumption)|exact NearS.of q|exact NearS.two a (grown_trans (grown_set1 _ _ _ _) (grown_of_ext _ (World.grownBy_alloc _ _ _)))|assumption)
   (first
    | (go_at_call 111;refine Calls.mono (l01Next_ok B0 w8.drew sb p (ab.out.2.1.ext (grown_drew _ _))) ?_;rintro e9 i ⟨v9,rfl,a,xa,rfl,hx0,hx1,iR⟩;have a:w8.grownBy i (some sb):=grown_trans (grown_of_ext (some sb) (grown_drew _ _)) a;have q:w8.grownBy (i.alloc (.cells #[.int .i64 0,.int .i64 0,.int .i64 xa] 2)) (some sb):=grown_trans a (grown_of_ext _ (World.grownBy_alloc _ _ _));have R:=ab.out.1.by a (λk e=>by cases e;omega);obtain⟨g',nr,z',kj,_,_,_,u,jo⟩:=R.storeP 0 (by omega);cases kj;have Y:=(u (i.alloc (.cells #[.int .i64 0,.int .i64 0,.int .i64 xa] 2)) (World.grownBy_alloc _ _ _)).1;have am:=(u (i.alloc (.cells #[.int .i64 0,.int .i64 0,.int .i64 xa] 2)) (World.grownBy_alloc _ _ _)).2))
  have F:=jo _ _ _ (World.grownBy_alloc _ _ _) (own_lit3 i 0 0 xa (Nat.le_refl _)) (by simp)
  have hq:(i.alloc (.cells #[.int .i64 0,.int .i64 0,.int .i64 xa] 2)).setCell ⟨g,0,none⟩ (.slice (some ⟨i.heap.size,0,none⟩) 3 3)=(i.setCell ⟨g,0,none⟩ (.slice (some ⟨i.heap.size,0,none⟩) 3 3)).alloc (.cells #[.int .i64 0,.int .i64 0,.int .i64 xa] 2):=by
   simp[go_sem,Nat.lt_of_lt_of_le hgl a.size]
  rw[hq] at F;have G:i.grownBy ((i.setCell ⟨g,0,none⟩ (.slice (some ⟨i.heap.size,0,none⟩) 3 3)).alloc (.cells #[.int .i64 0,.int .i64 0,.int .i64 xa] 2)) (some g):=grown_trans (grown_set1 _ _ _ _) (grown_of_ext _ (World.grownBy_alloc _ _ _));have ag:=iR.own G (λk e=>by cases e;omega);have ah:=grown_own (grown_trans ab.out.2.2.1 a) G (λj C D=>by cases C;omega);have S:=grown_own (grown_trans ab.out.2.2.2 a) G (λj C D=>by cases C;have:=I.out.2.1;omega);have ad:=F;clear F hq G Y am u jo R q a iR hx0 hx1 e1;go_wp2;generalize (i.setCell ⟨g,0,none⟩ (.slice (some ⟨i.heap.size,0,none⟩) 3 3)).alloc (.cells #[.int .i64 0,.int .i64 0,.int .i64 xa] 2)=wA at *;have aW:=I.out.2.1;obtain⟨g2,capg,z,eW,hgB,hgp,hgl,hcc,hst⟩:=ad.storeP 1 (by omega);cases eW
  have e1:∀w',NearS wA sb g w'->w'.cell? ⟨w5.heap.size,1,none⟩=some (.slice (some ⟨g,0,none⟩) o.length J):=λw' h=>h.cell ad.box.2.2.1 (by simp;omega) (by simp;omega);have ae:=Lib.hid (And.intro ad (And.intro ag (And.intro ah S)));clear ad ag ah S hcc hst
  go_region_held3 (λw'=>NearS wA sb g w') (first|exact NearS.ext (grown_drew _ _)|exact NearS.of (by assumption)|exact NearS.of q|exact NearS.two a (grown_trans (grown_set1 _ _ _ _) (grown_of_ext _ (World.grownBy_alloc _ _ _)))|assumption)
   (first
    | (go_at_call 111;refine Calls.mono (l01Next_ok B0 wA.drew sb p (ae.out.2.1.ext (grown_drew _ _))) ?_;rintro e9 l ⟨v9,rfl,a,xb,rfl,hx0,hx1,iR⟩;have a:wA.grownBy l (some sb):=grown_trans (grown_of_ext (some sb) (grown_drew _ _)) a;have q:wA.grownBy (l.alloc (.cells #[.int .i64 0,.int .i64 0,.int .i64 xb] 2)) (some sb):=grown_trans a (grown_of_ext _ (World.grownBy_alloc _ _ _));have R:=ae.out.1.by a (λk e=>by cases e;omega);obtain⟨g',nr,z',kj,_,_,_,u,jo⟩:=R.storeP 1 (by omega);cases kj;have Y:=(u (l.alloc (.cells #[.int .i64 0,.int .i64 0,.int .i64 xb] 2)) (World.grownBy_alloc _ _ _)).1;have am:=(u (l.alloc (.cells #[.int .i64 0,.int .i64 0,.int .i64 xb] 2)) (World.grownBy_alloc _ _ _)).2))
  have F:=jo _ _ _ (World.grownBy_alloc _ _ _) (own_lit3 l 0 0 xb (Nat.le_refl _)) (by simp)
  have hq:(l.alloc (.cells #[.int .i64 0,.int .i64 0,.int .i64 xb] 2)).setCell ⟨g,1,none⟩ (.slice (some ⟨l.heap.size,0,none⟩) 3 3)=(l.setCell ⟨g,1,none⟩ (.slice (some ⟨l.heap.size,0,none⟩) 3 3)).alloc (.cells #[.int .i64 0,.int .i64 0,.int .i64 xb] 2):=by
   simp[go_sem,Nat.lt_of_lt_of_le hgl a.size]
  rw[hq] at F;have G:l.grownBy ((l.setCell ⟨g,1,none⟩ (.slice (some ⟨l.heap.size,0,none⟩) 3 3)).alloc (.cells #[.int .i64 0,.int .i64 0,.int .i64 xb] 2)) (some g):=grown_trans (grown_set1 _ _ _ _) (grown_of_ext _ (World.grownBy_alloc _ _ _));have aS:=iR.own G (λk e=>by cases e;omega);have aD:=grown_own (grown_trans ae.out.2.2.1 a) G (λj C D=>by cases C;omega);have an:=grown_own (grown_trans ae.out.2.2.2 a) G (λj C D=>by cases C;have:=I.out.2.1;omega);have aE:=F;clear F hq G Y am u jo R q a iR hx0 hx1 e1;generalize (l.setCell ⟨g,1,none⟩ (.slice (some ⟨l.heap.size,0,none⟩) 3 3)).alloc (.cells #[.int .i64 0,.int .i64 0,.int .i64 xb] 2)=wB at *;have hz:=I.out.1 wB (some sb) an (λk e=>by cases e;have:=I.out.2.2.2.2;omega);obtain⟨h0,h1,h2,h3',h4⟩:=id aE.box;obtain⟨k0,k1,k2,k3,k4⟩:=id hz;have hZ:=hz.all (.slice W o.length co) (.slice (some ⟨g,0,none⟩) o.length J) (.slice (some ⟨gc,0,none⟩) o.length L);have G:=grown_set3 wB w.heap.size (.slice W o.length co) (.slice (some ⟨g,0,none⟩) o.length J) (.slice (some ⟨gc,0,none⟩) o.length L);obtain⟨_,z0,z1,z2,_⟩:=id hZ;have U:=Lib.hid (And.intro G (And.intro aE aS));clear G hZ;go_wp2;refine bodyPost_ret (v := .agg #[.slice W o.length co,(.slice (some ⟨g,0,none⟩) o.length J),.slice (some ⟨gc,0,none⟩) o.length L]) (by simp[results,Tryz.results328,go_sem,z0,z1,z2]) rfl ?_;exact⟨_,rfl,grown_own aD U.out.1 (λj C D=>by cases C;omega),(U.out.2.1.ret U.out.1 (by omega)).weak (by omega),U.out.2.2.own U.out.1 (λk e=>by cases e;exact au)⟩
 ·skip
  have hz:=I.out.1 w8 (some sb) E (λk e=>by cases e;have:=I.out.2.2.2.2;omega);obtain⟨h0,h1,h2,h3',h4⟩:=id H.box;obtain⟨k0,k1,k2,k3,k4⟩:=id hz;have hZ:=hz.all (.slice W o.length co) (.slice ap o.length J) (.slice (some ⟨gc,0,none⟩) o.length L);have G:=grown_set3 w8 w.heap.size (.slice W o.length co) (.slice ap o.length J) (.slice (some ⟨gc,0,none⟩) o.length L);obtain⟨_,z0,z1,z2,_⟩:=id hZ;have U:=Lib.hid (And.intro G (And.intro H al));clear G hZ;go_wp2;refine bodyPost_ret (v := .agg #[.slice W o.length co,(.slice ap o.length J),.slice (some ⟨gc,0,none⟩) o.length L]) (by simp[results,Tryz.results328,go_sem,z0,z1,z2]) rfl ?_;exact⟨_,rfl,grown_own Q U.out.1 (λj C D=>by cases C;omega),(U.out.2.1.ret U.out.1 (by omega)).weak (by omega),U.out.2.2.own U.out.1 (λk e=>by cases e;exact au)⟩
theorem w64_sm2 (x y:Int) (h:x=y) (a:0<=x/\x<=1000):wrap64 x=y/\IntKind.i64.wrap x=y:=⟨by rw[<-h];exact w64_small x a,by rw[<-h];exact i64_small x a⟩
theorem l07Affine_ok (w:World) (p n:Int) (rv:Value) (R:List (List Int)) (S:Nat->Prop) (hr:Rows2 S w rv R) (hR:SmR R.length R) (hp:1<=p/\p<=7) (hn:1<=n/\n<=729) (ct:R.length<=9) :
  Calls Tryz.prog 329 #[.int .i64 p,rv,.int .i64 n] w (Ret w (PresN 18 w.heap.size)):=by
 obtain⟨ar,capr,rfl,_,_⟩:=Sl.shape hr;obtain⟨n,rfl⟩:=Int.eq_ofNat_of_zero_le (show 0<=n by omega);have aW:∀w',Ext (w.alloc (.cells #[.slice none 0 0,.slice none 0 0,.slice none 0 0] 28)) w'->Box3 w' w.heap.size (.slice none 0 0) (.slice none 0 0) (.slice none 0 0):=λw' h=>(Box3.made w 28 _ _ _).ext h;have aX:Ext w (w.alloc (.cells #[.slice none 0 0,.slice none 0 0,.slice none 0 0] 28)):=World.grownBy_alloc _ _ _;have aY:(w.alloc (.cells #[.slice none 0 0,.slice none 0 0,.slice none 0 0] 28)).heap.size=w.heap.size+1:=by simp
 have HN:=Lib.hid (And.intro hn (And.intro hp (And.intro hR (And.intro aW aY))));clear hn aW aY hp hR;go_enter Tryz.func329,Tryz.ntmps329;go_wp2_with fail
 generalize w.alloc (.cells #[.slice none 0 0,.slice none 0 0,.slice none 0 0] 28)=w0 at *;refine Calls.mono (l07Factors_ok w0 n (by have:=HN.out.1;omega)) ?_;rintro e1 w1 ⟨v1,rfl,hg1,a1,c1,t,r1,rfl,ah,ht9,a0⟩;go_wp2_with fail
 refine Calls.mono (l01Own_ok w1 _ t _ (ah.ints (by omega)) (by omega)) ?_;rintro e2 w2 ⟨v2,rfl,hg2,lB⟩;have bN:Ints Any w1 (.slice a1 t.length c1) t:=(ah.ints (by omega)).sub (λ_ _ _=>trivial);have HT:=Lib.hid (And.intro a0 ah);clear a0 ah;go_wp2_with fail
 go_loopw [9,10] (λov iv wr=>∃(i:Nat) (l:List Int) (v4:Value),v4=ov/\iv=.int .i64 i/\i<=R.length/\l.length=t.length+i/\Ext w1 wr/\Own w1.heap.size wr v4 l) (λ_ iv _=>R.length-(intOf iv).toNat)
 case atStart=>exact⟨0,t,_,rfl,rfl,by omega,rfl,hg2,lB⟩
 case round =>
  clear lB hg2;obtain⟨i,l,v4,rfl,rfl,hi,ad,C,hO⟩:=hrel;by_cases a:i<R.length
  ·have E:(i:Int)<R.length:=by omega
   have a2:l.length<=1000000:=by omega
   have HL:=Lib.hid (And.intro a2 ad);clear a2 ad;go_wp2_with (first|(at_builtin;refine wp_app_int rfl _ _ rfl w1.heap.size v4 l p rfl wr hO rfl rfl HL.out.1 C.size ?_;intro v5 G bO V;have a5:=grown_own C V (λj hj a=>by have:=(hO.lt j hj).1;omega))|fail)
   go_roundw
   case rel=>exact⟨i+1,_,v5,rfl,by go_num,by omega,by rw[List.length_append,HL.out.2];rfl,a5,bO⟩
   case measure=>simp[intOf];omega
  ·have E : ¬((i:Int)<R.length):=by omega
   have bQ:i=R.length:=by omega
   subst bQ;obtain⟨o,ho⟩:∃o,o=l:=⟨_,rfl⟩;rw[<-ho] at hO ad;clear ho;have ce:o.length<=18:=by omega
   have cx:t.length<=o.length:=by omega
   obtain⟨a4,c4,hv4,_⟩:=(hO.ints (by omega)).shape;subst hv4;have bR:Ints Any wr (.slice a4 o.length c4) o:=(hO.ints (by omega)).sub (λ_ _ _=>trivial);have cz:=C.size;clear hO;obtain⟨F,hw4⟩:∃F:World,F=wr:=⟨_,rfl⟩;subst hw4;have HO:=Lib.hid ad;clear ad;go_wp2_with fail
   refine Calls.mono (l07Trivial_ok F _ o _ bR (by omega)) ?_;rintro e5 G ⟨v5,rfl,V,vo,vp,vc,rfl,I⟩;obtain⟨ao,co,ap,O,W,Q,rfl,rfl,rfl⟩:=trivX_shape I;go_wp2_with fail
   have a6:Ext G (G.alloc (.cells #[.slice ao o.length co,.slice ap o.length O,.slice W o.length Q] 28)):=World.grownBy_alloc _ _ _;have y:=BX.start (N:=18) (B:=F.heap.size) (by omega) I a6 (Box3.made G 28 (.slice ao o.length co) (.slice ap o.length O) (.slice W o.length Q)) V.size;have bS:=V.size;generalize G.alloc (.cells #[.slice ao o.length co,.slice ap o.length O,.slice W o.length Q] 28)=w6 at *;have a7:Ext F w6:=grown_trans V a6;have U:Ext w0 F:=grown_trans hg1 C;clear I V;go_loopw [13] (λiv wr=>∃i:Nat,iv=.int .i64 i/\i<=t.length/\Ext F wr/\BX 18 o F.heap.size G.heap.size wr (.slice ao o.length co) (.slice ap o.length O) (.slice W o.length Q)) (λiv _=>t.length-(intOf iv).toNat)
   case atStart=>exact⟨0,rfl,by omega,a7,y⟩
   case round =>
    clear y a7;have a':=C;clear C hi a E;obtain⟨i,rfl,hi,C,y⟩:=hrel;by_cases a:i+1<t.length
    ·have E:(i:Int)+1<t.length:=by omega
     obtain⟨g,cap,z,eW,hgB,hgp,hgl,bb,bc⟩:=y.storeP i (by omega);obtain⟨rfl,rfl⟩:ap=some ⟨g,0,none⟩/\O=cap:=by cases eW;exact⟨rfl,rfl⟩
     clear eW;have e1:∀w',Near wr g w'->w'.cell? ⟨G.heap.size,1,none⟩=some (.slice (some ⟨g,0,none⟩) o.length O):=λw' h=>h.cell y.box.2.2.1 (by simp;omega)
     have m:∀w,Calls Tryz.prog 149 #[.int .i64 o.length,.int .i64 ((i:Int)+1)] w (Ret w λw' v=>Own w.heap.size w' v (unitV o.length (i+1))):=λw=>by
      have h:=l07Unit_ok o.length (i+1) w (by omega) (by omega);rwa [show((i+1:Nat):Int)=(i:Int)+1 by omega] at h
     have bd:(unitV o.length (i+1)).length<=9223372036854775807:=by rw[unitV_len];omega
     have HX:=Lib.hid (And.intro y (And.intro bc (And.intro bb bd)));clear y bc bb bd;have cD:(i:Int)<o.length:=by omega
     have be:i<100000:=by omega
     go_wp2;have bT:IntKind.i64.wrap ((i:Int)+1)=(i:Int)+1:=i64_succ _ be;have bU:wrap64 ((i:Int)+1)=(i:Int)+1:=w64_succ _ be
     go_region_held3 (λw'=>Near wr g w') (first|exact Near.of (grown_drew _ _)|exact Near.of (by assumption)|exact Near.store (by assumption)|assumption)
      (first
       | (go_at_call 149;refine Calls.mono (Calls.rel (w0:=wr) (by first|exact grown_drew _ _|assumption) (m _)) ?_;rintro eE H ⟨vE,rfl,D,gu,ae⟩;obtain⟨aE,cE,fJ,_⟩:=(ae.ints HX.out.2.2.2).shape;subst fJ;have ai:=(HX.out.2.2.1 H D).1;have aD:=(HX.out.2.2.1 H D).2))
     clear bT bU;have cH:=D.size;have I:=HX.out.2.1 H _ (unitV o.length (i+1)) D (OwnIn.of ae (by rw[unitV_len];omega) (λk hk _=>Nat.le_trans (by assumption) hk)) (by rw[unitV_len];omega);have aF:Ext F (H.setCell ⟨g,i,none⟩ (.slice aE (unitV o.length (i+1)).length cE)):=grown_own (grown_trans C D) (grown_set1 _ _ _ _) (λj hj a=>by cases hj;omega);clear ai aD e1;go_wp2;go_roundw
     case rel=>exact⟨i+1,by go_num,by omega,aF,I⟩
     case measure=>simp[intOf];omega
    ·have E:¬((i:Int)+1<t.length):=by omega
     have bh:Ext w wr:=grown_trans aX (grown_trans U C);have bi:∀x∈R,x.length<=1000000:=λx hx=>by have:=(HN.out.2.2.1 x hx).1;omega
     have m:=l01Own2_ok wr _ R _ (Rows2.ext hr bh) bi (by omega);clear bi;go_wp2_with fail
     refine Calls.mono m ?_;rintro e8 w8 ⟨v8,rfl,iq,aH⟩;clear m;obtain⟨a8,c8,gj,_,_⟩:=SlD.shape (aH.toD (by omega));subst gj;have bj:Rows2 (λk=>wr.heap.size<=k/\k<w8.heap.size) w8 (.slice a8 R.length c8) R:=(RowsD.rows (aH.toD (by omega))).sub (λk hk a=>⟨hk,a⟩)
     have bk:BXF 18 o (λk=>F.heap.size<=k/\k≠G.heap.size/\¬(wr.heap.size<=k/\k<w8.heap.size)) G.heap.size w8 (.slice ao o.length co) (.slice ap o.length O) (.slice W o.length Q):=
      (y.f.turn (F':=λk=>F.heap.size<=k/\k≠G.heap.size/\¬(wr.heap.size<=k/\k<w8.heap.size)) (λk hk a=>⟨hk.1,hk.2,by omega⟩) (λh=>h.2.1 rfl)).ext iq
     have an:Ext F w8:=grown_trans C iq;have cg:=iq.size;clear y aH a E hi;go_wp2
     go_loopw [14,15] (λav iv K=>∃(i lo hi:Nat) (aA:Option Addr) (cA:Nat) (A:List (List Int)),av=.slice aA R.length cA/\iv=.int .i64 i/\i<=t.length/\A.length=R.length/\SmR R.length A/\hi<=K.heap.size/\Rows2 (λk=>lo<=k/\k<hi) K (.slice aA R.length cA) A/\Ext F K /\
      BXF 18 o (λk=>F.heap.size<=k/\k≠G.heap.size/\¬(lo<=k/\k<hi)) G.heap.size K (.slice ao o.length co) (.slice ap o.length O) (.slice W o.length Q)) (λ_ iv _=>t.length-(intOf iv).toNat)
     case atStart=>exact⟨0,wr.heap.size,w8.heap.size,a8,c8,R,rfl,rfl,by omega,rfl,HN.out.2.2.1,Nat.le_refl _,bj,an,bk⟩
     case round=>
      clear bj an bk iq bh C;obtain⟨i,lo,X,aA,cA,A,rfl,rfl,hi,bm,bn,hhi,hA,C,y⟩:=hrel;by_cases a:i<t.length
      ·have E:(i:Int)<t.length:=by omega
       have HA:=Lib.hid (And.intro bm bn);clear bm bn;go_wp2
       go_loopw [16] (λjv K=>∃j:Nat,jv=.int .i64 j/\j<=R.length/\X<=K.heap.size/\Rows2 (λk=>lo<=k/\k<X) K (.slice aA R.length cA) A/\Ext F K /\
        BXF 18 o (λk=>F.heap.size<=k/\k≠G.heap.size/\¬(lo<=k/\k<X)) G.heap.size K (.slice ao o.length co) (.slice ap o.length O) (.slice W o.length Q)) (λjv _=>R.length-(intOf jv).toNat)
       case atStart=>exact⟨0,rfl,by omega,hhi,hA,C,y⟩
       case round=>
        clear y C hA hhi;obtain⟨j,rfl,hj,hhi,hA,C,y⟩:=hrel;by_cases ch:j<R.length
        ·have aJ:(j:Int)<R.length:=by omega
         have bp:=HO.out;obtain⟨J,hJ⟩:∃J,J=t.length+j-i-1:=⟨_,rfl⟩;have bX:J<o.length-1-i:=by omega
         obtain⟨gc,capc,b,bq,z2,ey,hcB,hcp,ai,hcell,hbB,hbp,hbg,hbl,aq,au⟩:=y.storeC i J (by omega) bX (λk hk=>⟨by have:=C.size;omega,by have:=y.box.1;omega,by omega⟩);obtain⟨rfl,rfl⟩:W=some ⟨gc,0,none⟩/\Q=capc:=by cases ey;exact⟨rfl,rfl⟩
         clear ey;have br:j<A.length:=by have:=HA.out.1;omega
         obtain⟨ba,oa,az,aw,rfl,bu,_,aK,aL⟩:=Rows2.at hA j br;have aj:=HA.out.2 _ (gtMem br);obtain⟨zr,bw⟩:∃zr,zr=gt A j:=⟨_,rfl⟩;rw[<-bw] at aK aL aj;clear bw;have ck:ba≠b:=λe=>hbB.2.2 (e▸bu);have e1:∀w',Near wr b w'->w'.cell? ⟨G.heap.size,2,none⟩=some (.slice (some ⟨gc,0,none⟩) o.length Q):=λw' h=>h.cell y.box.2.2.2.1 (by simp;omega);have e2:∀w',Near wr b w'->w'.cell? ⟨gc,i,none⟩=some (.slice (some ⟨b,0,none⟩) (o.length-1-i) bq):=λw' h=>h.cell hcell (by simp;omega);have e3:∀w',Near wr b w'->w'.cell? ⟨ba,oa+j,none⟩=some (.slice az zr.length aw):=λw' h=>h.cell aK (by simp;omega)
         have m:∀w',Ext wr w'->Calls Tryz.prog 330 #[.int .i64 t.length,.slice az zr.length aw,.int .i64 0] w' (Ret w' λbZ r=>∃l,l.length<=18/\Own w'.heap.size bZ r l):=λw' he=>
          Calls.mono (l07Shift_ok w' t.length _ zr 0 _ (Ints.ext aL he) (by have:=aj.1;omega)) (λe w2 ⟨v,h1,h2,h3⟩=>⟨v,h1,h2,_,by simp[shiftL];have:=aj.1;omega,h3⟩)
         have bz:∀H u,Ext wr H->Rows2 (λk=>lo<=k/\k<X) (H.setCell ⟨b,J,none⟩ u) (.slice (some ⟨ba,oa,none⟩) R.length cA) A:=λH u he=>Rows2.mono hA (λk hk a=>by
          have hT:wr.grownBy (H.setCell ⟨b,J,none⟩ u) (some b):=grown_trans (grown_of_ext _ he) (grown_set1 _ _ _ _);exact⟨hk,Nat.lt_of_lt_of_le a hT.size,hT.block k a (λe=>hbB.2.2 (by cases e;exact hk))⟩)
         have HY:=Lib.hid (And.intro au (And.intro aq (And.intro m bz)));clear au aq m hcell aK aL bz aj;have cJ:(J:Int)<((o.length-1-i:Nat):Int):=by omega
         have cK:(i:Int)<o.length:=by omega
         have M:=w64_sm2 ((t.length:Int)+j) ((t.length+j:Nat):Int) (by omega) (by omega);have Y:=w64_sm2 (((t.length+j:Nat):Int)-i) ((t.length+j-i:Nat):Int) (by clear M;omega) (by clear M;omega);have aM:=w64_sm2 (((t.length+j-i:Nat):Int)-1) (J:Int) (by clear M Y;omega) (by clear M Y;omega);generalize ((t.length+j:Nat):Int)=d1 at M Y;generalize ((t.length+j-i:Nat):Int)=d2 at Y aM;have HW:=Lib.hid (And.intro M (And.intro Y aM));clear M Y aM;have cm:=y.box.1;have HJ:=Lib.hid (And.intro bp hJ);clear bp hJ y hA;go_wp2;obtain⟨⟨q1,q2⟩,⟨q3,q4⟩,q5,q6⟩:=HW.out
         go_region_held3 (λw'=>Near wr b w') (first|exact Near.of (grown_drew _ _)|exact Near.of (by assumption)|exact Near.store (by assumption)|assumption)
          (first
           | (go_at_call 330;refine Calls.mono (Calls.rel (w0:=wr) (by first|exact grown_drew _ _|assumption) (HY.out.2.2.1 _ (by first|exact grown_drew _ _|assumption))) ?_;rintro eE H ⟨vE,rfl,D,gu,lE,aN,ae⟩;obtain⟨aE,cE,fJ,_⟩:=(ae.ints (Nat.le_trans aN (by decide))).shape;subst fJ;have ai:=(HY.out.2.1 H D).1;have aD:=(HY.out.2.1 H D).2))
         clear q1 q2 q3 q4 q5 q6;have I:=HY.out.1 H _ lE D (OwnIn.of ae (Nat.le_trans aN (by decide)) (λk hk _=>Nat.le_trans (by assumption) hk)) aN;have b1:=HY.out.2.2.2 H (.slice aE lE.length cE) D;have aF:Ext F (H.setCell ⟨b,J,none⟩ (.slice aE lE.length cE)):=grown_own (grown_trans C D) (grown_set1 _ _ _ _) (λj hj a=>by cases hj;omega);have ax:X<=(H.setCell ⟨b,J,none⟩ (.slice aE lE.length cE)).heap.size:=by have:=D.size;simp;omega
         clear ai aD e1 e2 e3;have HZ:=Lib.hid ax;clear ax;go_wp2;go_roundw
         case rel=>exact⟨j+1,by go_num,by omega,HZ.out,b1,aF,I⟩
         case measure=>simp[intOf];omega
        ·have aJ:¬((j:Int)<R.length):=by omega
         obtain⟨bt,ot,rfl,_,_,aO⟩:=Ints.at (Ints.ext bN (grown_trans a' C)) i a;have b2:2<=gt t i/\gt t i<=7:=HT.out.1 _ (gtMem a);obtain⟨te,ay⟩:∃te,te=gt t i:=⟨_,rfl⟩;rw[<-ay] at aO b2;clear ay;have bC:=Rows2.sub hA (S':=Any) (λ_ _ _=>trivial);obtain⟨wo,aQ⟩:∃wo:World,wo=wr:=⟨_,rfl⟩;rw[<-aQ] at aO bC;have Z:Ext wo wr:=by rw[aQ];exact Ext.refl _
         go_wp2
         go_loopw [14,18] (λav tv K=>∃(q ak af:Nat) (aB:Option Addr) (cB:Nat) (B:List (List Int)),av=.slice aB R.length cB/\tv=.int .i64 q/\1<=q/\q<=7/\B.length=R.length/\SmR R.length B/\af<=K.heap.size/\Rows2 (λk=>ak<=k/\k<af) K (.slice aB R.length cB) B/\Ext wo K/\Ext F K /\
          BXF 18 o (λk=>F.heap.size<=k/\k≠G.heap.size/\¬(ak<=k/\k<af)) G.heap.size K (.slice ao o.length co) (.slice ap o.length O) (.slice W o.length Q)) (λ_ tv _=>8-(intOf tv).toNat)
         case atStart=>exact⟨1,lo,X,aA,cA,A,rfl,rfl,by omega,by omega,HA.out.1,HA.out.2,hhi,hA,Z,C,y⟩
         case round=>
          clear y C hA hhi Z aQ;obtain⟨q,ak,af,aB,cB,B,rfl,rfl,b4,hq7,al,ag,hhi,hB,Z,C,y⟩:=hrel;have aC:=Z.cell aO (by simp);by_cases cO:(q:Int)<te
          ·have m:=l02Product_ok wr p _ _ B A R.length _ _ hB (Rows2.ext bC Z) HN.out.2.1 ag HA.out.2 (by omega) (by omega)
           have HB:=Lib.hid (And.intro al ag);clear al ag;obtain⟨wp,hwp⟩:∃wp:World,wp=wr:=⟨_,rfl⟩;go_wp2_with fail
           refine Calls.mono m ?_;rintro e9 w9 ⟨v9,rfl,jq,L,aS,bE,aT⟩;clear m;obtain⟨a9,c9,lC,_,_⟩:=SlD.shape (aT.toD (by have:=HB.out.1;omega));rw[aS,HB.out.1] at lC;subst lC;have b5:=(RowsD.rows (aT.toD (by have:=HB.out.1;omega))).sub (S':=λk=>wr.heap.size<=k/\k<w9.heap.size) (λk hk a=>⟨hk,a⟩)
           have b6:BXF 18 o (λk=>F.heap.size<=k/\k≠G.heap.size/\¬(wr.heap.size<=k/\k<w9.heap.size)) G.heap.size w9 (.slice ao o.length co) (.slice ap o.length O) (.slice W o.length Q):=
            (y.turn (F':=λk=>F.heap.size<=k/\k≠G.heap.size/\¬(wr.heap.size<=k/\k<w9.heap.size)) (λk hk a=>⟨hk.1,hk.2.1,by omega⟩) (λh=>h.2.1 rfl)).ext jq
           have bF:=grown_trans Z jq;have bG:=grown_trans C jq;have cq:=jq.cell aC (by simp);have HL:=Lib.hid (And.intro aS bE);clear aS bE;clear aC y jq hB aT;go_wp2;go_roundw
           case rel=>exact⟨q+1,wr.heap.size,w9.heap.size,a9,c9,L,rfl,by go_num,by omega,by omega,by rw[HL.out.1,HB.out.1],HL.out.2,Nat.le_refl _,b5,bF,bG,b6⟩
           case measure=>simp[intOf];omega
          ·have HB:=Lib.hid (And.intro al ag);clear al ag
           go_wp2;go_roundw
           case rel=>exact⟨i+1,ak,af,aB,cB,B,rfl,by go_num,by omega,HB.out.1,HB.out.2,hhi,hB,C,y⟩
           case measure=>simp[intOf];omega
      ·have E:¬((i:Int)<t.length):=by omega
       have hz:=HN.out.2.2.2.1 _ (grown_trans U C);clear hA;obtain⟨h0,h1,h2,h3',h4⟩:=id y.box;obtain⟨k0,k1,k2,k3,k4⟩:=id hz;have hZ:=hz.all (.slice ao o.length co) (.slice ap o.length O) (.slice W o.length Q);have hT:=grown_set3 wr w.heap.size (.slice ao o.length co) (.slice ap o.length O) (.slice W o.length Q);obtain⟨_,z0,z1,z2,_⟩:=id hZ;have HQ:=Lib.hid (And.intro hT y);clear hT hZ y;go_wp2;refine bodyPost_ret (v := .agg #[.slice ao o.length co,.slice ap o.length O,.slice W o.length Q]) (by simp[results,Tryz.results329,go_sem,z0,z1,z2]) rfl ?_;have b4:=HN.out.2.2.2.2;have cQ:=U.size;exact⟨_,rfl,grown_own (grown_trans aX (grown_trans U C)) HQ.out.1 (λj hj a=>by cases hj;omega),(BX.ret (BXF.bx HQ.out.2 bS (λk hk=>hk.1)) HQ.out.1 (by omega)).weak (by omega)⟩
theorem fam_ret {w b:World}{sb m N M B:Nat}{x y z:Value}(p:w.grownBy b (some sb)) (A:w.heap.size<B) (i:Src m b sb) (q:m<=w.heap.size) (hP:PresN3 N B b x y z) (r:N<=M) :
  Mut w (some sb) (DrawR m sb (PresQ M w.heap.size)) (.returned (.agg #[x,y,z])) (((b.setCell ⟨w.heap.size,0,none⟩ x).setCell ⟨w.heap.size,1,none⟩ y).setCell ⟨w.heap.size,2,none⟩ z):=by
 have l:=grown_set3 b w.heap.size x y z;obtain⟨Q,h1,h2⟩:=hP;exact⟨_,rfl,grown_own p l (λj u a=>by cases u;omega),⟨x,y,z,rfl,Q,h1.mono r,h2.mono (λk hk a=>⟨by have hk:B<=k:=hk;show w.heap.size<=k;omega,Nat.lt_of_lt_of_le a l.size,l.block k a (λe=>by have hk:B<=k:=hk;have:=Option.some.inj e;omega)⟩)⟩,i.own l (λk hk=>by cases hk;exact q)⟩
theorem ints_litL (w:World) (L:List Int) (a:L.length<=1000):Ints (λk=>k=w.heap.size) (w.alloc (.cells (L.map (Value.int .i64)).toArray 2)) (.slice (some ⟨w.heap.size,0,none⟩) L.length L.length) L:=by
 have h:Own 0 (w.alloc (.cells (L.map (Value.int .i64)).toArray 2)) (.slice (some ⟨w.heap.size,0,none⟩) L.length L.length) L:=by
  have:=World.ownsRow_lit (base:=0) (e:=2) (size:=1) w (L.map (Value.int .i64)).toArray L.length (Nat.zero_le _) (by unfold maxLen;omega) (by simp);simpa using this
 exact ints_of_own h (by omega) (λk hk=>own_blk hk)
theorem rows_litL (w:World) (a:List Value) (R:List (List Int)) (b:a.length=R.length) (e:R.length<=1000) (h:∀i,i<R.length->Ints Any w (gt a i) (gt R i)) :
  Rows2 Any (w.alloc (.cells a.toArray 24)) (.slice (some ⟨w.heap.size,0,none⟩) R.length R.length) R:=by
 refine⟨_,_,rfl,⟨Nat.le_refl _,by omega,λh=>by cases h⟩,λi hi=>⟨w.heap.size,0,gt a i,rfl,trivial,by simp,?_,Ints.ext (h i hi) (World.grownBy_alloc _ _ _)⟩⟩;rw[World.cell?_alloc_at _ _ _ _ rfl];simp[gt,b,hi]
set_option maxHeartbeats 16000000 in
theorem l07Family_ok (B0:Nat) (w:World) (sb:Nat) (aA:B0<=w.heap.size) (hs:Src B0 w sb) :
  Calls Tryz.prog 275 #[.pointer (some ⟨sb,0,none⟩)] w (Mut w (some sb) (DrawR B0 sb (PresQ 18 w.heap.size))):=by
 have a':=hs.lt;have aB:=Box3.made w 28 (.slice none 0 0) (.slice none 0 0) (.slice none 0 0);have aC:Ext w (w.alloc (.cells #[.slice none 0 0,.slice none 0 0,.slice none 0 0] 28)):=World.grownBy_alloc _ _ _;have aU:(w.alloc (.cells #[.slice none 0 0,.slice none 0 0,.slice none 0 0] 28)).heap.size=w.heap.size+1:=by simp
 have aV:=Lib.hid hs;clear hs;go_enter Tryz.func275,Tryz.ntmps275;go_wp2_with fail
 generalize w.alloc (.cells #[.slice none 0 0,.slice none 0 0,.slice none 0 0] 28)=w0 at *;refine Calls.mono (l01Next_ok B0 w0 sb 9 (aV.out.ext aC)) ?_;rintro e1 u ⟨v1,rfl,aj,x,rfl,hx0,hx1,hs1⟩;have ai:=Box3.keep aB aj.size (aj.block _ aB.1 (λe=>by have:=Option.some.inj e;omega));have ak:=grown_trans (grown_of_ext (some sb) aC) aj;have ba:w.heap.size+1<=u.heap.size:=by have:=aj.size;omega
 have hx:=hx1 (by omega);have ab:=Lib.hid hs1;clear hx0 hx1 aj aB aC aU hs1;rcases(show x=0\/x=1\/x=2\/x=3\/x=4\/x=5\/x=6\/x=7\/x=8 by omega) with rfl|rfl|rfl|rfl|rfl|rfl|rfl|rfl|rfl
 all_goals clear hx
 ·have aH:=World.grownBy_alloc u (.cells #[] 2) (some sb)
  have aI:Own u.heap.size (u.alloc (.cells #[] 2)) (.slice (some ⟨u.heap.size,0,none⟩) 0 0) []:=World.ownsRow_lit u #[] 0 (Nat.le_refl _) (by decide) rfl;have aJ:=(ab.out.ext (World.grownBy_alloc u (.cells #[] 2) none));have D:=Lib.hid aJ;clear aJ;go_wp2_with fail
  generalize u.alloc (.cells #[] 2)=wE at *;refine Calls.mono (l01Next_ok B0 wE sb 5 D.out) ?_;rintro e2 a ⟨v2,rfl,W,k,rfl,hk0,hk1,hs2⟩;have hk:=hk1 (by omega);clear hk0 hk1;have aK:=aI.kept W (by simp[Value.ownBlock];omega);have b:=grown_trans aH W;have aL:=Lib.hid hs2;clear hs2 aH aI W;go_wp2_with fail
  go_loopw [3,4] (λov kv wr=>∃(k:Int) (o:List Int) (v4:Value),v4=ov/\kv=.int .i64 k/\0<=k/\k<=4/\Hid (o.length+k<=4)/\u.grownBy wr (some sb)/\Own u.heap.size wr v4 o/\Hid (Src B0 wr sb)) (λ_ kv _=>(intOf kv).toNat)
  case atStart=>exact⟨k,[],_,rfl,rfl,hk.1,by omega,Lib.hid (by simp;omega),b,aK,aL⟩
  case round=>
   clear aK b aL hk;obtain⟨k,o,v4,rfl,rfl,hk0,hk4,hol,hg,hO,N⟩:=hrel;have bd:=hg.size;by_cases be:0<k
   ·have aM:∀j,v4.ownBlock=some j->u.heap.size<=j:=λj hj=>(hO.lt j hj).1
    have aD:o.length<=1000000:=by have:=hol.out;omega
    have HO:=Lib.hid (And.intro aM aD);clear aM aD;go_wp2_with fail
    have O:Ext wr (wr.alloc (.cells #[.int .i64 2,.int .i64 2,.int .i64 3] 2)):=World.grownBy_alloc _ _ _;have hL:Ints (λk=>k=wr.heap.size) (wr.alloc (.cells #[.int .i64 2,.int .i64 2,.int .i64 3] 2)) (.slice (some ⟨wr.heap.size,0,none⟩) 3 3) [2,2,3]:=ints_litL wr [2,2,3] (by simp);have ar:(wr.alloc (.cells #[.int .i64 2,.int .i64 2,.int .i64 3] 2)).heap.size=wr.heap.size+1:=by simp
    generalize wr.alloc (.cells #[.int .i64 2,.int .i64 2,.int .i64 3] 2)=wL at *;refine Calls.mono (l01Pick_ok B0 wL sb _ [2,2,3] _ (N.out.ext O) hL (λk hk=>by omega) (by simp) (by simp)) ?_;rintro e3 I ⟨v3,rfl,l,i,hi,rfl,hs3⟩;generalize gt ([2,2,3]:List Int) i=m at *;have aw:=grown_trans (grown_of_ext (some sb) O) l;have aX:=hO.kept aw (.inr (λe=>by have:=HO.out.1 sb e;omega));have ax:=grown_trans hg aw;have aY:=Lib.hid hs3;clear hs3 O l hL hi hO;go_wp2_with (first|(at_builtin;refine wp_app_int rfl _ _ rfl u.heap.size v4 o m rfl I aX rfl rfl HO.out.2 ax.size ?_;intro v5 w5 aZ aO)|fail)
    have a0:Src B0 w5 sb:=aY.out.own aO (λj hj=>by have:=HO.out.1 j hj;omega);have aQ:u.grownBy w5 (some sb):=grown_own ax aO (λj hj bf=>by have:=HO.out.1 j hj;omega);have aD:(o++[m]).length=o.length+1:=by simp
    go_roundw
    case rel=>exact⟨k-1,o++[m],v5,rfl,rfl,by omega,by omega,Lib.hid (by have:=hol.out;omega),aQ,aZ,Lib.hid a0⟩
    case measure=>simp[intOf];omega
   ·have a4:=hO.ints (show o.length<=9223372036854775807 by have:=hol.out;omega)
    have a5:=hol.out;have a6:o.length<=100:=by omega
    clear a5 hO;go_wp2_with fail
    refine Calls.mono (l07Trivial_ok wr _ o _ a4 a6) ?_;rintro e3 I ⟨v3,rfl,l,vo,vp,vc,rfl,fS⟩;have E:PresN3 18 wr.heap.size I vo vp vc:=⟨trivP o,trivP_shp o (by have:=hol.out;omega),fS.p3⟩;obtain⟨a1,n1,c1,a2,n2,c2,a3,n3,c3,rfl,rfl,rfl⟩:=E.shape;clear fS;have p:u.grownBy I (some sb):=grown_trans hg (grown_of_ext (some sb) l);have Z:=Box3.keep ai p.size (p.block _ ai.1 (λe=>by have:=Option.some.inj e;omega));have Y:=grown_trans ak p;obtain⟨b0,b1,b2,b3,b4⟩:=id Z;have hZ:=Z.all (.slice a1 n1 c1) (.slice a2 n2 c2) (.slice a3 n3 c3);obtain⟨-,z0,z1,z2,-⟩:=id hZ;have HF:=Lib.hid (And.intro Y (And.intro E (N.out.ext l)));clear hZ Y E Z;go_wp2_with fail
    refine bodyPost_ret (v := .agg #[.slice a1 n1 c1,.slice a2 n2 c2,.slice a3 n3 c3]) (by simp[results,Tryz.results275,go_sem,z0,z1,z2]) rfl ?_;exact fam_ret HF.out.1 (B:=wr.heap.size) (by omega) HF.out.2.2 aA HF.out.2.1 (by omega)
 ·skip
  go_wp2_with fail
  have O:Ext u (u.alloc (.cells #[.int .i64 1,.int .i64 4,.int .i64 6,.int .i64 8,.int .i64 9,.int .i64 12,.int .i64 5,.int .i64 7,.int .i64 27,.int .i64 25,.int .i64 36] 2)):=World.grownBy_alloc _ _ _;have hL:Ints (λk=>k=u.heap.size) (u.alloc (.cells #[.int .i64 1,.int .i64 4,.int .i64 6,.int .i64 8,.int .i64 9,.int .i64 12,.int .i64 5,.int .i64 7,.int .i64 27,.int .i64 25,.int .i64 36] 2)) (.slice (some ⟨u.heap.size,0,none⟩) 11 11) [1,4,6,8,9,12,5,7,27,25,36]:=ints_litL u [1,4,6,8,9,12,5,7,27,25,36] (by simp);have ar:(u.alloc (.cells #[.int .i64 1,.int .i64 4,.int .i64 6,.int .i64 8,.int .i64 9,.int .i64 12,.int .i64 5,.int .i64 7,.int .i64 27,.int .i64 25,.int .i64 36] 2)).heap.size=u.heap.size+1:=by simp
  generalize u.alloc (.cells #[.int .i64 1,.int .i64 4,.int .i64 6,.int .i64 8,.int .i64 9,.int .i64 12,.int .i64 5,.int .i64 7,.int .i64 27,.int .i64 25,.int .i64 36] 2)=wL at *;refine Calls.mono (l01Pick_ok B0 wL sb _ [1,4,6,8,9,12,5,7,27,25,36] _ (ab.out.ext O) hL (λk hk=>by omega) (by simp) (by simp)) ?_;rintro e2 a ⟨v2,rfl,W,i,hi,rfl,hs2⟩;have hm:∀y∈([1,4,6,8,9,12,5,7,27,25,36]:List Int),1<=y/\y<=36:=by simp
  have aE:=hm _ (gtMem hi);generalize gt ([1,4,6,8,9,12,5,7,27,25,36]:List Int) i=m at *;clear hm hi hL;have b:=grown_trans (grown_of_ext (some sb) O) W;have ag:w.heap.size+1<=a.heap.size:=by have:=b.size;omega
  clear O W;have D:=Lib.hid hs2;clear hs2;obtain⟨m,rfl⟩:=Int.eq_ofNat_of_zero_le (show 0<=m by omega);go_wp2_with fail
  refine Calls.mono (CyclicPresentation_ok a m (by omega)) ?_;rintro e3 I ⟨v3,rfl,l,vo,vp,vc,c,rfl,hP⟩;obtain⟨_,_,_,he,E⟩:=hP.q;cases he
  obtain⟨a1,n1,c1,a2,n2,c2,a3,n3,c3,rfl,rfl,rfl⟩:=E.shape;have p:u.grownBy I (some sb):=grown_trans b (grown_of_ext (some sb) l);have Z:=Box3.keep ai p.size (p.block _ ai.1 (λe=>by have:=Option.some.inj e;omega));have Y:=grown_trans ak p;obtain⟨b0,b1,b2,b3,b4⟩:=id Z;have aF:=World.grownBy_alloc (((I.setCell ⟨w.heap.size,0,none⟩ (.slice a1 n1 c1)).setCell ⟨w.heap.size,1,none⟩ (.slice a2 n2 c2)).setCell ⟨w.heap.size,2,none⟩ (.slice a3 n3 c3)) (.cells #[.slice a1 n1 c1,.slice a2 n2 c2,.slice a3 n3 c3] 28) none;have hZ:=(Z.all (.slice a1 n1 c1) (.slice a2 n2 c2) (.slice a3 n3 c3)).ext aF;obtain⟨-,z0,z1,z2,-⟩:=id hZ;have HF:=Lib.hid (And.intro Y (And.intro E (And.intro (D.out.ext l) aF)));clear hZ Y E Z aF;go_wp2_with fail
  refine bodyPost_ret (v := .agg #[.slice a1 n1 c1,.slice a2 n2 c2,.slice a3 n3 c3]) (by simp[results,Tryz.results275,go_sem,z0,z1,z2]) rfl ?_;obtain⟨_,he,k1,⟨q1,q2,q3,k2,Q,k4,k5⟩,k3⟩:=fam_ret (M:=18) HF.out.1 (B:=a.heap.size) (by omega) HF.out.2.2.1 aA HF.out.2.1 (by omega);cases he
  cases k2
  exact⟨_,rfl,grown_trans k1 (grown_of_ext (some sb) HF.out.2.2.2),⟨_,_,_,rfl,Q,k4,k5.ext HF.out.2.2.2⟩,k3.ext HF.out.2.2.2⟩
 focus
  go_wp2_with fail
  have O:Ext u (u.alloc (.cells #[.int .i64 3,.int .i64 4,.int .i64 5,.int .i64 6,.int .i64 7,.int .i64 8,.int .i64 9,.int .i64 12] 2)):=World.grownBy_alloc _ _ _;have hL:Ints (λk=>k=u.heap.size) (u.alloc (.cells #[.int .i64 3,.int .i64 4,.int .i64 5,.int .i64 6,.int .i64 7,.int .i64 8,.int .i64 9,.int .i64 12] 2)) (.slice (some ⟨u.heap.size,0,none⟩) 8 8) [3,4,5,6,7,8,9,12]:=ints_litL u [3,4,5,6,7,8,9,12] (by simp);have ar:(u.alloc (.cells #[.int .i64 3,.int .i64 4,.int .i64 5,.int .i64 6,.int .i64 7,.int .i64 8,.int .i64 9,.int .i64 12] 2)).heap.size=u.heap.size+1:=by simp
  generalize u.alloc (.cells #[.int .i64 3,.int .i64 4,.int .i64 5,.int .i64 6,.int .i64 7,.int .i64 8,.int .i64 9,.int .i64 12] 2)=wL at *;refine Calls.mono (l01Pick_ok B0 wL sb _ [3,4,5,6,7,8,9,12] _ (ab.out.ext O) hL (λk hk=>by omega) (by simp) (by simp)) ?_;rintro e2 a ⟨v2,rfl,W,i,hi,rfl,hs2⟩;have hm:∀y∈([3,4,5,6,7,8,9,12]:List Int),3<=y/\y<=12:=by simp
  have aE:=hm _ (gtMem hi);generalize gt ([3,4,5,6,7,8,9,12]:List Int) i=m at *;clear hm hi hL;have b:=grown_trans (grown_of_ext (some sb) O) W;have ag:w.heap.size+1<=a.heap.size:=by have:=b.size;omega
  clear O W;have D:=Lib.hid hs2;clear hs2;have a7:0<=m/2/\m/2<=6:=by omega
  go_wp2_with fail
  refine Calls.mono (l07Meta_ok a 2 m (m-1) 0 (by omega) (by omega) (by omega) (by omega)) ?_;rintro e3 I ⟨v3,rfl,l,hP⟩;obtain⟨vo,vp,vc,rfl,E⟩:=hP.q;have p:u.grownBy I (some sb):=grown_trans b (grown_of_ext (some sb) l);have N:=D.out.ext l
 rotate_left
 focus
  go_wp2_with fail
  have O:Ext u (u.alloc (.cells #[.int .i64 4,.int .i64 6,.int .i64 8,.int .i64 12] 2)):=World.grownBy_alloc _ _ _;have hL:Ints (λk=>k=u.heap.size) (u.alloc (.cells #[.int .i64 4,.int .i64 6,.int .i64 8,.int .i64 12] 2)) (.slice (some ⟨u.heap.size,0,none⟩) 4 4) [4,6,8,12]:=ints_litL u [4,6,8,12] (by simp);have ar:(u.alloc (.cells #[.int .i64 4,.int .i64 6,.int .i64 8,.int .i64 12] 2)).heap.size=u.heap.size+1:=by simp
  generalize u.alloc (.cells #[.int .i64 4,.int .i64 6,.int .i64 8,.int .i64 12] 2)=wL at *;refine Calls.mono (l01Pick_ok B0 wL sb _ [4,6,8,12] _ (ab.out.ext O) hL (λk hk=>by omega) (by simp) (by simp)) ?_;rintro e2 a ⟨v2,rfl,W,i,hi,rfl,hs2⟩;have hm:∀y∈([4,6,8,12]:List Int),3<=y/\y<=12:=by simp
  have aE:=hm _ (gtMem hi);generalize gt ([4,6,8,12]:List Int) i=m at *;clear hm hi hL;have b:=grown_trans (grown_of_ext (some sb) O) W;have ag:w.heap.size+1<=a.heap.size:=by have:=b.size;omega
  clear O W;have D:=Lib.hid hs2;clear hs2;have a7:0<=m/2/\m/2<=6:=by omega
  go_wp2_with fail
  refine Calls.mono (l07Meta_ok a 2 m (m-1) (m/2) (by omega) (by omega) (by omega) (by omega)) ?_;rintro e3 I ⟨v3,rfl,l,hP⟩;obtain⟨vo,vp,vc,rfl,E⟩:=hP.q;have p:u.grownBy I (some sb):=grown_trans b (grown_of_ext (some sb) l);have N:=D.out.ext l
 rotate_left
 focus
  go_wp2_with fail
  refine Calls.mono (l01Next_ok B0 u sb 6 ab.out) ?_;rintro e2 a ⟨v2,rfl,b,y,rfl,hy0,hy1,hs2⟩;have hy:=hy1 (by omega);have D:=Lib.hid hs2;have ag:w.heap.size+1<=a.heap.size:=by have:=b.size;omega
  clear hy0 hy1 hs2;rcases(show y=0\/y=1\/y=2\/y=3\/y=4\/y=5 by omega) with rfl|rfl|rfl|rfl|rfl|rfl
  all_goals clear hy
  focus
   go_wp2_with fail
   refine Calls.mono (l07Meta_ok a 3 7 2 0 (by omega) (by omega) (by omega) (by omega)) ?_;rintro e3 I ⟨v3,rfl,l,hP⟩;obtain⟨vo,vp,vc,rfl,E⟩:=hP.q;have p:u.grownBy I (some sb):=grown_trans b (grown_of_ext (some sb) l);have N:=D.out.ext l
  rotate_left
  focus
   go_wp2_with fail
   refine Calls.mono (l07Meta_ok a 4 5 2 0 (by omega) (by omega) (by omega) (by omega)) ?_;rintro e3 I ⟨v3,rfl,l,hP⟩;obtain⟨vo,vp,vc,rfl,E⟩:=hP.q;have p:u.grownBy I (some sb):=grown_trans b (grown_of_ext (some sb) l);have N:=D.out.ext l
  rotate_left
  focus
   go_wp2_with fail
   refine Calls.mono (l07Meta_ok a 2 8 3 0 (by omega) (by omega) (by omega) (by omega)) ?_;rintro e3 I ⟨v3,rfl,l,hP⟩;obtain⟨vo,vp,vc,rfl,E⟩:=hP.q;have p:u.grownBy I (some sb):=grown_trans b (grown_of_ext (some sb) l);have N:=D.out.ext l
  rotate_left
  focus
   go_wp2_with fail
   refine Calls.mono (l07Meta_ok a 2 8 5 0 (by omega) (by omega) (by omega) (by omega)) ?_;rintro e3 I ⟨v3,rfl,l,hP⟩;obtain⟨vo,vp,vc,rfl,E⟩:=hP.q;have p:u.grownBy I (some sb):=grown_trans b (grown_of_ext (some sb) l);have N:=D.out.ext l
  rotate_left
  focus
   go_wp2_with fail
   refine Calls.mono (l07Meta_ok a 4 4 3 0 (by omega) (by omega) (by omega) (by omega)) ?_;rintro e3 I ⟨v3,rfl,l,hP⟩;obtain⟨vo,vp,vc,rfl,E⟩:=hP.q;have p:u.grownBy I (some sb):=grown_trans b (grown_of_ext (some sb) l);have N:=D.out.ext l
  rotate_left
  focus
   go_wp2_with fail
   refine Calls.mono (l07Meta_ok a 3 9 4 0 (by omega) (by omega) (by omega) (by omega)) ?_;rintro e3 I ⟨v3,rfl,l,hP⟩;obtain⟨vo,vp,vc,rfl,E⟩:=hP.q;have p:u.grownBy I (some sb):=grown_trans b (grown_of_ext (some sb) l);have N:=D.out.ext l
  rotate_left
 rotate_left 6
 focus
  go_wp2_with fail
  have O:Ext u (u.alloc (.cells #[.int .i64 2,.int .i64 3,.int .i64 2,.int .i64 3,.int .i64 5] 2)):=World.grownBy_alloc _ _ _;have hL:Ints (λk=>k=u.heap.size) (u.alloc (.cells #[.int .i64 2,.int .i64 3,.int .i64 2,.int .i64 3,.int .i64 5] 2)) (.slice (some ⟨u.heap.size,0,none⟩) 5 5) [2,3,2,3,5]:=ints_litL u [2,3,2,3,5] (by simp);have ar:(u.alloc (.cells #[.int .i64 2,.int .i64 3,.int .i64 2,.int .i64 3,.int .i64 5] 2)).heap.size=u.heap.size+1:=by simp
  generalize u.alloc (.cells #[.int .i64 2,.int .i64 3,.int .i64 2,.int .i64 3,.int .i64 5] 2)=wL at *;refine Calls.mono (l01Pick_ok B0 wL sb _ [2,3,2,3,5] _ (ab.out.ext O) hL (λk hk=>by omega) (by simp) (by simp)) ?_;rintro e2 a ⟨v2,rfl,W,i,hi,rfl,hs2⟩;have hm:∀y∈([2,3,2,3,5]:List Int),2<=y/\y<=5:=by simp
  have aE:=hm _ (gtMem hi);generalize gt ([2,3,2,3,5]:List Int) i=m at *;clear hm hi hL;have b:=grown_trans (grown_of_ext (some sb) O) W;have ag:w.heap.size+1<=a.heap.size:=by have:=b.size;omega
  clear O W;have D:=Lib.hid hs2;clear hs2;go_wp2_with fail
  refine Calls.mono (l07Heisenberg_ok B0 a sb m (by omega) D.out) ?_;rintro e3 I ⟨v3,rfl,l,hP,hs3⟩;obtain⟨vo,vp,vc,rfl,E⟩:=hP.q;have p:u.grownBy I (some sb):=grown_trans b l;have N:=hs3
 rotate_left
 focus
  go_wp2_with fail
  refine Calls.mono (l01Next_ok B0 u sb 6 ab.out) ?_;rintro e2 a ⟨v2,rfl,b,y,rfl,hy0,hy1,hs2⟩;have hy:=hy1 (by omega);have D:=Lib.hid hs2;have ag:w.heap.size+1<=a.heap.size:=by have:=b.size;omega
  clear hy0 hy1 hs2;rcases(show y=0\/y=1\/y=2\/y=3\/y=4\/y=5 by omega) with rfl|rfl|rfl|rfl|rfl|rfl
  all_goals clear hy
  focus
   go_wp2_with fail
   have F:Ext a (a.alloc (.cells #[.int .i64 2,.int .i64 0] 2)):=World.grownBy_alloc _ _ _;have R:Ints Any (a.alloc (.cells #[.int .i64 2,.int .i64 0] 2)) (.slice (some ⟨a.heap.size,0,none⟩) 2 2) [2,0]:=Ints.sub (ints_litL a [2,0] (by simp)) (λ_ _ _=>trivial);have r:(a.alloc (.cells #[.int .i64 2,.int .i64 0] 2)).heap.size=a.heap.size+1:=by simp
   generalize a.alloc (.cells #[.int .i64 2,.int .i64 0] 2)=u0 at *;have z:Ext u0 (u0.alloc (.cells #[.int .i64 0,.int .i64 2] 2)):=World.grownBy_alloc _ _ _;have J:Ints Any (u0.alloc (.cells #[.int .i64 0,.int .i64 2] 2)) (.slice (some ⟨u0.heap.size,0,none⟩) 2 2) [0,2]:=Ints.sub (ints_litL u0 [0,2] (by simp)) (λ_ _ _=>trivial);have C:(u0.alloc (.cells #[.int .i64 0,.int .i64 2] 2)).heap.size=u0.heap.size+1:=by simp
   generalize u0.alloc (.cells #[.int .i64 0,.int .i64 2] 2)=u1 at *;rw[r] at J;have S:=Ints.ext (R) z;have U:=J
   have G:∀i,i<([[2,0],[0,2]]:List (List Int)).length->Ints Any u1 (gt ([.slice (some ⟨a.heap.size,0,none⟩) 2 2,.slice (some ⟨a.heap.size+1,0,none⟩) 2 2]:List Value) i) (gt ([[2,0],[0,2]]:List (List Int)) i):=by
    intro i hi;rcases(show i=0\/i=1 by simp at hi;omega) with rfl|rfl
    ·exact S
    ·exact U
   have K:=rows_litL u1 [.slice (some ⟨a.heap.size,0,none⟩) 2 2,.slice (some ⟨a.heap.size+1,0,none⟩) 2 2] [[2,0],[0,2]] rfl (by simp) G;have V:=World.grownBy_alloc u1 (.cells #[.slice (some ⟨a.heap.size,0,none⟩) 2 2,.slice (some ⟨a.heap.size+1,0,none⟩) 2 2] 24) none;have A:Ext a (u1.alloc (.cells #[.slice (some ⟨a.heap.size,0,none⟩) 2 2,.slice (some ⟨a.heap.size+1,0,none⟩) 2 2] 24)):=grown_trans F (grown_trans z V);have am:u1.heap.size=a.heap.size+2:=by omega
   rw[C,r] at K;refine Calls.mono (l07Affine_ok _ 3 2 _ [[2,0],[0,2]] Any K (by unfold SmR Sm;simp) (by omega) (by omega) (by simp)) ?_;rintro e3 I ⟨v3,rfl,l,hP⟩;have hP:=hP.q.mono (B':=a.heap.size) (Nat.le_refl _) A.size;have H:Ext a I:=grown_trans A l;clear K V A G S R F r U J z C;obtain⟨vo,vp,vc,rfl,E⟩:=hP;have p:u.grownBy I (some sb):=grown_trans b (grown_of_ext (some sb) H);have N:=D.out.ext H
  rotate_left
  focus
   go_wp2_with fail
   have F:Ext a (a.alloc (.cells #[.int .i64 0,.int .i64 1] 2)):=World.grownBy_alloc _ _ _;have R:Ints Any (a.alloc (.cells #[.int .i64 0,.int .i64 1] 2)) (.slice (some ⟨a.heap.size,0,none⟩) 2 2) [0,1]:=Ints.sub (ints_litL a [0,1] (by simp)) (λ_ _ _=>trivial);have r:(a.alloc (.cells #[.int .i64 0,.int .i64 1] 2)).heap.size=a.heap.size+1:=by simp
   generalize a.alloc (.cells #[.int .i64 0,.int .i64 1] 2)=u0 at *;have z:Ext u0 (u0.alloc (.cells #[.int .i64 2,.int .i64 0] 2)):=World.grownBy_alloc _ _ _;have J:Ints Any (u0.alloc (.cells #[.int .i64 2,.int .i64 0] 2)) (.slice (some ⟨u0.heap.size,0,none⟩) 2 2) [2,0]:=Ints.sub (ints_litL u0 [2,0] (by simp)) (λ_ _ _=>trivial);have C:(u0.alloc (.cells #[.int .i64 2,.int .i64 0] 2)).heap.size=u0.heap.size+1:=by simp
   generalize u0.alloc (.cells #[.int .i64 2,.int .i64 0] 2)=u1 at *;rw[r] at J;have S:=Ints.ext (R) z;have U:=J
   have G:∀i,i<([[0,1],[2,0]]:List (List Int)).length->Ints Any u1 (gt ([.slice (some ⟨a.heap.size,0,none⟩) 2 2,.slice (some ⟨a.heap.size+1,0,none⟩) 2 2]:List Value) i) (gt ([[0,1],[2,0]]:List (List Int)) i):=by
    intro i hi;rcases(show i=0\/i=1 by simp at hi;omega) with rfl|rfl
    ·exact S
    ·exact U
   have K:=rows_litL u1 [.slice (some ⟨a.heap.size,0,none⟩) 2 2,.slice (some ⟨a.heap.size+1,0,none⟩) 2 2] [[0,1],[2,0]] rfl (by simp) G;have V:=World.grownBy_alloc u1 (.cells #[.slice (some ⟨a.heap.size,0,none⟩) 2 2,.slice (some ⟨a.heap.size+1,0,none⟩) 2 2] 24) none;have A:Ext a (u1.alloc (.cells #[.slice (some ⟨a.heap.size,0,none⟩) 2 2,.slice (some ⟨a.heap.size+1,0,none⟩) 2 2] 24)):=grown_trans F (grown_trans z V);have am:u1.heap.size=a.heap.size+2:=by omega
   rw[C,r] at K;refine Calls.mono (l07Affine_ok _ 3 4 _ [[0,1],[2,0]] Any K (by unfold SmR Sm;simp) (by omega) (by omega) (by simp)) ?_;rintro e3 I ⟨v3,rfl,l,hP⟩;have hP:=hP.q.mono (B':=a.heap.size) (Nat.le_refl _) A.size;have H:Ext a I:=grown_trans A l;clear K V A G S R F r U J z C;obtain⟨vo,vp,vc,rfl,E⟩:=hP;have p:u.grownBy I (some sb):=grown_trans b (grown_of_ext (some sb) H);have N:=D.out.ext H
  rotate_left
  focus
   go_wp2_with fail
   have F:Ext a (a.alloc (.cells #[.int .i64 0,.int .i64 1,.int .i64 0] 2)):=World.grownBy_alloc _ _ _;have R:Ints Any (a.alloc (.cells #[.int .i64 0,.int .i64 1,.int .i64 0] 2)) (.slice (some ⟨a.heap.size,0,none⟩) 3 3) [0,1,0]:=Ints.sub (ints_litL a [0,1,0] (by simp)) (λ_ _ _=>trivial);have r:(a.alloc (.cells #[.int .i64 0,.int .i64 1,.int .i64 0] 2)).heap.size=a.heap.size+1:=by simp
   generalize a.alloc (.cells #[.int .i64 0,.int .i64 1,.int .i64 0] 2)=u0 at *;have z:Ext u0 (u0.alloc (.cells #[.int .i64 0,.int .i64 0,.int .i64 1] 2)):=World.grownBy_alloc _ _ _;have J:Ints Any (u0.alloc (.cells #[.int .i64 0,.int .i64 0,.int .i64 1] 2)) (.slice (some ⟨u0.heap.size,0,none⟩) 3 3) [0,0,1]:=Ints.sub (ints_litL u0 [0,0,1] (by simp)) (λ_ _ _=>trivial);have C:(u0.alloc (.cells #[.int .i64 0,.int .i64 0,.int .i64 1] 2)).heap.size=u0.heap.size+1:=by simp
   generalize u0.alloc (.cells #[.int .i64 0,.int .i64 0,.int .i64 1] 2)=u1 at *;have L:Ext u1 (u1.alloc (.cells #[.int .i64 1,.int .i64 1,.int .i64 0] 2)):=World.grownBy_alloc _ _ _;have aa:Ints Any (u1.alloc (.cells #[.int .i64 1,.int .i64 1,.int .i64 0] 2)) (.slice (some ⟨u1.heap.size,0,none⟩) 3 3) [1,1,0]:=Ints.sub (ints_litL u1 [1,1,0] (by simp)) (λ_ _ _=>trivial);have X:(u1.alloc (.cells #[.int .i64 1,.int .i64 1,.int .i64 0] 2)).heap.size=u1.heap.size+1:=by simp
   generalize u1.alloc (.cells #[.int .i64 1,.int .i64 1,.int .i64 0] 2)=u2 at *;rw[r] at J;rw[C,r] at aa;have S:=Ints.ext (Ints.ext (R) z) L;have U:=Ints.ext (J) L;have ae:=aa
   have G:∀i,i<([[0,1,0],[0,0,1],[1,1,0]]:List (List Int)).length->Ints Any u2 (gt ([.slice (some ⟨a.heap.size,0,none⟩) 3 3,.slice (some ⟨a.heap.size+1,0,none⟩) 3 3,.slice (some ⟨a.heap.size+1+1,0,none⟩) 3 3]:List Value) i) (gt ([[0,1,0],[0,0,1],[1,1,0]]:List (List Int)) i):=by
    intro i hi;rcases(show i=0\/i=1\/i=2 by simp at hi;omega) with rfl|rfl|rfl
    ·exact S
    ·exact U
    ·exact ae
   have K:=rows_litL u2 [.slice (some ⟨a.heap.size,0,none⟩) 3 3,.slice (some ⟨a.heap.size+1,0,none⟩) 3 3,.slice (some ⟨a.heap.size+1+1,0,none⟩) 3 3] [[0,1,0],[0,0,1],[1,1,0]] rfl (by simp) G;have V:=World.grownBy_alloc u2 (.cells #[.slice (some ⟨a.heap.size,0,none⟩) 3 3,.slice (some ⟨a.heap.size+1,0,none⟩) 3 3,.slice (some ⟨a.heap.size+1+1,0,none⟩) 3 3] 24) none;have A:Ext a (u2.alloc (.cells #[.slice (some ⟨a.heap.size,0,none⟩) 3 3,.slice (some ⟨a.heap.size+1,0,none⟩) 3 3,.slice (some ⟨a.heap.size+1+1,0,none⟩) 3 3] 24)):=grown_trans F (grown_trans z (grown_trans L V));have am:u2.heap.size=a.heap.size+3:=by omega
   rw[X,C,r] at K;refine Calls.mono (l07Affine_ok _ 2 7 _ [[0,1,0],[0,0,1],[1,1,0]] Any K (by unfold SmR Sm;simp) (by omega) (by omega) (by simp)) ?_;rintro e3 I ⟨v3,rfl,l,hP⟩;have hP:=hP.q.mono (B':=a.heap.size) (Nat.le_refl _) A.size;have H:Ext a I:=grown_trans A l;clear K V A G S R F r U J z C ae aa L X;obtain⟨vo,vp,vc,rfl,E⟩:=hP;have p:u.grownBy I (some sb):=grown_trans b (grown_of_ext (some sb) H);have N:=D.out.ext H
  rotate_left
  focus
   go_wp2_with fail
   have F:Ext a (a.alloc (.cells #[.int .i64 1,.int .i64 1,.int .i64 0] 2)):=World.grownBy_alloc _ _ _;have R:Ints Any (a.alloc (.cells #[.int .i64 1,.int .i64 1,.int .i64 0] 2)) (.slice (some ⟨a.heap.size,0,none⟩) 3 3) [1,1,0]:=Ints.sub (ints_litL a [1,1,0] (by simp)) (λ_ _ _=>trivial);have r:(a.alloc (.cells #[.int .i64 1,.int .i64 1,.int .i64 0] 2)).heap.size=a.heap.size+1:=by simp
   generalize a.alloc (.cells #[.int .i64 1,.int .i64 1,.int .i64 0] 2)=u0 at *;have z:Ext u0 (u0.alloc (.cells #[.int .i64 0,.int .i64 1,.int .i64 1] 2)):=World.grownBy_alloc _ _ _;have J:Ints Any (u0.alloc (.cells #[.int .i64 0,.int .i64 1,.int .i64 1] 2)) (.slice (some ⟨u0.heap.size,0,none⟩) 3 3) [0,1,1]:=Ints.sub (ints_litL u0 [0,1,1] (by simp)) (λ_ _ _=>trivial);have C:(u0.alloc (.cells #[.int .i64 0,.int .i64 1,.int .i64 1] 2)).heap.size=u0.heap.size+1:=by simp
   generalize u0.alloc (.cells #[.int .i64 0,.int .i64 1,.int .i64 1] 2)=u1 at *;have L:Ext u1 (u1.alloc (.cells #[.int .i64 0,.int .i64 0,.int .i64 1] 2)):=World.grownBy_alloc _ _ _;have aa:Ints Any (u1.alloc (.cells #[.int .i64 0,.int .i64 0,.int .i64 1] 2)) (.slice (some ⟨u1.heap.size,0,none⟩) 3 3) [0,0,1]:=Ints.sub (ints_litL u1 [0,0,1] (by simp)) (λ_ _ _=>trivial);have X:(u1.alloc (.cells #[.int .i64 0,.int .i64 0,.int .i64 1] 2)).heap.size=u1.heap.size+1:=by simp
   generalize u1.alloc (.cells #[.int .i64 0,.int .i64 0,.int .i64 1] 2)=u2 at *;rw[r] at J;rw[C,r] at aa;have S:=Ints.ext (Ints.ext (R) z) L;have U:=Ints.ext (J) L;have ae:=aa
   have G:∀i,i<([[1,1,0],[0,1,1],[0,0,1]]:List (List Int)).length->Ints Any u2 (gt ([.slice (some ⟨a.heap.size,0,none⟩) 3 3,.slice (some ⟨a.heap.size+1,0,none⟩) 3 3,.slice (some ⟨a.heap.size+1+1,0,none⟩) 3 3]:List Value) i) (gt ([[1,1,0],[0,1,1],[0,0,1]]:List (List Int)) i):=by
    intro i hi;rcases(show i=0\/i=1\/i=2 by simp at hi;omega) with rfl|rfl|rfl
    ·exact S
    ·exact U
    ·exact ae
   have K:=rows_litL u2 [.slice (some ⟨a.heap.size,0,none⟩) 3 3,.slice (some ⟨a.heap.size+1,0,none⟩) 3 3,.slice (some ⟨a.heap.size+1+1,0,none⟩) 3 3] [[1,1,0],[0,1,1],[0,0,1]] rfl (by simp) G;have V:=World.grownBy_alloc u2 (.cells #[.slice (some ⟨a.heap.size,0,none⟩) 3 3,.slice (some ⟨a.heap.size+1,0,none⟩) 3 3,.slice (some ⟨a.heap.size+1+1,0,none⟩) 3 3] 24) none;have A:Ext a (u2.alloc (.cells #[.slice (some ⟨a.heap.size,0,none⟩) 3 3,.slice (some ⟨a.heap.size+1,0,none⟩) 3 3,.slice (some ⟨a.heap.size+1+1,0,none⟩) 3 3] 24)):=grown_trans F (grown_trans z (grown_trans L V));have am:u2.heap.size=a.heap.size+3:=by omega
   rw[X,C,r] at K;refine Calls.mono (l07Affine_ok _ 2 4 _ [[1,1,0],[0,1,1],[0,0,1]] Any K (by unfold SmR Sm;simp) (by omega) (by omega) (by simp)) ?_;rintro e3 I ⟨v3,rfl,l,hP⟩;have hP:=hP.q.mono (B':=a.heap.size) (Nat.le_refl _) A.size;have H:Ext a I:=grown_trans A l;clear K V A G S R F r U J z C ae aa L X;obtain⟨vo,vp,vc,rfl,E⟩:=hP;have p:u.grownBy I (some sb):=grown_trans b (grown_of_ext (some sb) H);have N:=D.out.ext H
  rotate_left
  focus
   go_wp2_with fail
   have F:Ext a (a.alloc (.cells #[.int .i64 0,.int .i64 1,.int .i64 0,.int .i64 0] 2)):=World.grownBy_alloc _ _ _;have R:Ints Any (a.alloc (.cells #[.int .i64 0,.int .i64 1,.int .i64 0,.int .i64 0] 2)) (.slice (some ⟨a.heap.size,0,none⟩) 4 4) [0,1,0,0]:=Ints.sub (ints_litL a [0,1,0,0] (by simp)) (λ_ _ _=>trivial);have r:(a.alloc (.cells #[.int .i64 0,.int .i64 1,.int .i64 0,.int .i64 0] 2)).heap.size=a.heap.size+1:=by simp
   generalize a.alloc (.cells #[.int .i64 0,.int .i64 1,.int .i64 0,.int .i64 0] 2)=u0 at *;have z:Ext u0 (u0.alloc (.cells #[.int .i64 1,.int .i64 0,.int .i64 0,.int .i64 0] 2)):=World.grownBy_alloc _ _ _;have J:Ints Any (u0.alloc (.cells #[.int .i64 1,.int .i64 0,.int .i64 0,.int .i64 0] 2)) (.slice (some ⟨u0.heap.size,0,none⟩) 4 4) [1,0,0,0]:=Ints.sub (ints_litL u0 [1,0,0,0] (by simp)) (λ_ _ _=>trivial);have C:(u0.alloc (.cells #[.int .i64 1,.int .i64 0,.int .i64 0,.int .i64 0] 2)).heap.size=u0.heap.size+1:=by simp
   generalize u0.alloc (.cells #[.int .i64 1,.int .i64 0,.int .i64 0,.int .i64 0] 2)=u1 at *;have L:Ext u1 (u1.alloc (.cells #[.int .i64 0,.int .i64 0,.int .i64 0,.int .i64 1] 2)):=World.grownBy_alloc _ _ _;have aa:Ints Any (u1.alloc (.cells #[.int .i64 0,.int .i64 0,.int .i64 0,.int .i64 1] 2)) (.slice (some ⟨u1.heap.size,0,none⟩) 4 4) [0,0,0,1]:=Ints.sub (ints_litL u1 [0,0,0,1] (by simp)) (λ_ _ _=>trivial);have X:(u1.alloc (.cells #[.int .i64 0,.int .i64 0,.int .i64 0,.int .i64 1] 2)).heap.size=u1.heap.size+1:=by simp
   generalize u1.alloc (.cells #[.int .i64 0,.int .i64 0,.int .i64 0,.int .i64 1] 2)=u2 at *;have af:Ext u2 (u2.alloc (.cells #[.int .i64 0,.int .i64 0,.int .i64 1,.int .i64 0] 2)):=World.grownBy_alloc _ _ _;have aG:Ints Any (u2.alloc (.cells #[.int .i64 0,.int .i64 0,.int .i64 1,.int .i64 0] 2)) (.slice (some ⟨u2.heap.size,0,none⟩) 4 4) [0,0,1,0]:=Ints.sub (ints_litL u2 [0,0,1,0] (by simp)) (λ_ _ _=>trivial);have az:(u2.alloc (.cells #[.int .i64 0,.int .i64 0,.int .i64 1,.int .i64 0] 2)).heap.size=u2.heap.size+1:=by simp
   generalize u2.alloc (.cells #[.int .i64 0,.int .i64 0,.int .i64 1,.int .i64 0] 2)=u3 at *;rw[r] at J;rw[C,r] at aa;rw[X,C,r] at aG;have S:=Ints.ext (Ints.ext (Ints.ext (R) z) L) af;have U:=Ints.ext (Ints.ext (J) L) af;have ae:=Ints.ext (aa) af;have aR:=aG
   have G:∀i,i<([[0,1,0,0],[1,0,0,0],[0,0,0,1],[0,0,1,0]]:List (List Int)).length->Ints Any u3 (gt ([.slice (some ⟨a.heap.size,0,none⟩) 4 4,.slice (some ⟨a.heap.size+1,0,none⟩) 4 4,.slice (some ⟨a.heap.size+1+1,0,none⟩) 4 4,.slice (some ⟨a.heap.size+1+1+1,0,none⟩) 4 4]:List Value) i) (gt ([[0,1,0,0],[1,0,0,0],[0,0,0,1],[0,0,1,0]]:List (List Int)) i):=by
    intro i hi;rcases(show i=0\/i=1\/i=2\/i=3 by simp at hi;omega) with rfl|rfl|rfl|rfl
    ·exact S
    ·exact U
    ·exact ae
    ·exact aR
   have K:=rows_litL u3 [.slice (some ⟨a.heap.size,0,none⟩) 4 4,.slice (some ⟨a.heap.size+1,0,none⟩) 4 4,.slice (some ⟨a.heap.size+1+1,0,none⟩) 4 4,.slice (some ⟨a.heap.size+1+1+1,0,none⟩) 4 4] [[0,1,0,0],[1,0,0,0],[0,0,0,1],[0,0,1,0]] rfl (by simp) G;have V:=World.grownBy_alloc u3 (.cells #[.slice (some ⟨a.heap.size,0,none⟩) 4 4,.slice (some ⟨a.heap.size+1,0,none⟩) 4 4,.slice (some ⟨a.heap.size+1+1,0,none⟩) 4 4,.slice (some ⟨a.heap.size+1+1+1,0,none⟩) 4 4] 24) none;have A:Ext a (u3.alloc (.cells #[.slice (some ⟨a.heap.size,0,none⟩) 4 4,.slice (some ⟨a.heap.size+1,0,none⟩) 4 4,.slice (some ⟨a.heap.size+1+1,0,none⟩) 4 4,.slice (some ⟨a.heap.size+1+1+1,0,none⟩) 4 4] 24)):=grown_trans F (grown_trans z (grown_trans L (grown_trans af V)));have am:u3.heap.size=a.heap.size+4:=by omega
   rw[az,X,C,r] at K;refine Calls.mono (l07Affine_ok _ 2 2 _ [[0,1,0,0],[1,0,0,0],[0,0,0,1],[0,0,1,0]] Any K (by unfold SmR Sm;simp) (by omega) (by omega) (by simp)) ?_;rintro e3 I ⟨v3,rfl,l,hP⟩;have hP:=hP.q.mono (B':=a.heap.size) (Nat.le_refl _) A.size;have H:Ext a I:=grown_trans A l;clear K V A G S R F r U J z C ae aa L X aR aG af az;obtain⟨vo,vp,vc,rfl,E⟩:=hP;have p:u.grownBy I (some sb):=grown_trans b (grown_of_ext (some sb) H);have N:=D.out.ext H
  rotate_left
  focus
   go_wp2_with fail
   have F:Ext a (a.alloc (.cells #[.int .i64 0,.int .i64 1] 2)):=World.grownBy_alloc _ _ _;have R:Ints Any (a.alloc (.cells #[.int .i64 0,.int .i64 1] 2)) (.slice (some ⟨a.heap.size,0,none⟩) 2 2) [0,1]:=Ints.sub (ints_litL a [0,1] (by simp)) (λ_ _ _=>trivial);have r:(a.alloc (.cells #[.int .i64 0,.int .i64 1] 2)).heap.size=a.heap.size+1:=by simp
   generalize a.alloc (.cells #[.int .i64 0,.int .i64 1] 2)=u0 at *;have z:Ext u0 (u0.alloc (.cells #[.int .i64 4,.int .i64 4] 2)):=World.grownBy_alloc _ _ _;have J:Ints Any (u0.alloc (.cells #[.int .i64 4,.int .i64 4] 2)) (.slice (some ⟨u0.heap.size,0,none⟩) 2 2) [4,4]:=Ints.sub (ints_litL u0 [4,4] (by simp)) (λ_ _ _=>trivial);have C:(u0.alloc (.cells #[.int .i64 4,.int .i64 4] 2)).heap.size=u0.heap.size+1:=by simp
   generalize u0.alloc (.cells #[.int .i64 4,.int .i64 4] 2)=u1 at *;rw[r] at J;have S:=Ints.ext (R) z;have U:=J
   have G:∀i,i<([[0,1],[4,4]]:List (List Int)).length->Ints Any u1 (gt ([.slice (some ⟨a.heap.size,0,none⟩) 2 2,.slice (some ⟨a.heap.size+1,0,none⟩) 2 2]:List Value) i) (gt ([[0,1],[4,4]]:List (List Int)) i):=by
    intro i hi;rcases(show i=0\/i=1 by simp at hi;omega) with rfl|rfl
    ·exact S
    ·exact U
   have K:=rows_litL u1 [.slice (some ⟨a.heap.size,0,none⟩) 2 2,.slice (some ⟨a.heap.size+1,0,none⟩) 2 2] [[0,1],[4,4]] rfl (by simp) G;have V:=World.grownBy_alloc u1 (.cells #[.slice (some ⟨a.heap.size,0,none⟩) 2 2,.slice (some ⟨a.heap.size+1,0,none⟩) 2 2] 24) none;have A:Ext a (u1.alloc (.cells #[.slice (some ⟨a.heap.size,0,none⟩) 2 2,.slice (some ⟨a.heap.size+1,0,none⟩) 2 2] 24)):=grown_trans F (grown_trans z V);have am:u1.heap.size=a.heap.size+2:=by omega
   rw[C,r] at K;refine Calls.mono (l07Affine_ok _ 5 3 _ [[0,1],[4,4]] Any K (by unfold SmR Sm;simp) (by omega) (by omega) (by simp)) ?_;rintro e3 I ⟨v3,rfl,l,hP⟩;have hP:=hP.q.mono (B':=a.heap.size) (Nat.le_refl _) A.size;have H:Ext a I:=grown_trans A l;clear K V A G S R F r U J z C;obtain⟨vo,vp,vc,rfl,E⟩:=hP;have p:u.grownBy I (some sb):=grown_trans b (grown_of_ext (some sb) H);have N:=D.out.ext H
  rotate_left
 rotate_left 6
 focus
  go_wp2_with fail
  refine Calls.mono (l01Next_ok B0 u sb 10 ab.out) ?_;rintro e2 a ⟨v2,rfl,b,y,rfl,hy0,hy1,hs2⟩;have hy:=hy1 (by omega);have D:=Lib.hid hs2;have ag:w.heap.size+1<=a.heap.size:=by have:=b.size;omega
  clear hy0 hy1 hs2;go_wp2_with fail
  refine Calls.mono (l07Table_ok a y hy.1 hy.2) ?_;rintro e3 I ⟨v3,rfl,l,hP⟩;obtain⟨vo,vp,vc,rfl,E⟩:=hP;have p:u.grownBy I (some sb):=grown_trans b (grown_of_ext (some sb) l);have N:=D.out.ext l
 rotate_left
 focus
  go_wp2_with fail
  refine Calls.mono (l01Next_ok B0 u sb 10 ab.out) ?_;rintro e2 a ⟨v2,rfl,b,y,rfl,hy0,hy1,hs2⟩;have hy:=hy1 (by omega);have D:=Lib.hid hs2;have ag:w.heap.size+1<=a.heap.size:=by have:=b.size;omega
  clear hy0 hy1 hs2;go_wp2_with fail
  refine Calls.mono (l07Table_ok a y hy.1 hy.2) ?_;rintro e3 I ⟨v3,rfl,l,hP⟩;obtain⟨vo,vp,vc,rfl,E⟩:=hP;have p:u.grownBy I (some sb):=grown_trans b (grown_of_ext (some sb) l);have N:=D.out.ext l
 rotate_left
 all_goals
  obtain⟨a1,n1,c1,a2,n2,c2,a3,n3,c3,rfl,rfl,rfl⟩:=E.shape;have Z:=Box3.keep ai p.size (p.block _ ai.1 (λe=>by have:=Option.some.inj e;omega));have Y:=grown_trans ak p;obtain⟨b0,b1,b2,b3,b4⟩:=id Z;have hZ:=Z.all (.slice a1 n1 c1) (.slice a2 n2 c2) (.slice a3 n3 c3);obtain⟨-,z0,z1,z2,-⟩:=id hZ;have HF:=Lib.hid (And.intro Y (And.intro E N));clear hZ Y E Z;go_wp2_with fail
  refine bodyPost_ret (v := .agg #[.slice a1 n1 c1,.slice a2 n2 c2,.slice a3 n3 c3]) (by simp[results,Tryz.results275,go_sem,z0,z1,z2]) rfl ?_;exact fam_ret HF.out.1 (B:=a.heap.size) (by omega) HF.out.2.2 aA HF.out.2.1 (by omega)
end Go.Proofs.YtldheeicjnncoaaGreat
