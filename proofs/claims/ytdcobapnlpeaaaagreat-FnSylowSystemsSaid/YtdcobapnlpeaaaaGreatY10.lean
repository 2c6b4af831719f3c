/- Merged from templates. -/
import Derived.Test.YtdcobapnlpeaaaaGreatY9
set_option maxRecDepth 100000
set_option maxHeartbeats 8000000
namespace Go.Proofs.YtdcobapnlpeaaaaGreat
open Go.RowKit
attribute [local go_sem ↓] Go.wp_at_zero Go.wp_at_succ
theorem sy (i:Nat) (h:i<100000):IntKind.i64.wrap ((i:Int)+1)=(i:Int)+1:=IntWalk.i64_in _ (by omega)
theorem sA (i:Nat) (h:i<100000):wrap64 ((i:Int)+1)=(i:Int)+1:=IntWalk.wrap64_in _ (by omega)
theorem yg (k:Nat) (h:k<100000):IntKind.i64.wrap (((k+1:Nat):Int)-1)=(k:Int):=by
 rw[show((k+1:Nat):Int)-1=(k:Int) by omega];exact IntWalk.i64_in _ (by omega)
theorem yh (k:Nat) (h:k<100000):wrap64 (((k+1:Nat):Int)-1)=(k:Int):=by
 rw[show((k+1:Nat):Int)-1=(k:Int) by omega];exact IntWalk.wrap64_in _ (by omega)
theorem jy (w:World) (n m r s:Int) (hn:1<=n/\n<=729) (hm:1<=m/\m<=729) (hr:0<=r/\r<30000) (hs:0<=s/\s<=1000000000) :
  Calls Tryz.prog 270 #[.int .i64 n,.int .i64 m,.int .i64 r,.int .i64 s] w (Ret w (PresN 18 w.heap.size)):=by
 obtain⟨n,rfl⟩:=Int.eq_ofNat_of_zero_le (show 0<=n by omega);obtain⟨m,rfl⟩:=Int.eq_ofNat_of_zero_le (show 0<=m by omega);have aM:∀w',Ext (w.alloc (.cells #[.slice none 0 0,.slice none 0 0,.slice none 0 0] 28)) w'->Box3 w' w.heap.size (.slice none 0 0) (.slice none 0 0) (.slice none 0 0):=λw' h=>(Box3.made w 28 _ _ _).ext h;have aN:Ext w (w.alloc (.cells #[.slice none 0 0,.slice none 0 0,.slice none 0 0] 28)):=World.grownBy_alloc _ _ _;have aO:(w.alloc (.cells #[.slice none 0 0,.slice none 0 0,.slice none 0 0] 28)).heap.size=w.heap.size+1:=by simp
 have R:0<=r%(m:Int):=Int.emod_nonneg _ (by omega);have W:r%(m:Int)<m:=Int.emod_lt_of_pos _ (by omega);obtain⟨pw,ag⟩:∃pw,pw=r%(m:Int):=⟨_,rfl⟩;rw[<-ag] at R W;have bK:(m:Int)≠0:=by omega
 have HN:=Lib.hid (And.intro hn (And.intro hm (And.intro hs (And.intro aM (And.intro aO (And.intro R W))))));clear hn aM aO R W hs hm;go_enter Tryz.func270,Tryz.ntmps270;go_wp2_with fail
 generalize w.alloc (.cells #[.slice none 0 0,.slice none 0 0,.slice none 0 0] 28)=w0 at *;refine Calls.mono (l07Factors_ok w0 n (by have:=HN.out.1;omega)) ?_;rintro e1 w1 ⟨v1,rfl,hg1,a1,c1,t,r1,rfl,ax,aP,ay⟩;go_wp2_with fail
 refine Calls.mono (l07Factors_ok w1 m (by have:=HN.out.2.1;omega)) ?_;rintro e2 w2 ⟨v2,rfl,az,a2,c2,b,r2,rfl,aQ,aR,hbx⟩;go_wp2_with fail
 refine Calls.mono (l01Own_ok w2 _ t _ (Ints.ext (ax.ints (by omega)) az) (by omega)) ?_;rintro e3 w3 ⟨v3,rfl,ai,aA⟩;go_wp2_with (at_builtin;refine wp_app_ints rfl _ _ rfl w2.heap.size v3 t rfl aA _ b rfl _ (Ints.ext (aQ.ints (by omega)) ai) (by omega) ai.size ?_;intro v4 F aj aS _)
 have X:Ext w2 F:=grown_own ai aS (λj Y u=>by have:=(aA.lt j Y).1;omega);obtain⟨o,ho⟩:∃o,o=t++b:=⟨_,rfl⟩;rw[<-ho] at aj;have aT:o.length=t.length+b.length:=by rw[ho];simp
 have Z:∀i,i<o.length->1<=gt o i/\gt o i<=7:=λi hi=>by
  have aV:gt o i∈t++b:=by rw[<-ho,gt_eq o i hi];exact List.getElem_mem hi
  rcases List.mem_append.1 aV with h|h
  ·have:=ay _ h;omega
  ·have:=hbx _ h;omega
 clear ho;have HT:=Lib.hid (And.intro aT (And.intro Z (And.intro ay (And.intro aP aR))));clear aT Z ay hbx aR aP;have aq:o.length<=18:=by have:=HT.out;omega
 have bM:t.length<=o.length:=by have:=HT.out;omega
 obtain⟨a4,c4,hv4,_⟩:=(aj.ints (by omega)).shape;subst hv4;have bN:=X.size;have aW:Ints Any F (.slice a4 o.length c4) o:=(aj.ints (by omega)).sub (λ_ _ _=>trivial);refine Calls.mono (l07Trivial_ok F _ o _ aW (by omega)) ?_;rintro e5 w5 ⟨v5,rfl,ak,vo,vp,vc,rfl,q⟩;obtain⟨V,co,ap,K,S,O,rfl,rfl,rfl⟩:=trivX_shape q;go_wp2_with fail
 have aX:Ext w5 (w5.alloc (.cells #[.slice V o.length co,.slice ap o.length K,.slice S o.length O] 28)):=World.grownBy_alloc _ _ _;have e:=BX.start (N:=18) (B:=F.heap.size) (by omega) q aX (Box3.made w5 28 (.slice V o.length co) (.slice ap o.length K) (.slice S o.length O)) ak.size;have bO:=ak.size;generalize w5.alloc (.cells #[.slice V o.length co,.slice ap o.length K,.slice S o.length O] 28)=w6 at *;have aY:Ext F w6:=grown_trans ak aX;have D:Ext w0 F:=grown_trans hg1 (grown_trans az X);have bk:Ints Any w1 (.slice a1 t.length c1) t:=(ax.ints (by omega)).sub (λ_ _ _=>trivial);have bl:Ext w1 F:=grown_trans az X;clear q ak ax aQ aA aj ai aS;go_loopw [16] (λiv wr=>∃i:Nat,iv=.int .i64 i/\i<=o.length/\Ext F wr/\BX 18 o F.heap.size w5.heap.size wr (.slice V o.length co) (.slice ap o.length K) (.slice S o.length O)) (λiv _=>o.length-(intOf iv).toNat)
 case atStart=>exact⟨0,rfl,by omega,aY,e⟩
 case round =>
  clear e aY;obtain⟨i,rfl,hi,G,e⟩:=hrel;by_cases u:i+1<o.length
  ·have P:(i:Int)+1<o.length:=by omega
   have aZ:i<100000:=by omega
   have bP:t.length<100000:=by omega
   by_cases hk:(i:Int)=(t.length:Int)-1
   ·skip
    go_wp2;go_roundw
    case rel=>exact⟨i+1,by go_num,by omega,G,e⟩
    case measure=>simp[intOf];omega
   ·obtain ⟨g,cap,z,fF,hgB,jO,hgl,aa,ab⟩:=e.storeP i (by omega)
    obtain⟨rfl,rfl⟩:ap=some ⟨g,0,none⟩/\K=cap:=by cases fF;exact⟨rfl,rfl⟩
    clear fF;have e1:∀w',Near wr g w'->w'.cell? ⟨w5.heap.size,1,none⟩=some (.slice (some ⟨g,0,none⟩) o.length K):=λw' h=>h.cell e.box.2.2.1 (by simp;omega)
    have Q:∀w,Calls Tryz.prog 308 #[.int .i64 o.length,.int .i64 ((i:Int)+1)] w (Ret w λw' v=>Own w.heap.size w' v (unitV o.length (i+1))):=λw=>by
     have h:=l07Unit_ok o.length (i+1) w (by omega) (by omega);rwa [show((i+1:Nat):Int)=(i:Int)+1 by omega] at h
    have a0:(unitV o.length (i+1)).length<=9223372036854775807:=by rw[unitV_len];omega
    have L:=Lib.hid (And.intro e (And.intro ab (And.intro aa a0)));clear e ab aa a0;have bQ:(i:Int)<o.length:=by omega
    go_wp2;clear hk;have aB:IntKind.i64.wrap ((i:Int)+1)=(i:Int)+1:=sy _ aZ;have aC:wrap64 ((i:Int)+1)=(i:Int)+1:=sA _ aZ
    go_region_held3 (λw'=>Near wr g w') (first|exact Near.of (grown_drew _ _)|exact Near.of (by assumption)|exact Near.store (by assumption)|assumption)
     (first
      | (go_at_call 308;refine Calls.mono (Calls.rel (w0:=wr) (by first|exact grown_drew _ _|assumption) (Q _)) ?_;rintro eE M ⟨vE,rfl,a,gF,E⟩;obtain⟨aE,cE,fQ,_⟩:=(E.ints L.out.2.2.2).shape;subst fQ;have T:=(L.out.2.2.1 M a).1;have ad:=(L.out.2.2.1 M a).2))
    clear aB aC;have a3:=a.size;have q:=L.out.2.1 M _ (unitV o.length (i+1)) a (OwnIn.of E (by rw[unitV_len];omega) (λk hk _=>Nat.le_trans (by assumption) hk)) (by rw[unitV_len];omega);have C:Ext F (M.setCell ⟨g,i,none⟩ (.slice aE (unitV o.length (i+1)).length cE)):=grown_own (grown_trans G a) (grown_set1 _ _ _ _) (λj Y u=>by cases Y;omega);clear T ad e1;go_wp2;go_roundw
    case rel=>exact⟨i+1,by go_num,by omega,C,q⟩
    case measure=>simp[intOf];omega
  ·have P:¬((i:Int)+1<o.length):=by omega
   have bm:t.length<=18:=by omega
   have bR:(1:Int)<=m/\(m:Int)<=729:=HN.out.2.1;by_cases bS:t.length=0
   ·have a5:¬(0:Int)<t.length:=by omega
    go_wp2;clear ag;generalize bn:r%(m:Int)=DR;clear bn;go_loopw [18] (λiv wx=>iv=.int .i64 0/\wx=wr) (λ_ _=>0)
    case atStart=>exact⟨rfl,rfl⟩
    case round=>
     obtain⟨rfl,rfl⟩:=hrel;have hz:=HN.out.2.2.2.1 _ (grown_trans D G);obtain⟨h0,h1,h2,h3',h4⟩:=id e.box;obtain⟨k0,k1,k2,k3,k4⟩:=id hz;have hZ:=hz.all (.slice V o.length co) (.slice ap o.length K) (.slice S o.length O);have hT:=grown_set3 wr w.heap.size (.slice V o.length co) (.slice ap o.length K) (.slice S o.length O);obtain⟨_,z0,z1,z2,_⟩:=id hZ;have HQ:=Lib.hid (And.intro hT e);clear hT hZ e;go_wp2;refine bodyPost_ret (v := .agg #[.slice V o.length co,.slice ap o.length K,.slice S o.length O]) (by simp[results,Tryz.results270,go_sem,z0,z1,z2]) rfl ?_;have bp:=HN.out.2.2.2.2.1;have bq:=D.size;exact⟨_,rfl,grown_own (grown_trans aN (grown_trans D G)) HQ.out.1 (λj Y u=>by cases Y;omega),(HQ.out.2.ret HQ.out.1 (by omega)).weak (by omega)⟩
   ·have a5:(0:Int)<t.length:=by omega
    obtain⟨kt,U⟩:∃kt,t.length=kt+1:=⟨t.length-1,by omega⟩;obtain⟨g,cap,z,fF,hgB,jO,hgl,aa,ab⟩:=e.storeP kt (by omega);obtain⟨rfl,rfl⟩:ap=some ⟨g,0,none⟩/\K=cap:=by cases fF;exact⟨rfl,rfl⟩
    clear fF;have e1:∀w',Near wr g w'->w'.cell? ⟨w5.heap.size,1,none⟩=some (.slice (some ⟨g,0,none⟩) o.length K):=λw' h=>h.cell e.box.2.2.1 (by simp;omega);have Z:=HT.out.2.1
    have H:∀w' (k:Nat) (x:Int),Ext F w'->0<=x->x<=1000000000->Calls Tryz.prog 309 #[.slice a4 o.length c4,.int .i64 k,.int .i64 x] w' (Ret w' λaF r=>∃l,l.length=o.length/\Own w'.heap.size aF r l):=λw' k x he h1 h2=>
     l07Digits_ok w' _ o k x Any (aW.ext he) (by omega) Z ⟨h1,h2⟩
    have I:o.length<=9223372036854775807:=by omega
    have bs:(kt:Int)<o.length:=by omega
    have L:=Lib.hid (And.intro e (And.intro ab (And.intro aa (And.intro H (And.intro I U)))));clear e ab aa H Z I U;have aG:=HN.out.2.2.2.2.2;have aH:=HN.out.2.2.1;go_wp2;have ar:kt<100000:=by omega
    have U:=L.out.2.2.2.2.2;have aB:IntKind.i64.wrap ((t.length:Int)-1)=(kt:Int):=by rw[U];exact yg kt ar
    have aC:wrap64 ((t.length:Int)-1)=(kt:Int):=by rw[U];exact yh kt ar
    clear U
    go_region_held3 (λw'=>Near wr g w') (first|exact Near.of (grown_drew _ _)|exact Near.of (by assumption)|exact Near.store (by assumption)|assumption)
     (first
      | (go_at_call 309;refine Calls.mono (Calls.rel (w0:=wr) (by first|exact grown_drew _ _|assumption) (L.out.2.2.2.1 _ t.length s (grown_trans G (by first|exact grown_drew _ _|assumption)) aH.1 aH.2)) ?_;rintro eE M ⟨vE,rfl,a,gF,lE,A,E⟩;obtain⟨aE,cE,fQ,_⟩:=(E.ints (by rw[A];exact L.out.2.2.2.2.1)).shape;subst fQ;have T:=(L.out.2.2.1 M a).1;have ad:=(L.out.2.2.1 M a).2))
    clear aB aC;have a3:=a.size;have q:=L.out.2.1 M _ lE a (OwnIn.of E (by rw[A];exact L.out.2.2.2.2.1) (λk hk _=>Nat.le_trans (by assumption) hk)) (by rw[A];exact aq);have C:Ext F (M.setCell ⟨g,kt,none⟩ (.slice aE lE.length cE)):=grown_own (grown_trans G a) (grown_set1 _ _ _ _) (λj Y u=>by cases Y;omega);rw[A] at q C;have H:=L.out.2.2.2.1;have I:=L.out.2.2.2.2.1;have HD:=Lib.hid (And.intro H I);clear H A I L;clear T ad e1 u P bs hgB jO hgl aH E a a3 gF;go_wp2;rw[<-ag];clear ag;clear hi G;generalize M.setCell ⟨g,kt,none⟩ (.slice aE o.length cE)=w7 at *;go_loopw [17,18] (λpv iv wr=>∃(i:Nat) (p:Int),iv=.int .i64 i/\pv=.int .i64 p/\i<=t.length/\0<=p/\p<30000/\Ext F wr/\BX 18 o F.heap.size w5.heap.size wr (.slice V o.length co) (.slice (some ⟨g,0,none⟩) o.length K) (.slice S o.length O)) (λ_ iv _=>t.length-(intOf iv).toNat)
    case atStart=>exact⟨0,pw,rfl,rfl,by omega,aG.1,by have:=aG.2;omega,C,q⟩
    case round=>
     clear q C aG;obtain⟨i,p,rfl,rfl,hi,R,W,G,e⟩:=hrel;by_cases u:i<t.length
     ·have P:(i:Int)<t.length:=by omega
      obtain⟨wo,pQ⟩:∃wo:World,wo=wr:=⟨_,rfl⟩;go_wp2;go_loopw [19] (λjv wx=>∃(J:Nat) (y:Int),jv=.int .i64 y/\y=((i+1+J:Nat):Int)/\i+1+J<=o.length/\Ext F wx/\BX 18 o F.heap.size w5.heap.size wx (.slice V o.length co) (.slice (some ⟨g,0,none⟩) o.length K) (.slice S o.length O)) (λjv _=>o.length-(intOf jv).toNat)
      case atStart=>exact⟨t.length-i-1,_,rfl,by omega,by omega,G,e⟩
      case round=>
       clear e G pQ;obtain⟨J,y,rfl,hy,hJ,G,e⟩:=hrel;by_cases bI:i+1+J<o.length
       ·have bw:y<o.length:=by omega
        have bV:0<=y:=by omega
        obtain⟨gc,capc,b,a',z2,fM,hcB,gC,T,hcell,jP,nD,hbg,hbl,au,av⟩:=e.storeC i J (by omega) (by omega);obtain⟨rfl,rfl⟩:S=some ⟨gc,0,none⟩/\O=capc:=by cases fM;exact⟨rfl,rfl⟩
        clear fM;have e1:∀w',Near wr b w'->w'.cell? ⟨w5.heap.size,2,none⟩=some (.slice (some ⟨gc,0,none⟩) o.length O):=λw' h=>h.cell e.box.2.2.2.1 (by simp;omega);have e2:∀w',Near wr b w'->w'.cell? ⟨gc,i,none⟩=some (.slice (some ⟨b,0,none⟩) (o.length-1-i) a'):=λw' h=>h.cell hcell (by simp;omega);have ba:=HD.out.1
        have Q:∀w',Ext F w'->Calls Tryz.prog 309 #[.slice a4 o.length c4,.int .i64 y,.int .i64 p] w' (Ret w' λaF r=>∃l,l.length=o.length/\Own w'.heap.size aF r l):=λw' he=>by
         rw[hy];exact ba w' _ p he R (by omega)
        have HY:=Lib.hid (And.intro e (And.intro av (And.intro au (And.intro Q hy))));clear e av au Q ba hcell;have bW:(J:Int)<((o.length-1-i:Nat):Int):=by omega
        have bX:(i:Int)<o.length:=by omega
        go_wp2;obtain⟨d,hd⟩:∃d,d=y-(i:Int):=⟨_,rfl⟩;have am:IntKind.i64.wrap (y-(i:Int))=d:=by rw[hd];exact IntWalk.i64_in _ (by omega)
        have an:IntKind.i64.wrap (d-1)=(J:Int):=by rw[show d-1=(J:Int) by omega];exact IntWalk.i64_in _ (by omega)
        have aI:wrap64 (y-(i:Int))=d:=by rw[hd];exact IntWalk.wrap64_in _ (by clear am an;omega)
        have bz:wrap64 (d-1)=(J:Int):=by rw[show d-1=(J:Int) by clear am aI an;omega];exact IntWalk.wrap64_in _ (by clear am aI an;omega)
        clear hd hy
        go_region_held3 (λw'=>Near wr b w') (first|exact Near.of (grown_drew _ _)|exact Near.of (by assumption)|exact Near.store (by assumption)|assumption)
         (first
          | (go_at_call 309;refine Calls.mono (Calls.rel (w0:=wr) (by first|exact grown_drew _ _|assumption) (HY.out.2.2.2.1 _ (grown_trans G (by first|exact grown_drew _ _|assumption)))) ?_;rintro eE M ⟨vE,rfl,a,gF,lE,A,E⟩;obtain⟨aE,cE,fQ,_⟩:=(E.ints (by rw[A];exact HD.out.2)).shape;subst fQ;have T:=(HY.out.2.2.1 M a).1;have ad:=(HY.out.2.2.1 M a).2))
        clear am aI an bz;have q:=HY.out.2.1 M _ lE a (OwnIn.of E (by rw[A];exact HD.out.2) (λk hk _=>Nat.le_trans (by assumption) hk)) (by rw[A];exact aq);have C:Ext F (M.setCell ⟨b,J,none⟩ (.slice aE lE.length cE)):=grown_own (grown_trans G a) (grown_set1 _ _ _ _) (λj Y u=>by cases Y;omega);rw[A] at q C;have bc:=HY.out.2.2.2.2;clear T ad e1 e2 A;have HZ:=Lib.hid bc;clear bc;go_wp2;go_roundw
        case rel=>exact⟨J+1,y+1,rfl,by have:=HZ.out;omega,by omega,C,q⟩
        case measure=>have:=HZ.out;simp[intOf];omega
       ·have bw:¬(y<o.length):=by omega
        obtain⟨bt,ot,rfl,_,_,DT⟩:=Ints.at (Ints.ext bk (grown_trans bl G)) i u;have bd:2<=gt t i/\gt t i<=7:=HT.out.2.2.1 _ (by rw[gt_eq t i u];exact List.getElem_mem u);have aw:=l01Power_ok wr p (gt t i) m ⟨R,W⟩ (by omega) (by omega);have HP:=Lib.hid (And.intro bd hy);clear bd hy;go_wp2_with fail
        refine Calls.mono aw ?_;rintro eP wP ⟨vP,rfl,je,pn,rfl,yj,yl⟩;have C:=grown_trans G je;have bA:=e.ext je;clear e G aw;go_wp2;go_roundw
        case rel=>exact⟨i+1,pn,by go_num,rfl,by omega,yj,yl,C,bA⟩
        case measure=>simp[intOf];omega
     ·have P:¬((i:Int)<t.length):=by omega
      have hz:=HN.out.2.2.2.1 _ (grown_trans D G);obtain⟨h0,h1,h2,h3',h4⟩:=id e.box;obtain⟨k0,k1,k2,k3,k4⟩:=id hz;have hZ:=hz.all (.slice V o.length co) (.slice (some ⟨g,0,none⟩) o.length K) (.slice S o.length O);have hT:=grown_set3 wr w.heap.size (.slice V o.length co) (.slice (some ⟨g,0,none⟩) o.length K) (.slice S o.length O);obtain⟨_,z0,z1,z2,_⟩:=id hZ;have HQ:=Lib.hid (And.intro hT e);clear hT hZ e;go_wp2;refine bodyPost_ret (v := .agg #[.slice V o.length co,(.slice (some ⟨g,0,none⟩) o.length K),(.slice S o.length O)]) (by simp[results,Tryz.results270,go_sem,z0,z1,z2]) rfl ?_;have bp:=HN.out.2.2.2.2.1;have bq:=D.size;exact⟨_,rfl,grown_own (grown_trans aN (grown_trans D G)) HQ.out.1 (λj Y u=>by cases Y;omega),(HQ.out.2.ret HQ.out.1 (by omega)).weak (by omega)⟩
theorem BX.by {N:Nat}{o:List Int}{B pb:Nat}{w w':World}{vo vp vc:Value}(h:BX N o B pb w vo vp vc) {r:Option Nat}(b:w.grownBy w' r) (g:∀k,r=some k->k<B):BX N o B pb w' vo vp vc:=by
 obtain⟨P,h1,h2,h3⟩:=h.px;have hB:=h.hB;refine⟨hB,Box3.keep h.box b.size (b.block _ h.box.1 (λe=>by have:=g _ e.symm;omega)),P,h1,h2,h3.mono (λk hk a=>⟨hk,Nat.lt_of_lt_of_le a b.size,b.block k a (λe=>by have:=g _ e.symm;have:B<=k:=hk.1;omega)⟩)⟩
def dX (w:World) (s g:Nat) (w':World):Prop:=∀k,k<w.heap.size->k≠s->k≠g->w'.heap[k]? = w.heap[k]?
theorem dX.of {w w':World}{s g:Nat}(h:w.grownBy w' (some s)):dX w s g w':=λk hk a _=>h.block k hk (λe=>a (by cases e;rfl))
theorem dX.ext {w w':World}{s g:Nat}(h:Ext w w'):dX w s g w':=dX.of (grown_of_ext _ h)
theorem dX.two {w a w':World}{s g:Nat}(h:w.grownBy a (some s)) (b:a.grownBy w' (some g)):dX w s g w':=λk hk i j=>
 (b.block k (Nat.lt_of_lt_of_le hk h.size) (λe=>j (by cases e;rfl))).trans (h.block k hk (λe=>i (by cases e;rfl)))
theorem dX.cell {w w':World}{s g:Nat}(h:dX w s g w') {a:Addr}{v:Value}(i:w.cell? a=some v) (b:a.block≠g) (e:a.block≠s):w'.cell? a=some v:=
 (World.cell?_of_block (h a.block (World.block_lt_of_cell? w a i) e b)).trans i
theorem nE (w:World) (x y z:Int) {B:Nat}(hB:B<=w.heap.size):OwnIn (From B) (w.alloc (.cells #[.int .i64 x,.int .i64 y,.int .i64 z] 2)) (.slice (some ⟨w.heap.size,0,none⟩) 3 3) [x,y,z]:=
 OwnIn.of (Own.of (World.ownsRow_lit w #[.int .i64 x,.int .i64 y,.int .i64 z] 3 hB (by decide) rfl)) (by simp) (λk hk _=>hk)
def iV (a sb:Nat) (Φ : World->Value->Prop) (w':World) (v:Value):Prop := Φ w' v/\Src a w' sb
theorem ym (B0:Nat) (w:World) (sb:Nat) (p:Int) (aq:B0<=w.heap.size) (hs:Src B0 w sb) :
  Calls Tryz.prog 319 #[.pointer (some ⟨sb,0,none⟩),.int .i64 p] w (Mut w (some sb) (iV B0 sb (PresN 3 w.heap.size))):=by
 have ar:∀w' r,(w.alloc (.cells #[.slice none 0 0,.slice none 0 0,.slice none 0 0] 28)).grownBy w' r->(∀k,r=some k->k≠w.heap.size)->Box3 w' w.heap.size (.slice none 0 0) (.slice none 0 0) (.slice none 0 0):=λw' r h hr=>
  Box3.keep (Box3.made w 28 _ _ _) h.size (h.block _ (by simp) (λe=>hr _ e.symm rfl))
 have aI:Ext w (w.alloc (.cells #[.slice none 0 0,.slice none 0 0,.slice none 0 0] 28)):=World.grownBy_alloc _ _ _;have au:(w.alloc (.cells #[.slice none 0 0,.slice none 0 0,.slice none 0 0] 28)).heap.size=w.heap.size+1:=by simp
 have av:=hs.lt;have I:=Lib.hid (And.intro ar (And.intro au (And.intro hs av)));clear ar au hs av;go_enter Tryz.func319,Tryz.ntmps319;go_wp2_with fail
 generalize w.alloc (.cells #[.slice none 0 0,.slice none 0 0,.slice none 0 0] 28)=w0 at *;have T:=nE w0 p p p (Nat.le_refl _);have aw:Ext w0 (w0.alloc (.cells #[.int .i64 p,.int .i64 p,.int .i64 p] 2)):=World.grownBy_alloc _ _ _;rw[I.out.2.1] at T;obtain⟨o,ho⟩:∃o,o=[p,p,p]:=⟨_,rfl⟩;have ax:o.length=3:=by rw[ho];rfl
 rw[<-ho] at T;clear ho;have aV:(w0.alloc (.cells #[.int .i64 p,.int .i64 p,.int .i64 p] 2)).heap.size=w.heap.size+2:=by simp[I.out.2.1]
 generalize w0.alloc (.cells #[.int .i64 p,.int .i64 p,.int .i64 p] 2)=w1 at *;refine Calls.mono (l07Trivial_ok w1 _ o _ T.ints (by omega)) ?_;rintro e5 w5 ⟨v5,rfl,K,vo,vp,vc,rfl,iW⟩;obtain⟨U,co,ap,J,ac,L,h1,h2,h3⟩:=trivX_shape iW;subst h1 h2 h3;have V:=Lib.hid ax;clear ax;go_wp2_with fail
 have M:Ext w5 (w5.alloc (.cells #[.slice U o.length co,.slice ap o.length J,.slice ac o.length L] 28)):=World.grownBy_alloc _ _ _;have hX:=BX.start (N:=3) (B:=w1.heap.size) (by have:=V.out;omega) iW M (Box3.made w5 28 (.slice U o.length co) (.slice ap o.length J) (.slice ac o.length L)) K.size;have aW:=K.size;generalize w5.alloc (.cells #[.slice U o.length co,.slice ap o.length J,.slice ac o.length L] 28)=y at *;have aK:Ext w y:=grown_trans aI (grown_trans aw (grown_trans K M));have ay:Ext w0 y:=grown_trans aw (grown_trans K M);clear iW T K;obtain⟨gc,capc,b,capb,z2,fM,hcB,gC,W,A,jP,nD,hbg,hbl,sD,sF⟩:=hX.storeC 0 0 (by have:=V.out;omega) (by have:=V.out;omega);obtain⟨rfl,rfl⟩:ac=some ⟨gc,0,none⟩/\L=capc:=by cases fM;exact⟨rfl,rfl⟩
 clear fM;have n:Ext y (y.alloc (.cells #[.int .i64 0,.int .i64 1,.int .i64 1] 2)):=World.grownBy_alloc _ _ _;have aL:=nE y 0 1 1 (Nat.le_refl _);have c1:=(hX.ext n).box.2.2.2.1;have c2:=n.cell A (by simp);obtain⟨c3,c4⟩:=sD _ n;have k1:=hX.box.2.2.2.1;have ah:=sF _ _ _ n aL (by simp);have aX:=n.size;have X:Ext w ((y.alloc (.cells #[.int .i64 0,.int .i64 1,.int .i64 1] 2)).setCell ⟨b,0,none⟩ (.slice (some ⟨y.heap.size,0,none⟩) 3 3)):=grown_own (grown_trans aK n) (grown_set1 _ _ _ _) (λj C D=>by cases C;omega);have O:Ext w0 ((y.alloc (.cells #[.int .i64 0,.int .i64 1,.int .i64 1] 2)).setCell ⟨b,0,none⟩ (.slice (some ⟨y.heap.size,0,none⟩) 3 3)):=grown_own (grown_trans ay n) (grown_set1 _ _ _ _) (λj C D=>by cases C;have:=I.out.2.1;omega);clear sF hX;obtain⟨m,hm⟩:∃m,m=o.length-1-0:=⟨_,rfl⟩;have aY:(0:Int)<m:=by have:=V.out;omega
 have aZ:0<o.length:=by have:=V.out;omega
 have a0:1<o.length:=by have:=V.out;omega
 have a1:0<m:=by have:=V.out;omega
 have aN:(0:Int)<o.length:=by have:=V.out;omega
 have a2:(1:Int)<o.length:=by have:=V.out;omega
 rw[<-hm] at A c2;clear hm
 have heq:(y.alloc (.cells #[.int .i64 0,.int .i64 1,.int .i64 1] 2)).setCell ⟨b,0,none⟩ (.slice (some ⟨y.heap.size,0,none⟩) 3 3)=(y.setCell ⟨b,0,none⟩ (.slice (some ⟨y.heap.size,0,none⟩) 3 3)).alloc (.cells #[.int .i64 0,.int .i64 1,.int .i64 1] 2):=by
  simp[go_sem,hbl]
 rw[heq] at ah X O
 have i1:∀w',(Instr.indexAt 26 (.slice (some ⟨gc,0,none⟩) o.length L) (.int .i64 0)).run Tryz.prog w'=.ok (.pointer (some ⟨gc,0,none⟩)) w':=λw'=>by
  rw[run_indexAt_slice (h:=by rfl),if_pos ⟨by decide,aN⟩];kernel_rfl
 go_wp2;rw[i1];clear i1;go_wp2_with fail
 generalize (y.setCell ⟨b,0,none⟩ (.slice (some ⟨y.heap.size,0,none⟩) 3 3)).alloc (.cells #[.int .i64 0,.int .i64 1,.int .i64 1] 2)=w7 at *;have a4:=I.out.2.2.2;refine Calls.mono (l01Next_ok B0 w7 sb 2 (I.out.2.2.1.ext X)) ?_;rintro e8 w8 ⟨v8,rfl,Y,x,rfl,hx0,hx1,aj⟩;have H:=ah.by Y (λk e=>by cases e;omega)
 have P:=grown_trans (grown_of_ext (some sb) X) Y;have E:=grown_trans (grown_of_ext (some sb) O) Y;clear ah Y X O c1 c2 c3 c4 k1 hx0 hx1 A sD heq;by_cases hx:x=0
 ·subst hx
  go_wp2;obtain⟨g,capg,z,fF,hgB,jO,hgl,hcc,hst⟩:=H.storeP 0 (by omega);obtain⟨rfl,rfl⟩:ap=some ⟨g,0,none⟩/\J=capg:=by cases fF;exact⟨rfl,rfl⟩
  clear fF;have e1:∀w',dX w8 sb g w'->w'.cell? ⟨w5.heap.size,1,none⟩=some (.slice (some ⟨g,0,none⟩) o.length J):=λw' h=>h.cell H.box.2.2.1 (by simp;omega) (by simp;omega);have Z:=Lib.hid (And.intro H (And.intro aj (And.intro P E)));clear H aj P E hcc hst
  go_region_held3 (λw'=>dX w8 sb g w') (first|exact dX.ext (grown_drew _ _)|exact dX.of (by assumption)|exact dX.of n|exact dX.two a (grown_trans (grown_set1 _ _ _ _) (grown_of_ext _ (World.grownBy_alloc _ _ _)))|assumption)
   (first
    | (go_at_call 135;refine Calls.mono (l01Next_ok B0 w8.drew sb p (Z.out.2.1.ext (grown_drew _ _))) ?_;rintro e9 i ⟨v9,rfl,a,xa,rfl,hx0,hx1,kS⟩;have a:w8.grownBy i (some sb):=grown_trans (grown_of_ext (some sb) (grown_drew _ _)) a;have n:w8.grownBy (i.alloc (.cells #[.int .i64 0,.int .i64 0,.int .i64 xa] 2)) (some sb):=grown_trans a (grown_of_ext _ (World.grownBy_alloc _ _ _));have Q:=Z.out.1.by a (λk e=>by cases e;omega);obtain⟨g',yq,z',pR,_,_,_,u,lS⟩:=Q.storeP 0 (by omega);cases pR;have W:=(u (i.alloc (.cells #[.int .i64 0,.int .i64 0,.int .i64 xa] 2)) (World.grownBy_alloc _ _ _)).1;have ak:=(u (i.alloc (.cells #[.int .i64 0,.int .i64 0,.int .i64 xa] 2)) (World.grownBy_alloc _ _ _)).2))
  have F:=lS _ _ _ (World.grownBy_alloc _ _ _) (nE i 0 0 xa (Nat.le_refl _)) (by simp)
  have hq:(i.alloc (.cells #[.int .i64 0,.int .i64 0,.int .i64 xa] 2)).setCell ⟨g,0,none⟩ (.slice (some ⟨i.heap.size,0,none⟩) 3 3)=(i.setCell ⟨g,0,none⟩ (.slice (some ⟨i.heap.size,0,none⟩) 3 3)).alloc (.cells #[.int .i64 0,.int .i64 0,.int .i64 xa] 2):=by
   simp[go_sem,Nat.lt_of_lt_of_le hgl a.size]
  rw[hq] at F;have G:i.grownBy ((i.setCell ⟨g,0,none⟩ (.slice (some ⟨i.heap.size,0,none⟩) 3 3)).alloc (.cells #[.int .i64 0,.int .i64 0,.int .i64 xa] 2)) (some g):=grown_trans (grown_set1 _ _ _ _) (grown_of_ext _ (World.grownBy_alloc _ _ _));have ae:=kS.own G (λk e=>by cases e;omega);have af:=grown_own (grown_trans Z.out.2.2.1 a) G (λj C D=>by cases C;omega);have R:=grown_own (grown_trans Z.out.2.2.2 a) G (λj C D=>by cases C;have:=I.out.2.1;omega);have aa:=F;clear F hq G W ak u lS Q n a kS hx0 hx1 e1;go_wp2;generalize (i.setCell ⟨g,0,none⟩ (.slice (some ⟨i.heap.size,0,none⟩) 3 3)).alloc (.cells #[.int .i64 0,.int .i64 0,.int .i64 xa] 2)=wA at *;have aT:=I.out.2.1;obtain⟨g2,capg,z,fF,hgB,jO,hgl,hcc,hst⟩:=aa.storeP 1 (by omega);cases fF
  have e1:∀w',dX wA sb g w'->w'.cell? ⟨w5.heap.size,1,none⟩=some (.slice (some ⟨g,0,none⟩) o.length J):=λw' h=>h.cell aa.box.2.2.1 (by simp;omega) (by simp;omega);have ab:=Lib.hid (And.intro aa (And.intro ae (And.intro af R)));clear aa ae af R hcc hst
  go_region_held3 (λw'=>dX wA sb g w') (first|exact dX.ext (grown_drew _ _)|exact dX.of (by assumption)|exact dX.of n|exact dX.two a (grown_trans (grown_set1 _ _ _ _) (grown_of_ext _ (World.grownBy_alloc _ _ _)))|assumption)
   (first
    | (go_at_call 135;refine Calls.mono (l01Next_ok B0 wA.drew sb p (ab.out.2.1.ext (grown_drew _ _))) ?_;rintro e9 l ⟨v9,rfl,a,xb,rfl,hx0,hx1,kS⟩;have a:wA.grownBy l (some sb):=grown_trans (grown_of_ext (some sb) (grown_drew _ _)) a;have n:wA.grownBy (l.alloc (.cells #[.int .i64 0,.int .i64 0,.int .i64 xb] 2)) (some sb):=grown_trans a (grown_of_ext _ (World.grownBy_alloc _ _ _));have Q:=ab.out.1.by a (λk e=>by cases e;omega);obtain⟨g',yq,z',pR,_,_,_,u,lS⟩:=Q.storeP 1 (by omega);cases pR;have W:=(u (l.alloc (.cells #[.int .i64 0,.int .i64 0,.int .i64 xb] 2)) (World.grownBy_alloc _ _ _)).1;have ak:=(u (l.alloc (.cells #[.int .i64 0,.int .i64 0,.int .i64 xb] 2)) (World.grownBy_alloc _ _ _)).2))
  have F:=lS _ _ _ (World.grownBy_alloc _ _ _) (nE l 0 0 xb (Nat.le_refl _)) (by simp)
  have hq:(l.alloc (.cells #[.int .i64 0,.int .i64 0,.int .i64 xb] 2)).setCell ⟨g,1,none⟩ (.slice (some ⟨l.heap.size,0,none⟩) 3 3)=(l.setCell ⟨g,1,none⟩ (.slice (some ⟨l.heap.size,0,none⟩) 3 3)).alloc (.cells #[.int .i64 0,.int .i64 0,.int .i64 xb] 2):=by
   simp[go_sem,Nat.lt_of_lt_of_le hgl a.size]
  rw[hq] at F;have G:l.grownBy ((l.setCell ⟨g,1,none⟩ (.slice (some ⟨l.heap.size,0,none⟩) 3 3)).alloc (.cells #[.int .i64 0,.int .i64 0,.int .i64 xb] 2)) (some g):=grown_trans (grown_set1 _ _ _ _) (grown_of_ext _ (World.grownBy_alloc _ _ _));have aP:=kS.own G (λk e=>by cases e;omega);have aB:=grown_own (grown_trans ab.out.2.2.1 a) G (λj C D=>by cases C;omega);have al:=grown_own (grown_trans ab.out.2.2.2 a) G (λj C D=>by cases C;have:=I.out.2.1;omega);have aC:=F;clear F hq G W ak u lS Q n a kS hx0 hx1 e1;generalize (l.setCell ⟨g,1,none⟩ (.slice (some ⟨l.heap.size,0,none⟩) 3 3)).alloc (.cells #[.int .i64 0,.int .i64 0,.int .i64 xb] 2)=wB at *;have hz:=I.out.1 wB (some sb) al (λk e=>by cases e;have:=I.out.2.2.2.2;omega);obtain⟨h0,h1,h2,h3',h4⟩:=id aC.box;obtain⟨k0,k1,k2,k3,k4⟩:=id hz;have hZ:=hz.all (.slice U o.length co) (.slice (some ⟨g,0,none⟩) o.length J) (.slice (some ⟨gc,0,none⟩) o.length L);have G:=grown_set3 wB w.heap.size (.slice U o.length co) (.slice (some ⟨g,0,none⟩) o.length J) (.slice (some ⟨gc,0,none⟩) o.length L);obtain⟨_,z0,z1,z2,_⟩:=id hZ;have S:=Lib.hid (And.intro G (And.intro aC aP));clear G hZ;go_wp2;refine bodyPost_ret (v := .agg #[.slice U o.length co,(.slice (some ⟨g,0,none⟩) o.length J),.slice (some ⟨gc,0,none⟩) o.length L]) (by simp[results,Tryz.results319,go_sem,z0,z1,z2]) rfl ?_;exact⟨_,rfl,grown_own aB S.out.1 (λj C D=>by cases C;omega),(S.out.2.1.ret S.out.1 (by omega)).weak (by omega),S.out.2.2.own S.out.1 (λk e=>by cases e;exact aq)⟩
 ·skip
  have hz:=I.out.1 w8 (some sb) E (λk e=>by cases e;have:=I.out.2.2.2.2;omega);obtain⟨h0,h1,h2,h3',h4⟩:=id H.box;obtain⟨k0,k1,k2,k3,k4⟩:=id hz;have hZ:=hz.all (.slice U o.length co) (.slice ap o.length J) (.slice (some ⟨gc,0,none⟩) o.length L);have G:=grown_set3 w8 w.heap.size (.slice U o.length co) (.slice ap o.length J) (.slice (some ⟨gc,0,none⟩) o.length L);obtain⟨_,z0,z1,z2,_⟩:=id hZ;have S:=Lib.hid (And.intro G (And.intro H aj));clear G hZ;go_wp2;refine bodyPost_ret (v := .agg #[.slice U o.length co,(.slice ap o.length J),.slice (some ⟨gc,0,none⟩) o.length L]) (by simp[results,Tryz.results319,go_sem,z0,z1,z2]) rfl ?_;exact⟨_,rfl,grown_own P S.out.1 (λj C D=>by cases C;omega),(S.out.2.1.ret S.out.1 (by omega)).weak (by omega),S.out.2.2.own S.out.1 (λk e=>by cases e;exact aq)⟩
theorem lT (x y:Int) (h:x=y) (a:0<=x/\x<=1000):wrap64 x=y/\IntKind.i64.wrap x=y:=⟨by rw[<-h];exact pS x a,by rw[<-h];exact pT x a⟩
theorem kT (w:World) (p n:Int) (rv:Value) (R:List (List Int)) (S:Nat->Prop) (hr:Rows2 S w rv R) (hR:iD R.length R) (hp:1<=p/\p<=7) (hn:1<=n/\n<=729) (cr:R.length<=9) :
  Calls Tryz.prog 320 #[.int .i64 p,rv,.int .i64 n] w (Ret w (PresN 18 w.heap.size)):=by
 obtain⟨ar,capr,rfl,_,_⟩:=Sl.shape hr;obtain⟨n,rfl⟩:=Int.eq_ofNat_of_zero_le (show 0<=n by omega);have aU:∀w',Ext (w.alloc (.cells #[.slice none 0 0,.slice none 0 0,.slice none 0 0] 28)) w'->Box3 w' w.heap.size (.slice none 0 0) (.slice none 0 0) (.slice none 0 0):=λw' h=>(Box3.made w 28 _ _ _).ext h;have aV:Ext w (w.alloc (.cells #[.slice none 0 0,.slice none 0 0,.slice none 0 0] 28)):=World.grownBy_alloc _ _ _;have aW:(w.alloc (.cells #[.slice none 0 0,.slice none 0 0,.slice none 0 0] 28)).heap.size=w.heap.size+1:=by simp
 have HN:=Lib.hid (And.intro hn (And.intro hp (And.intro hR (And.intro aU aW))));clear hn aU aW hp hR;go_enter Tryz.func320,Tryz.ntmps320;go_wp2_with fail
 generalize w.alloc (.cells #[.slice none 0 0,.slice none 0 0,.slice none 0 0] 28)=w0 at *;refine Calls.mono (l07Factors_ok w0 n (by have:=HN.out.1;omega)) ?_;rintro e1 w1 ⟨v1,rfl,hg1,a1,c1,t,r1,rfl,af,DU,aY⟩;go_wp2_with fail
 refine Calls.mono (l01Own_ok w1 _ t _ (af.ints (by omega)) (by omega)) ?_;rintro e2 w2 ⟨v2,rfl,hg2,nG⟩;have bK:Ints Any w1 (.slice a1 t.length c1) t:=(af.ints (by omega)).sub (λ_ _ _=>trivial);have HT:=Lib.hid (And.intro aY af);clear aY af;go_wp2_with fail
 go_loopw [9,10] (λov Z wr=>∃(i:Nat) (l:List Int) (v4:Value),v4=ov/\Z=.int .i64 i/\i<=R.length/\l.length=t.length+i/\Ext w1 wr/\Own w1.heap.size wr v4 l) (λ_ Z _=>R.length-(intOf Z).toNat)
 case atStart=>exact⟨0,t,_,rfl,rfl,by omega,rfl,hg2,nG⟩
 case round =>
  clear nG hg2;obtain⟨i,l,v4,rfl,rfl,hi,aa,C,hO⟩:=hrel;by_cases a:i<R.length
  ·have E:(i:Int)<R.length:=by omega
   have aZ:l.length<=1000000:=by omega
   have HL:=Lib.hid (And.intro aZ aa);clear aZ aa;go_wp2_with (first|(at_builtin;refine wp_app_int rfl _ _ rfl w1.heap.size v4 l p rfl wr hO rfl rfl HL.out.1 C.size ?_;intro v5 G bL T;have a2:=grown_own C T (λj hj a=>by have:=(hO.lt j hj).1;omega))|fail)
   go_roundw
   case rel=>exact⟨i+1,_,v5,rfl,by go_num,by omega,by rw[List.length_append,HL.out.2];rfl,a2,bL⟩
   case measure=>simp[intOf];omega
  ·have E : ¬((i:Int)<R.length):=by omega
   have bM:i=R.length:=by omega
   subst bM;obtain⟨o,ho⟩:∃o,o=l:=⟨_,rfl⟩;rw[<-ho] at hO aa;clear ho;have cb:o.length<=18:=by omega
   have cv:t.length<=o.length:=by omega
   obtain⟨a4,c4,hv4,_⟩:=(hO.ints (by omega)).shape;subst hv4;have bN:Ints Any wr (.slice a4 o.length c4) o:=(hO.ints (by omega)).sub (λ_ _ _=>trivial);have cx:=C.size;clear hO;obtain⟨F,hw4⟩:∃F:World,F=wr:=⟨_,rfl⟩;subst hw4;have HO:=Lib.hid aa;clear aa;go_wp2_with fail
   refine Calls.mono (l07Trivial_ok F _ o _ bN (by omega)) ?_;rintro e5 G ⟨v5,rfl,T,vo,vp,vc,rfl,I⟩;obtain⟨Y,co,ap,O,U,P,rfl,rfl,rfl⟩:=trivX_shape I;go_wp2_with fail
   have a3:Ext G (G.alloc (.cells #[.slice Y o.length co,.slice ap o.length O,.slice U o.length P] 28)):=World.grownBy_alloc _ _ _;have y:=BX.start (N:=18) (B:=F.heap.size) (by omega) I a3 (Box3.made G 28 (.slice Y o.length co) (.slice ap o.length O) (.slice U o.length P)) T.size;have bO:=T.size;generalize G.alloc (.cells #[.slice Y o.length co,.slice ap o.length O,.slice U o.length P] 28)=w6 at *;have a5:Ext F w6:=grown_trans T a3;have Q:Ext w0 F:=grown_trans hg1 C;clear I T;go_loopw [13] (λZ wr=>∃i:Nat,Z=.int .i64 i/\i<=t.length/\Ext F wr/\BX 18 o F.heap.size G.heap.size wr (.slice Y o.length co) (.slice ap o.length O) (.slice U o.length P)) (λZ _=>t.length-(intOf Z).toNat)
   case atStart=>exact⟨0,rfl,by omega,a5,y⟩
   case round =>
    clear y a5;have a6:=C;clear C hi a E;obtain⟨i,rfl,hi,C,y⟩:=hrel;by_cases a:i+1<t.length
    ·have E:(i:Int)+1<t.length:=by omega
     obtain⟨g,cap,z,fF,hgB,jO,hgl,a7,a'⟩:=y.storeP i (by omega);obtain⟨rfl,rfl⟩:ap=some ⟨g,0,none⟩/\O=cap:=by cases fF;exact⟨rfl,rfl⟩
     clear fF;have e1:∀w',Near wr g w'->w'.cell? ⟨G.heap.size,1,none⟩=some (.slice (some ⟨g,0,none⟩) o.length O):=λw' h=>h.cell y.box.2.2.1 (by simp;omega)
     have m:∀w,Calls Tryz.prog 308 #[.int .i64 o.length,.int .i64 ((i:Int)+1)] w (Ret w λw' v=>Own w.heap.size w' v (unitV o.length (i+1))):=λw=>by
      have h:=l07Unit_ok o.length (i+1) w (by omega) (by omega);rwa [show((i+1:Nat):Int)=(i:Int)+1 by omega] at h
     have bb:(unitV o.length (i+1)).length<=9223372036854775807:=by rw[unitV_len];omega
     have HX:=Lib.hid (And.intro y (And.intro a' (And.intro a7 bb)));clear y a' a7 bb;have cz:(i:Int)<o.length:=by omega
     have bc:i<100000:=by omega
     go_wp2;have bP:IntKind.i64.wrap ((i:Int)+1)=(i:Int)+1:=sy _ bc;have bQ:wrap64 ((i:Int)+1)=(i:Int)+1:=sA _ bc
     go_region_held3 (λw'=>Near wr g w') (first|exact Near.of (grown_drew _ _)|exact Near.of (by assumption)|exact Near.store (by assumption)|assumption)
      (first
       | (go_at_call 308;refine Calls.mono (Calls.rel (w0:=wr) (by first|exact grown_drew _ _|assumption) (m _)) ?_;rintro eE H ⟨vE,rfl,D,gF,ab⟩;obtain⟨aE,cE,fQ,_⟩:=(ab.ints HX.out.2.2.2).shape;subst fQ;have ag:=(HX.out.2.2.1 H D).1;have aC:=(HX.out.2.2.1 H D).2))
     clear bP bQ;have cF:=D.size;have I:=HX.out.2.1 H _ (unitV o.length (i+1)) D (OwnIn.of ab (by rw[unitV_len];omega) (λk hk _=>Nat.le_trans (by assumption) hk)) (by rw[unitV_len];omega);have aD:Ext F (H.setCell ⟨g,i,none⟩ (.slice aE (unitV o.length (i+1)).length cE)):=grown_own (grown_trans C D) (grown_set1 _ _ _ _) (λj hj a=>by cases hj;omega);clear ag aC e1;go_wp2;go_roundw
     case rel=>exact⟨i+1,by go_num,by omega,aD,I⟩
     case measure=>simp[intOf];omega
    ·have E:¬((i:Int)+1<t.length):=by omega
     have bf:Ext w wr:=grown_trans aV (grown_trans Q C);have bg:∀x∈R,x.length<=1000000:=λx hx=>by have:=(HN.out.2.2.1 x hx).1;omega
     have m:=l01Own2_ok wr _ R _ (Rows2.ext hr bf) bg (by omega);clear bg;go_wp2_with fail
     refine Calls.mono m ?_;rintro e8 w8 ⟨v8,rfl,nH,aG⟩;clear m;obtain⟨a8,c8,j7,_,_⟩:=SlD.shape (aG.toD (by omega));subst j7;have bh:Rows2 (λk=>wr.heap.size<=k/\k<w8.heap.size) w8 (.slice a8 R.length c8) R:=(RowsD.rows (aG.toD (by omega))).sub (λk hk a=>⟨hk,a⟩)
     have bi:BXF 18 o (λk=>F.heap.size<=k/\k≠G.heap.size/\¬(wr.heap.size<=k/\k<w8.heap.size)) G.heap.size w8 (.slice Y o.length co) (.slice ap o.length O) (.slice U o.length P):=
      (y.f.turn (F':=λk=>F.heap.size<=k/\k≠G.heap.size/\¬(wr.heap.size<=k/\k<w8.heap.size)) (λk hk a=>⟨hk.1,hk.2,by omega⟩) (λh=>h.2.1 rfl)).ext nH
     have am:Ext F w8:=grown_trans C nH;have ce:=nH.size;clear y aG a E hi;go_wp2
     go_loopw [14,15] (λav Z K=>∃(i lo hi:Nat) (aA:Option Addr) (cA:Nat) (A:List (List Int)),av=.slice aA R.length cA/\Z=.int .i64 i/\i<=t.length/\A.length=R.length/\iD R.length A/\hi<=K.heap.size/\Rows2 (λk=>lo<=k/\k<hi) K (.slice aA R.length cA) A/\Ext F K /\
      BXF 18 o (λk=>F.heap.size<=k/\k≠G.heap.size/\¬(lo<=k/\k<hi)) G.heap.size K (.slice Y o.length co) (.slice ap o.length O) (.slice U o.length P)) (λ_ Z _=>t.length-(intOf Z).toNat)
     case atStart=>exact⟨0,wr.heap.size,w8.heap.size,a8,c8,R,rfl,rfl,by omega,rfl,HN.out.2.2.1,Nat.le_refl _,bh,am,bi⟩
     case round=>
      clear bh am bi nH bf C;obtain⟨i,lo,V,aA,cA,A,rfl,rfl,hi,bk,bl,hhi,hA,C,y⟩:=hrel;by_cases a:i<t.length
      ·have E:(i:Int)<t.length:=by omega
       have HA:=Lib.hid (And.intro bk bl);clear bk bl;go_wp2
       go_loopw [16] (λjv K=>∃j:Nat,jv=.int .i64 j/\j<=R.length/\V<=K.heap.size/\Rows2 (λk=>lo<=k/\k<V) K (.slice aA R.length cA) A/\Ext F K /\
        BXF 18 o (λk=>F.heap.size<=k/\k≠G.heap.size/\¬(lo<=k/\k<V)) G.heap.size K (.slice Y o.length co) (.slice ap o.length O) (.slice U o.length P)) (λjv _=>R.length-(intOf jv).toNat)
       case atStart=>exact⟨0,rfl,by omega,hhi,hA,C,y⟩
       case round=>
        clear y C hA hhi;obtain⟨j,rfl,hj,hhi,hA,C,y⟩:=hrel;by_cases cf:j<R.length
        ·have aI:(j:Int)<R.length:=by omega
         have bn:=HO.out;obtain⟨J,hJ⟩:∃J,J=t.length+j-i-1:=⟨_,rfl⟩;have bT:J<o.length-1-i:=by omega
         obtain⟨gc,capc,b,bo,z2,fM,hcB,gC,ag,hcell,jP,nD,hbg,hbl,an,aq⟩:=y.storeC i J (by omega) bT (λk hk=>⟨by have:=C.size;omega,by have:=y.box.1;omega,by omega⟩);obtain⟨rfl,rfl⟩:U=some ⟨gc,0,none⟩/\P=capc:=by cases fM;exact⟨rfl,rfl⟩
         clear fM;have bp:j<A.length:=by have:=HA.out.1;omega
         obtain⟨ba,oa,az,au,rfl,bq,_,aJ,aK⟩:=Rows2.at hA j bp;have ah:=HA.out.2 _ (gtMem bp);obtain⟨zr,bs⟩:∃zr,zr=gt A j:=⟨_,rfl⟩;rw[<-bs] at aJ aK ah;clear bs;have ci:ba≠b:=λe=>jP.2.2 (e▸bq);have e1:∀w',Near wr b w'->w'.cell? ⟨G.heap.size,2,none⟩=some (.slice (some ⟨gc,0,none⟩) o.length P):=λw' h=>h.cell y.box.2.2.2.1 (by simp;omega);have e2:∀w',Near wr b w'->w'.cell? ⟨gc,i,none⟩=some (.slice (some ⟨b,0,none⟩) (o.length-1-i) bo):=λw' h=>h.cell hcell (by simp;omega);have e3:∀w',Near wr b w'->w'.cell? ⟨ba,oa+j,none⟩=some (.slice az zr.length au):=λw' h=>h.cell aJ (by simp;omega)
         have m:∀w',Ext wr w'->Calls Tryz.prog 321 #[.int .i64 t.length,.slice az zr.length au,.int .i64 0] w' (Ret w' λbV r=>∃l,l.length<=18/\Own w'.heap.size bV r l):=λw' he=>
          Calls.mono (l07Shift_ok w' t.length _ zr 0 _ (Ints.ext aK he) (by have:=ah.1;omega)) (λe w2 ⟨v,h1,h2,h3⟩=>⟨v,h1,h2,_,by simp[shiftL];have:=ah.1;omega,h3⟩)
         have bu:∀H u,Ext wr H->Rows2 (λk=>lo<=k/\k<V) (H.setCell ⟨b,J,none⟩ u) (.slice (some ⟨ba,oa,none⟩) R.length cA) A:=λH u he=>Rows2.mono hA (λk hk a=>by
          have hT:wr.grownBy (H.setCell ⟨b,J,none⟩ u) (some b):=grown_trans (grown_of_ext _ he) (grown_set1 _ _ _ _);exact⟨hk,Nat.lt_of_lt_of_le a hT.size,hT.block k a (λe=>jP.2.2 (by cases e;exact hk))⟩)
         have HY:=Lib.hid (And.intro aq (And.intro an (And.intro m bu)));clear aq an m hcell aJ aK bu ah;have cH:(J:Int)<((o.length-1-i:Nat):Int):=by omega
         have cI:(i:Int)<o.length:=by omega
         have M:=lT ((t.length:Int)+j) ((t.length+j:Nat):Int) (by omega) (by omega);have W:=lT (((t.length+j:Nat):Int)-i) ((t.length+j-i:Nat):Int) (by clear M;omega) (by clear M;omega);have aL:=lT (((t.length+j-i:Nat):Int)-1) (J:Int) (by clear M W;omega) (by clear M W;omega);generalize ((t.length+j:Nat):Int)=d1 at M W;generalize ((t.length+j-i:Nat):Int)=d2 at W aL;have HW:=Lib.hid (And.intro M (And.intro W aL));clear M W aL;have cj:=y.box.1;have HJ:=Lib.hid (And.intro bn hJ);clear bn hJ y hA;go_wp2;obtain⟨⟨q1,q2⟩,⟨q3,q4⟩,q5,q6⟩:=HW.out
         go_region_held3 (λw'=>Near wr b w') (first|exact Near.of (grown_drew _ _)|exact Near.of (by assumption)|exact Near.store (by assumption)|assumption)
          (first
           | (go_at_call 321;refine Calls.mono (Calls.rel (w0:=wr) (by first|exact grown_drew _ _|assumption) (HY.out.2.2.1 _ (by first|exact grown_drew _ _|assumption))) ?_;rintro eE H ⟨vE,rfl,D,gF,lE,aM,ab⟩;obtain⟨aE,cE,fQ,_⟩:=(ab.ints (Nat.le_trans aM (by decide))).shape;subst fQ;have ag:=(HY.out.2.1 H D).1;have aC:=(HY.out.2.1 H D).2))
         clear q1 q2 q3 q4 q5 q6;have I:=HY.out.1 H _ lE D (OwnIn.of ab (Nat.le_trans aM (by decide)) (λk hk _=>Nat.le_trans (by assumption) hk)) aM;have bX:=HY.out.2.2.2 H (.slice aE lE.length cE) D;have aD:Ext F (H.setCell ⟨b,J,none⟩ (.slice aE lE.length cE)):=grown_own (grown_trans C D) (grown_set1 _ _ _ _) (λj hj a=>by cases hj;omega);have aw:V<=(H.setCell ⟨b,J,none⟩ (.slice aE lE.length cE)).heap.size:=by have:=D.size;simp;omega
         clear ag aC e1 e2 e3;have HZ:=Lib.hid aw;clear aw;go_wp2;go_roundw
         case rel=>exact⟨j+1,by go_num,by omega,HZ.out,bX,aD,I⟩
         case measure=>simp[intOf];omega
        ·have aI:¬((j:Int)<R.length):=by omega
         obtain⟨bt,ot,rfl,_,_,aN⟩:=Ints.at (Ints.ext bK (grown_trans a6 C)) i a;have bY:2<=gt t i/\gt t i<=7:=HT.out.1 _ (gtMem a);obtain⟨te,ax⟩:∃te,te=gt t i:=⟨_,rfl⟩;rw[<-ax] at aN bY;clear ax;have bz:=Rows2.sub hA (S':=Any) (λ_ _ _=>trivial);obtain⟨wo,aO⟩:∃wo:World,wo=wr:=⟨_,rfl⟩;rw[<-aO] at aN bz;have X:Ext wo wr:=by rw[aO];exact Ext.refl _
         go_wp2
         go_loopw [14,18] (λav tv K=>∃(q ai ad:Nat) (aB:Option Addr) (cB:Nat) (B:List (List Int)),av=.slice aB R.length cB/\tv=.int .i64 q/\1<=q/\q<=7/\B.length=R.length/\iD R.length B/\ad<=K.heap.size/\Rows2 (λk=>ai<=k/\k<ad) K (.slice aB R.length cB) B/\Ext wo K/\Ext F K /\
          BXF 18 o (λk=>F.heap.size<=k/\k≠G.heap.size/\¬(ai<=k/\k<ad)) G.heap.size K (.slice Y o.length co) (.slice ap o.length O) (.slice U o.length P)) (λ_ tv _=>8-(intOf tv).toNat)
         case atStart=>exact⟨1,lo,V,aA,cA,A,rfl,rfl,by omega,by omega,HA.out.1,HA.out.2,hhi,hA,X,C,y⟩
         case round=>
          clear y C hA hhi X aO;obtain⟨q,ai,ad,aB,cB,B,rfl,rfl,b0,hq7,aj,ae,hhi,hB,X,C,y⟩:=hrel;have ay:=X.cell aN (by simp);by_cases cM:(q:Int)<te
          ·have m:=yt wr p _ _ B A R.length _ _ hB (Rows2.ext bz X) HN.out.2.1 ae HA.out.2 (by omega) (by omega)
           have HB:=Lib.hid (And.intro aj ae);clear aj ae;obtain⟨wp,hwp⟩:∃wp:World,wp=wr:=⟨_,rfl⟩;go_wp2_with fail
           refine Calls.mono m ?_;rintro e9 w9 ⟨v9,rfl,jQ,L,aQ,bB,aR⟩;clear m;obtain⟨a9,c9,sG,_,_⟩:=SlD.shape (aR.toD (by have:=HB.out.1;omega));rw[aQ,HB.out.1] at sG;subst sG;have b1:=(RowsD.rows (aR.toD (by have:=HB.out.1;omega))).sub (S':=λk=>wr.heap.size<=k/\k<w9.heap.size) (λk hk a=>⟨hk,a⟩)
           have b2:BXF 18 o (λk=>F.heap.size<=k/\k≠G.heap.size/\¬(wr.heap.size<=k/\k<w9.heap.size)) G.heap.size w9 (.slice Y o.length co) (.slice ap o.length O) (.slice U o.length P):=
            (y.turn (F':=λk=>F.heap.size<=k/\k≠G.heap.size/\¬(wr.heap.size<=k/\k<w9.heap.size)) (λk hk a=>⟨hk.1,hk.2.1,by omega⟩) (λh=>h.2.1 rfl)).ext jQ
           have bC:=grown_trans X jQ;have bD:=grown_trans C jQ;have cm:=jQ.cell ay (by simp);have HL:=Lib.hid (And.intro aQ bB);clear aQ bB;clear ay y jQ hB aR;go_wp2;go_roundw
           case rel=>exact⟨q+1,wr.heap.size,w9.heap.size,a9,c9,L,rfl,by go_num,by omega,by omega,by rw[HL.out.1,HB.out.1],HL.out.2,Nat.le_refl _,b1,bC,bD,b2⟩
           case measure=>simp[intOf];omega
          ·have HB:=Lib.hid (And.intro aj ae);clear aj ae
           go_wp2;go_roundw
           case rel=>exact⟨i+1,ai,ad,aB,cB,B,rfl,by go_num,by omega,HB.out.1,HB.out.2,hhi,hB,C,y⟩
           case measure=>simp[intOf];omega
      ·have E:¬((i:Int)<t.length):=by omega
       have hz:=HN.out.2.2.2.1 _ (grown_trans Q C);clear hA;obtain⟨h0,h1,h2,h3',h4⟩:=id y.box;obtain⟨k0,k1,k2,k3,k4⟩:=id hz;have hZ:=hz.all (.slice Y o.length co) (.slice ap o.length O) (.slice U o.length P);have hT:=grown_set3 wr w.heap.size (.slice Y o.length co) (.slice ap o.length O) (.slice U o.length P);obtain⟨_,z0,z1,z2,_⟩:=id hZ;have HQ:=Lib.hid (And.intro hT y);clear hT hZ y;go_wp2;refine bodyPost_ret (v := .agg #[.slice Y o.length co,.slice ap o.length O,.slice U o.length P]) (by simp[results,Tryz.results320,go_sem,z0,z1,z2]) rfl ?_;have b0:=HN.out.2.2.2.2;have cO:=Q.size;exact⟨_,rfl,grown_own (grown_trans aV (grown_trans Q C)) HQ.out.1 (λj hj a=>by cases hj;omega),(BX.ret (BXF.bx HQ.out.2 bO (λk hk=>hk.1)) HQ.out.1 (by omega)).weak (by omega)⟩
theorem pU {w b:World}{sb l N M B:Nat}{x y z:Value}(m:w.grownBy b (some sb)) (r:w.heap.size<B) (g:Src l b sb) (n:l<=w.heap.size) (hP:jR N B b x y z) (p:N<=M) :
  Mut w (some sb) (iV l sb (j8 M w.heap.size)) (.returned (.agg #[x,y,z])) (((b.setCell ⟨w.heap.size,0,none⟩ x).setCell ⟨w.heap.size,1,none⟩ y).setCell ⟨w.heap.size,2,none⟩ z):=by
 have i:=grown_set3 b w.heap.size x y z;obtain⟨Q,h1,h2⟩:=hP;exact⟨_,rfl,grown_own m i (λj q a=>by cases q;omega),⟨x,y,z,rfl,Q,h1.mono p,h2.mono (λk hk a=>⟨by have hk:B<=k:=hk;show w.heap.size<=k;omega,Nat.lt_of_lt_of_le a i.size,i.block k a (λe=>by have hk:B<=k:=hk;have:=Option.some.inj e;omega)⟩)⟩,g.own i (λk hk=>by cases hk;exact n)⟩
theorem fq (w:World) (L:List Int) (a:L.length<=1000):Ints (λk=>k=w.heap.size) (w.alloc (.cells (L.map (Value.int .i64)).toArray 2)) (.slice (some ⟨w.heap.size,0,none⟩) L.length L.length) L:=by
 have h:Own 0 (w.alloc (.cells (L.map (Value.int .i64)).toArray 2)) (.slice (some ⟨w.heap.size,0,none⟩) L.length L.length) L:=by
  have:=World.ownsRow_lit (base:=0) (e:=2) (size:=1) w (L.map (Value.int .i64)).toArray L.length (Nat.zero_le _) (by unfold maxLen;omega) (by simp);simpa using this
 exact ints_of_own h (by omega) (λk hk=>own_blk hk)
theorem kU (w:World) (a:List Value) (R:List (List Int)) (b:a.length=R.length) (g:R.length<=1000) (h:∀i,i<R.length->Ints Any w (gt a i) (gt R i)) :
  Rows2 Any (w.alloc (.cells a.toArray 24)) (.slice (some ⟨w.heap.size,0,none⟩) R.length R.length) R:=by
 refine⟨_,_,rfl,⟨Nat.le_refl _,by omega,λh=>by cases h⟩,λi e=>⟨w.heap.size,0,gt a i,rfl,trivial,by simp,?_,Ints.ext (h i e) (World.grownBy_alloc _ _ _)⟩⟩;rw[World.cell?_alloc_at _ _ _ _ rfl];simp[gt,b,e]
set_option maxHeartbeats 16000000 in
theorem sH (B0:Nat) (w:World) (sb:Nat) (aA:B0<=w.heap.size) (hs:Src B0 w sb) :
  Calls Tryz.prog 290 #[.pointer (some ⟨sb,0,none⟩)] w (Mut w (some sb) (iV B0 sb (j8 18 w.heap.size))):=by
 have a8:=hs.lt;have aB:=Box3.made w 28 (.slice none 0 0) (.slice none 0 0) (.slice none 0 0);have aC:Ext w (w.alloc (.cells #[.slice none 0 0,.slice none 0 0,.slice none 0 0] 28)):=World.grownBy_alloc _ _ _;have aT:(w.alloc (.cells #[.slice none 0 0,.slice none 0 0,.slice none 0 0] 28)).heap.size=w.heap.size+1:=by simp
 have aU:=Lib.hid hs;clear hs;go_enter Tryz.func290,Tryz.ntmps290;go_wp2_with fail
 generalize w.alloc (.cells #[.slice none 0 0,.slice none 0 0,.slice none 0 0] 28)=w0 at *;refine Calls.mono (l01Next_ok B0 w0 sb 9 (aU.out.ext aC)) ?_;rintro e1 p ⟨v1,rfl,ai,x,rfl,hx0,hx1,hs1⟩;have ah:=Box3.keep aB ai.size (ai.block _ aB.1 (λe=>by have:=Option.some.inj e;omega));have aj:=grown_trans (grown_of_ext (some sb) aC) ai;have a9:w.heap.size+1<=p.heap.size:=by have:=ai.size;omega
 have hx:=hx1 (by omega);have Y:=Lib.hid hs1;clear hx0 hx1 ai aB aC aT hs1;rcases(show x=0\/x=1\/x=2\/x=3\/x=4\/x=5\/x=6\/x=7\/x=8 by omega) with rfl|rfl|rfl|rfl|rfl|rfl|rfl|rfl|rfl
 all_goals clear hx
 ·have aH:=World.grownBy_alloc p (.cells #[] 2) (some sb)
  have aI:Own p.heap.size (p.alloc (.cells #[] 2)) (.slice (some ⟨p.heap.size,0,none⟩) 0 0) []:=World.ownsRow_lit p #[] 0 (Nat.le_refl _) (by decide) rfl;have aJ:=(Y.out.ext (World.grownBy_alloc p (.cells #[] 2) none));have A:=Lib.hid aJ;clear aJ;go_wp2_with fail
  generalize p.alloc (.cells #[] 2)=wE at *;refine Calls.mono (l01Next_ok B0 wE sb 5 A.out) ?_;rintro e2 a ⟨v2,rfl,S,k,rfl,hk0,hk1,hs2⟩;have hk:=hk1 (by omega);clear hk0 hk1;have aK:=aI.kept S (by simp[Value.ownBlock];omega);have b:=grown_trans aH S;have aL:=Lib.hid hs2;clear hs2 aH aI S;go_wp2_with fail
  go_loopw [3,4] (λov kv wr=>∃(k:Int) (o:List Int) (v4:Value),v4=ov/\kv=.int .i64 k/\0<=k/\k<=4/\Hid (o.length+k<=4)/\p.grownBy wr (some sb)/\Own p.heap.size wr v4 o/\Hid (Src B0 wr sb)) (λ_ kv _=>(intOf kv).toNat)
  case atStart=>exact⟨k,[],_,rfl,rfl,hk.1,by omega,Lib.hid (by simp;omega),b,aK,aL⟩
  case round=>
   clear aK b aL hk;obtain⟨k,o,v4,rfl,rfl,hk0,hk4,hol,hg,hO,K⟩:=hrel;have bb:=hg.size;by_cases bc:0<k
   ·have aM:∀j,v4.ownBlock=some j->p.heap.size<=j:=λj hj=>(hO.lt j hj).1
    have aD:o.length<=1000000:=by have:=hol.out;omega
    have HO:=Lib.hid (And.intro aM aD);clear aM aD;go_wp2_with fail
    have L:Ext wr (wr.alloc (.cells #[.int .i64 2,.int .i64 2,.int .i64 3] 2)):=World.grownBy_alloc _ _ _;have hL:Ints (λk=>k=wr.heap.size) (wr.alloc (.cells #[.int .i64 2,.int .i64 2,.int .i64 3] 2)) (.slice (some ⟨wr.heap.size,0,none⟩) 3 3) [2,2,3]:=fq wr [2,2,3] (by simp);have aq:(wr.alloc (.cells #[.int .i64 2,.int .i64 2,.int .i64 3] 2)).heap.size=wr.heap.size+1:=by simp
    generalize wr.alloc (.cells #[.int .i64 2,.int .i64 2,.int .i64 3] 2)=wL at *;refine Calls.mono (l01Pick_ok B0 wL sb _ [2,2,3] _ (K.out.ext L) hL (λk hk=>by omega) (by simp) (by simp)) ?_;rintro Z G ⟨v3,rfl,g,i,V,rfl,hs3⟩;generalize gt ([2,2,3]:List Int) i=m at *;have aw:=grown_trans (grown_of_ext (some sb) L) g;have aV:=hO.kept aw (.inr (λe=>by have:=HO.out.1 sb e;omega));have ax:=grown_trans hg aw;have aW:=Lib.hid hs3;clear hs3 L g hL V hO;go_wp2_with (first|(at_builtin;refine wp_app_int rfl _ _ rfl p.heap.size v4 o m rfl G aV rfl rfl HO.out.2 ax.size ?_;intro v5 w5 aX aO)|fail)
    have aY:Src B0 w5 sb:=aW.out.own aO (λj hj=>by have:=HO.out.1 j hj;omega);have aP:p.grownBy w5 (some sb):=grown_own ax aO (λj hj be=>by have:=HO.out.1 j hj;omega);have aD:(o++[m]).length=o.length+1:=by simp
    go_roundw
    case rel=>exact⟨k-1,o++[m],v5,rfl,rfl,by omega,by omega,Lib.hid (by have:=hol.out;omega),aP,aX,Lib.hid aY⟩
    case measure=>simp[intOf];omega
   ·have aZ:=hO.ints (show o.length<=9223372036854775807 by have:=hol.out;omega)
    have a0:=hol.out;have a4:o.length<=100:=by omega
    clear a0 hO;go_wp2_with fail
    refine Calls.mono (l07Trivial_ok wr _ o _ aZ a4) ?_;rintro Z G ⟨v3,rfl,g,vo,vp,vc,rfl,ia⟩;have C:jR 18 wr.heap.size G vo vp vc:=⟨trivP o,trivP_shp o (by have:=hol.out;omega),ia.p3⟩;obtain⟨a1,n1,c1,a2,n2,c2,a3,n3,c3,rfl,rfl,rfl⟩:=C.shape;clear ia;have l:p.grownBy G (some sb):=grown_trans hg (grown_of_ext (some sb) g);have W:=Box3.keep ah l.size (l.block _ ah.1 (λe=>by have:=Option.some.inj e;omega));have U:=grown_trans aj l;obtain⟨b0,b1,b2,b3,b4⟩:=id W;have hZ:=W.all (.slice a1 n1 c1) (.slice a2 n2 c2) (.slice a3 n3 c3);obtain⟨-,z0,z1,z2,-⟩:=id hZ;have HF:=Lib.hid (And.intro U (And.intro C (K.out.ext g)));clear hZ U C W;go_wp2_with fail
    refine bodyPost_ret (v := .agg #[.slice a1 n1 c1,.slice a2 n2 c2,.slice a3 n3 c3]) (by simp[results,Tryz.results290,go_sem,z0,z1,z2]) rfl ?_;exact pU HF.out.1 (B:=wr.heap.size) (by omega) HF.out.2.2 aA HF.out.2.1 (by omega)
 ·skip
  go_wp2_with fail
  have L:Ext p (p.alloc (.cells #[.int .i64 1,.int .i64 4,.int .i64 6,.int .i64 8,.int .i64 9,.int .i64 12,.int .i64 5,.int .i64 7,.int .i64 27,.int .i64 25,.int .i64 36] 2)):=World.grownBy_alloc _ _ _;have hL:Ints (λk=>k=p.heap.size) (p.alloc (.cells #[.int .i64 1,.int .i64 4,.int .i64 6,.int .i64 8,.int .i64 9,.int .i64 12,.int .i64 5,.int .i64 7,.int .i64 27,.int .i64 25,.int .i64 36] 2)) (.slice (some ⟨p.heap.size,0,none⟩) 11 11) [1,4,6,8,9,12,5,7,27,25,36]:=fq p [1,4,6,8,9,12,5,7,27,25,36] (by simp);have aq:(p.alloc (.cells #[.int .i64 1,.int .i64 4,.int .i64 6,.int .i64 8,.int .i64 9,.int .i64 12,.int .i64 5,.int .i64 7,.int .i64 27,.int .i64 25,.int .i64 36] 2)).heap.size=p.heap.size+1:=by simp
  generalize p.alloc (.cells #[.int .i64 1,.int .i64 4,.int .i64 6,.int .i64 8,.int .i64 9,.int .i64 12,.int .i64 5,.int .i64 7,.int .i64 27,.int .i64 25,.int .i64 36] 2)=wL at *;refine Calls.mono (l01Pick_ok B0 wL sb _ [1,4,6,8,9,12,5,7,27,25,36] _ (Y.out.ext L) hL (λk hk=>by omega) (by simp) (by simp)) ?_;rintro e2 a ⟨v2,rfl,S,i,V,rfl,hs2⟩;have hm:∀y∈([1,4,6,8,9,12,5,7,27,25,36]:List Int),1<=y/\y<=36:=by simp
  have aE:=hm _ (gtMem V);generalize gt ([1,4,6,8,9,12,5,7,27,25,36]:List Int) i=m at *;clear hm V hL;have b:=grown_trans (grown_of_ext (some sb) L) S;have ae:w.heap.size+1<=a.heap.size:=by have:=b.size;omega
  clear L S;have A:=Lib.hid hs2;clear hs2;obtain⟨m,rfl⟩:=Int.eq_ofNat_of_zero_le (show 0<=m by omega);go_wp2_with fail
  refine Calls.mono (yu a m (by omega)) ?_;rintro Z G ⟨v3,rfl,g,vo,vp,vc,c,rfl,hP⟩;obtain⟨_,_,_,he,C⟩:=hP.q;cases he
  obtain⟨a1,n1,c1,a2,n2,c2,a3,n3,c3,rfl,rfl,rfl⟩:=C.shape;have l:p.grownBy G (some sb):=grown_trans b (grown_of_ext (some sb) g);have W:=Box3.keep ah l.size (l.block _ ah.1 (λe=>by have:=Option.some.inj e;omega));have U:=grown_trans aj l;obtain⟨b0,b1,b2,b3,b4⟩:=id W;have aF:=World.grownBy_alloc (((G.setCell ⟨w.heap.size,0,none⟩ (.slice a1 n1 c1)).setCell ⟨w.heap.size,1,none⟩ (.slice a2 n2 c2)).setCell ⟨w.heap.size,2,none⟩ (.slice a3 n3 c3)) (.cells #[.slice a1 n1 c1,.slice a2 n2 c2,.slice a3 n3 c3] 28) none;have hZ:=(W.all (.slice a1 n1 c1) (.slice a2 n2 c2) (.slice a3 n3 c3)).ext aF;obtain⟨-,z0,z1,z2,-⟩:=id hZ;have HF:=Lib.hid (And.intro U (And.intro C (And.intro (A.out.ext g) aF)));clear hZ U C W aF;go_wp2_with fail
  refine bodyPost_ret (v := .agg #[.slice a1 n1 c1,.slice a2 n2 c2,.slice a3 n3 c3]) (by simp[results,Tryz.results290,go_sem,z0,z1,z2]) rfl ?_;obtain⟨_,he,k1,⟨q1,q2,q3,k2,Q,k4,k5⟩,k3⟩:=pU (M:=18) HF.out.1 (B:=a.heap.size) (by omega) HF.out.2.2.1 aA HF.out.2.1 (by omega);cases he
  cases k2
  exact⟨_,rfl,grown_trans k1 (grown_of_ext (some sb) HF.out.2.2.2),⟨_,_,_,rfl,Q,k4,k5.ext HF.out.2.2.2⟩,k3.ext HF.out.2.2.2⟩
 focus
  go_wp2_with fail
  have L:Ext p (p.alloc (.cells #[.int .i64 3,.int .i64 4,.int .i64 5,.int .i64 6,.int .i64 7,.int .i64 8,.int .i64 9,.int .i64 12] 2)):=World.grownBy_alloc _ _ _;have hL:Ints (λk=>k=p.heap.size) (p.alloc (.cells #[.int .i64 3,.int .i64 4,.int .i64 5,.int .i64 6,.int .i64 7,.int .i64 8,.int .i64 9,.int .i64 12] 2)) (.slice (some ⟨p.heap.size,0,none⟩) 8 8) [3,4,5,6,7,8,9,12]:=fq p [3,4,5,6,7,8,9,12] (by simp);have aq:(p.alloc (.cells #[.int .i64 3,.int .i64 4,.int .i64 5,.int .i64 6,.int .i64 7,.int .i64 8,.int .i64 9,.int .i64 12] 2)).heap.size=p.heap.size+1:=by simp
  generalize p.alloc (.cells #[.int .i64 3,.int .i64 4,.int .i64 5,.int .i64 6,.int .i64 7,.int .i64 8,.int .i64 9,.int .i64 12] 2)=wL at *;refine Calls.mono (l01Pick_ok B0 wL sb _ [3,4,5,6,7,8,9,12] _ (Y.out.ext L) hL (λk hk=>by omega) (by simp) (by simp)) ?_;rintro e2 a ⟨v2,rfl,S,i,V,rfl,hs2⟩;have hm:∀y∈([3,4,5,6,7,8,9,12]:List Int),3<=y/\y<=12:=by simp
  have aE:=hm _ (gtMem V);generalize gt ([3,4,5,6,7,8,9,12]:List Int) i=m at *;clear hm V hL;have b:=grown_trans (grown_of_ext (some sb) L) S;have ae:w.heap.size+1<=a.heap.size:=by have:=b.size;omega
  clear L S;have A:=Lib.hid hs2;clear hs2;have a5:0<=m/2/\m/2<=6:=by omega
  go_wp2_with fail
  refine Calls.mono (jy a 2 m (m-1) 0 (by omega) (by omega) (by omega) (by omega)) ?_;rintro Z G ⟨v3,rfl,g,hP⟩;obtain⟨vo,vp,vc,rfl,C⟩:=hP.q;have l:p.grownBy G (some sb):=grown_trans b (grown_of_ext (some sb) g);have K:=A.out.ext g
 rotate_left
 focus
  go_wp2_with fail
  have L:Ext p (p.alloc (.cells #[.int .i64 4,.int .i64 6,.int .i64 8,.int .i64 12] 2)):=World.grownBy_alloc _ _ _;have hL:Ints (λk=>k=p.heap.size) (p.alloc (.cells #[.int .i64 4,.int .i64 6,.int .i64 8,.int .i64 12] 2)) (.slice (some ⟨p.heap.size,0,none⟩) 4 4) [4,6,8,12]:=fq p [4,6,8,12] (by simp);have aq:(p.alloc (.cells #[.int .i64 4,.int .i64 6,.int .i64 8,.int .i64 12] 2)).heap.size=p.heap.size+1:=by simp
  generalize p.alloc (.cells #[.int .i64 4,.int .i64 6,.int .i64 8,.int .i64 12] 2)=wL at *;refine Calls.mono (l01Pick_ok B0 wL sb _ [4,6,8,12] _ (Y.out.ext L) hL (λk hk=>by omega) (by simp) (by simp)) ?_;rintro e2 a ⟨v2,rfl,S,i,V,rfl,hs2⟩;have hm:∀y∈([4,6,8,12]:List Int),3<=y/\y<=12:=by simp
  have aE:=hm _ (gtMem V);generalize gt ([4,6,8,12]:List Int) i=m at *;clear hm V hL;have b:=grown_trans (grown_of_ext (some sb) L) S;have ae:w.heap.size+1<=a.heap.size:=by have:=b.size;omega
  clear L S;have A:=Lib.hid hs2;clear hs2;have a5:0<=m/2/\m/2<=6:=by omega
  go_wp2_with fail
  refine Calls.mono (jy a 2 m (m-1) (m/2) (by omega) (by omega) (by omega) (by omega)) ?_;rintro Z G ⟨v3,rfl,g,hP⟩;obtain⟨vo,vp,vc,rfl,C⟩:=hP.q;have l:p.grownBy G (some sb):=grown_trans b (grown_of_ext (some sb) g);have K:=A.out.ext g
 rotate_left
 focus
  go_wp2_with fail
  refine Calls.mono (l01Next_ok B0 p sb 6 Y.out) ?_;rintro e2 a ⟨v2,rfl,b,y,rfl,hy0,hy1,hs2⟩;have hy:=hy1 (by omega);have A:=Lib.hid hs2;have ae:w.heap.size+1<=a.heap.size:=by have:=b.size;omega
  clear hy0 hy1 hs2;rcases(show y=0\/y=1\/y=2\/y=3\/y=4\/y=5 by omega) with rfl|rfl|rfl|rfl|rfl|rfl
  all_goals clear hy
  focus
   go_wp2_with fail
   refine Calls.mono (jy a 3 7 2 0 (by omega) (by omega) (by omega) (by omega)) ?_;rintro Z G ⟨v3,rfl,g,hP⟩;obtain⟨vo,vp,vc,rfl,C⟩:=hP.q;have l:p.grownBy G (some sb):=grown_trans b (grown_of_ext (some sb) g);have K:=A.out.ext g
  rotate_left
  focus
   go_wp2_with fail
   refine Calls.mono (jy a 4 5 2 0 (by omega) (by omega) (by omega) (by omega)) ?_;rintro Z G ⟨v3,rfl,g,hP⟩;obtain⟨vo,vp,vc,rfl,C⟩:=hP.q;have l:p.grownBy G (some sb):=grown_trans b (grown_of_ext (some sb) g);have K:=A.out.ext g
  rotate_left
  focus
   go_wp2_with fail
   refine Calls.mono (jy a 2 8 3 0 (by omega) (by omega) (by omega) (by omega)) ?_;rintro Z G ⟨v3,rfl,g,hP⟩;obtain⟨vo,vp,vc,rfl,C⟩:=hP.q;have l:p.grownBy G (some sb):=grown_trans b (grown_of_ext (some sb) g);have K:=A.out.ext g
  rotate_left
  focus
   go_wp2_with fail
   refine Calls.mono (jy a 2 8 5 0 (by omega) (by omega) (by omega) (by omega)) ?_;rintro Z G ⟨v3,rfl,g,hP⟩;obtain⟨vo,vp,vc,rfl,C⟩:=hP.q;have l:p.grownBy G (some sb):=grown_trans b (grown_of_ext (some sb) g);have K:=A.out.ext g
  rotate_left
  focus
   go_wp2_with fail
   refine Calls.mono (jy a 4 4 3 0 (by omega) (by omega) (by omega) (by omega)) ?_;rintro Z G ⟨v3,rfl,g,hP⟩;obtain⟨vo,vp,vc,rfl,C⟩:=hP.q;have l:p.grownBy G (some sb):=grown_trans b (grown_of_ext (some sb) g);have K:=A.out.ext g
  rotate_left
  focus
   go_wp2_with fail
   refine Calls.mono (jy a 3 9 4 0 (by omega) (by omega) (by omega) (by omega)) ?_;rintro Z G ⟨v3,rfl,g,hP⟩;obtain⟨vo,vp,vc,rfl,C⟩:=hP.q;have l:p.grownBy G (some sb):=grown_trans b (grown_of_ext (some sb) g);have K:=A.out.ext g
  rotate_left
 rotate_left 6
 focus
  go_wp2_with fail
  have L:Ext p (p.alloc (.cells #[.int .i64 2,.int .i64 3,.int .i64 2,.int .i64 3,.int .i64 5] 2)):=World.grownBy_alloc _ _ _;have hL:Ints (λk=>k=p.heap.size) (p.alloc (.cells #[.int .i64 2,.int .i64 3,.int .i64 2,.int .i64 3,.int .i64 5] 2)) (.slice (some ⟨p.heap.size,0,none⟩) 5 5) [2,3,2,3,5]:=fq p [2,3,2,3,5] (by simp);have aq:(p.alloc (.cells #[.int .i64 2,.int .i64 3,.int .i64 2,.int .i64 3,.int .i64 5] 2)).heap.size=p.heap.size+1:=by simp
  generalize p.alloc (.cells #[.int .i64 2,.int .i64 3,.int .i64 2,.int .i64 3,.int .i64 5] 2)=wL at *;refine Calls.mono (l01Pick_ok B0 wL sb _ [2,3,2,3,5] _ (Y.out.ext L) hL (λk hk=>by omega) (by simp) (by simp)) ?_;rintro e2 a ⟨v2,rfl,S,i,V,rfl,hs2⟩;have hm:∀y∈([2,3,2,3,5]:List Int),2<=y/\y<=5:=by simp
  have aE:=hm _ (gtMem V);generalize gt ([2,3,2,3,5]:List Int) i=m at *;clear hm V hL;have b:=grown_trans (grown_of_ext (some sb) L) S;have ae:w.heap.size+1<=a.heap.size:=by have:=b.size;omega
  clear L S;have A:=Lib.hid hs2;clear hs2;go_wp2_with fail
  refine Calls.mono (ym B0 a sb m (by omega) A.out) ?_;rintro Z G ⟨v3,rfl,g,hP,hs3⟩;obtain⟨vo,vp,vc,rfl,C⟩:=hP.q;have l:p.grownBy G (some sb):=grown_trans b g;have K:=hs3
 rotate_left
 focus
  go_wp2_with fail
  refine Calls.mono (l01Next_ok B0 p sb 6 Y.out) ?_;rintro e2 a ⟨v2,rfl,b,y,rfl,hy0,hy1,hs2⟩;have hy:=hy1 (by omega);have A:=Lib.hid hs2;have ae:w.heap.size+1<=a.heap.size:=by have:=b.size;omega
  clear hy0 hy1 hs2;rcases(show y=0\/y=1\/y=2\/y=3\/y=4\/y=5 by omega) with rfl|rfl|rfl|rfl|rfl|rfl
  all_goals clear hy
  focus
   go_wp2_with fail
   have D:Ext a (a.alloc (.cells #[.int .i64 2,.int .i64 0] 2)):=World.grownBy_alloc _ _ _;have N:Ints Any (a.alloc (.cells #[.int .i64 2,.int .i64 0] 2)) (.slice (some ⟨a.heap.size,0,none⟩) 2 2) [2,0]:=Ints.sub (fq a [2,0] (by simp)) (λ_ _ _=>trivial);have n:(a.alloc (.cells #[.int .i64 2,.int .i64 0] 2)).heap.size=a.heap.size+1:=by simp
   generalize a.alloc (.cells #[.int .i64 2,.int .i64 0] 2)=u0 at *;have r:Ext u0 (u0.alloc (.cells #[.int .i64 0,.int .i64 2] 2)):=World.grownBy_alloc _ _ _;have H:Ints Any (u0.alloc (.cells #[.int .i64 0,.int .i64 2] 2)) (.slice (some ⟨u0.heap.size,0,none⟩) 2 2) [0,2]:=Ints.sub (fq u0 [0,2] (by simp)) (λ_ _ _=>trivial);have z:(u0.alloc (.cells #[.int .i64 0,.int .i64 2] 2)).heap.size=u0.heap.size+1:=by simp
   generalize u0.alloc (.cells #[.int .i64 0,.int .i64 2] 2)=u1 at *;rw[n] at H;have O:=Ints.ext (N) r;have P:=H
   have E:∀i,i<([[2,0],[0,2]]:List (List Int)).length->Ints Any u1 (gt ([.slice (some ⟨a.heap.size,0,none⟩) 2 2,.slice (some ⟨a.heap.size+1,0,none⟩) 2 2]:List Value) i) (gt ([[2,0],[0,2]]:List (List Int)) i):=by
    intro i V;rcases(show i=0\/i=1 by simp at V;omega) with rfl|rfl
    ·exact O
    ·exact P
   have I:=kU u1 [.slice (some ⟨a.heap.size,0,none⟩) 2 2,.slice (some ⟨a.heap.size+1,0,none⟩) 2 2] [[2,0],[0,2]] rfl (by simp) E;have R:=World.grownBy_alloc u1 (.cells #[.slice (some ⟨a.heap.size,0,none⟩) 2 2,.slice (some ⟨a.heap.size+1,0,none⟩) 2 2] 24) none;have u:Ext a (u1.alloc (.cells #[.slice (some ⟨a.heap.size,0,none⟩) 2 2,.slice (some ⟨a.heap.size+1,0,none⟩) 2 2] 24)):=grown_trans D (grown_trans r R);have al:u1.heap.size=a.heap.size+2:=by omega
   rw[z,n] at I;refine Calls.mono (kT _ 3 2 _ [[2,0],[0,2]] Any I (by unfold iD Sm;simp) (by omega) (by omega) (by simp)) ?_;rintro Z G ⟨v3,rfl,g,hP⟩;have hP:=hP.q.mono (B':=a.heap.size) (Nat.le_refl _) u.size;have F:Ext a G:=grown_trans u g;clear I R u E O N D n P H r z;obtain⟨vo,vp,vc,rfl,C⟩:=hP;have l:p.grownBy G (some sb):=grown_trans b (grown_of_ext (some sb) F);have K:=A.out.ext F
  rotate_left
  focus
   go_wp2_with fail
   have D:Ext a (a.alloc (.cells #[.int .i64 0,.int .i64 1] 2)):=World.grownBy_alloc _ _ _;have N:Ints Any (a.alloc (.cells #[.int .i64 0,.int .i64 1] 2)) (.slice (some ⟨a.heap.size,0,none⟩) 2 2) [0,1]:=Ints.sub (fq a [0,1] (by simp)) (λ_ _ _=>trivial);have n:(a.alloc (.cells #[.int .i64 0,.int .i64 1] 2)).heap.size=a.heap.size+1:=by simp
   generalize a.alloc (.cells #[.int .i64 0,.int .i64 1] 2)=u0 at *;have r:Ext u0 (u0.alloc (.cells #[.int .i64 2,.int .i64 0] 2)):=World.grownBy_alloc _ _ _;have H:Ints Any (u0.alloc (.cells #[.int .i64 2,.int .i64 0] 2)) (.slice (some ⟨u0.heap.size,0,none⟩) 2 2) [2,0]:=Ints.sub (fq u0 [2,0] (by simp)) (λ_ _ _=>trivial);have z:(u0.alloc (.cells #[.int .i64 2,.int .i64 0] 2)).heap.size=u0.heap.size+1:=by simp
   generalize u0.alloc (.cells #[.int .i64 2,.int .i64 0] 2)=u1 at *;rw[n] at H;have O:=Ints.ext (N) r;have P:=H
   have E:∀i,i<([[0,1],[2,0]]:List (List Int)).length->Ints Any u1 (gt ([.slice (some ⟨a.heap.size,0,none⟩) 2 2,.slice (some ⟨a.heap.size+1,0,none⟩) 2 2]:List Value) i) (gt ([[0,1],[2,0]]:List (List Int)) i):=by
    intro i V;rcases(show i=0\/i=1 by simp at V;omega) with rfl|rfl
    ·exact O
    ·exact P
   have I:=kU u1 [.slice (some ⟨a.heap.size,0,none⟩) 2 2,.slice (some ⟨a.heap.size+1,0,none⟩) 2 2] [[0,1],[2,0]] rfl (by simp) E;have R:=World.grownBy_alloc u1 (.cells #[.slice (some ⟨a.heap.size,0,none⟩) 2 2,.slice (some ⟨a.heap.size+1,0,none⟩) 2 2] 24) none;have u:Ext a (u1.alloc (.cells #[.slice (some ⟨a.heap.size,0,none⟩) 2 2,.slice (some ⟨a.heap.size+1,0,none⟩) 2 2] 24)):=grown_trans D (grown_trans r R);have al:u1.heap.size=a.heap.size+2:=by omega
   rw[z,n] at I;refine Calls.mono (kT _ 3 4 _ [[0,1],[2,0]] Any I (by unfold iD Sm;simp) (by omega) (by omega) (by simp)) ?_;rintro Z G ⟨v3,rfl,g,hP⟩;have hP:=hP.q.mono (B':=a.heap.size) (Nat.le_refl _) u.size;have F:Ext a G:=grown_trans u g;clear I R u E O N D n P H r z;obtain⟨vo,vp,vc,rfl,C⟩:=hP;have l:p.grownBy G (some sb):=grown_trans b (grown_of_ext (some sb) F);have K:=A.out.ext F
  rotate_left
  focus
   go_wp2_with fail
   have D:Ext a (a.alloc (.cells #[.int .i64 0,.int .i64 1,.int .i64 0] 2)):=World.grownBy_alloc _ _ _;have N:Ints Any (a.alloc (.cells #[.int .i64 0,.int .i64 1,.int .i64 0] 2)) (.slice (some ⟨a.heap.size,0,none⟩) 3 3) [0,1,0]:=Ints.sub (fq a [0,1,0] (by simp)) (λ_ _ _=>trivial);have n:(a.alloc (.cells #[.int .i64 0,.int .i64 1,.int .i64 0] 2)).heap.size=a.heap.size+1:=by simp
   generalize a.alloc (.cells #[.int .i64 0,.int .i64 1,.int .i64 0] 2)=u0 at *;have r:Ext u0 (u0.alloc (.cells #[.int .i64 0,.int .i64 0,.int .i64 1] 2)):=World.grownBy_alloc _ _ _;have H:Ints Any (u0.alloc (.cells #[.int .i64 0,.int .i64 0,.int .i64 1] 2)) (.slice (some ⟨u0.heap.size,0,none⟩) 3 3) [0,0,1]:=Ints.sub (fq u0 [0,0,1] (by simp)) (λ_ _ _=>trivial);have z:(u0.alloc (.cells #[.int .i64 0,.int .i64 0,.int .i64 1] 2)).heap.size=u0.heap.size+1:=by simp
   generalize u0.alloc (.cells #[.int .i64 0,.int .i64 0,.int .i64 1] 2)=u1 at *;have J:Ext u1 (u1.alloc (.cells #[.int .i64 1,.int .i64 1,.int .i64 0] 2)):=World.grownBy_alloc _ _ _;have X:Ints Any (u1.alloc (.cells #[.int .i64 1,.int .i64 1,.int .i64 0] 2)) (.slice (some ⟨u1.heap.size,0,none⟩) 3 3) [1,1,0]:=Ints.sub (fq u1 [1,1,0] (by simp)) (λ_ _ _=>trivial);have T:(u1.alloc (.cells #[.int .i64 1,.int .i64 1,.int .i64 0] 2)).heap.size=u1.heap.size+1:=by simp
   generalize u1.alloc (.cells #[.int .i64 1,.int .i64 1,.int .i64 0] 2)=u2 at *;rw[n] at H;rw[z,n] at X;have O:=Ints.ext (Ints.ext (N) r) J;have P:=Ints.ext (H) J;have ac:=X
   have E:∀i,i<([[0,1,0],[0,0,1],[1,1,0]]:List (List Int)).length->Ints Any u2 (gt ([.slice (some ⟨a.heap.size,0,none⟩) 3 3,.slice (some ⟨a.heap.size+1,0,none⟩) 3 3,.slice (some ⟨a.heap.size+1+1,0,none⟩) 3 3]:List Value) i) (gt ([[0,1,0],[0,0,1],[1,1,0]]:List (List Int)) i):=by
    intro i V;rcases(show i=0\/i=1\/i=2 by simp at V;omega) with rfl|rfl|rfl
    ·exact O
    ·exact P
    ·exact ac
   have I:=kU u2 [.slice (some ⟨a.heap.size,0,none⟩) 3 3,.slice (some ⟨a.heap.size+1,0,none⟩) 3 3,.slice (some ⟨a.heap.size+1+1,0,none⟩) 3 3] [[0,1,0],[0,0,1],[1,1,0]] rfl (by simp) E;have R:=World.grownBy_alloc u2 (.cells #[.slice (some ⟨a.heap.size,0,none⟩) 3 3,.slice (some ⟨a.heap.size+1,0,none⟩) 3 3,.slice (some ⟨a.heap.size+1+1,0,none⟩) 3 3] 24) none;have u:Ext a (u2.alloc (.cells #[.slice (some ⟨a.heap.size,0,none⟩) 3 3,.slice (some ⟨a.heap.size+1,0,none⟩) 3 3,.slice (some ⟨a.heap.size+1+1,0,none⟩) 3 3] 24)):=grown_trans D (grown_trans r (grown_trans J R));have al:u2.heap.size=a.heap.size+3:=by omega
   rw[T,z,n] at I;refine Calls.mono (kT _ 2 7 _ [[0,1,0],[0,0,1],[1,1,0]] Any I (by unfold iD Sm;simp) (by omega) (by omega) (by simp)) ?_;rintro Z G ⟨v3,rfl,g,hP⟩;have hP:=hP.q.mono (B':=a.heap.size) (Nat.le_refl _) u.size;have F:Ext a G:=grown_trans u g;clear I R u E O N D n P H r z ac X J T;obtain⟨vo,vp,vc,rfl,C⟩:=hP;have l:p.grownBy G (some sb):=grown_trans b (grown_of_ext (some sb) F);have K:=A.out.ext F
  rotate_left
  focus
   go_wp2_with fail
   have D:Ext a (a.alloc (.cells #[.int .i64 1,.int .i64 1,.int .i64 0] 2)):=World.grownBy_alloc _ _ _;have N:Ints Any (a.alloc (.cells #[.int .i64 1,.int .i64 1,.int .i64 0] 2)) (.slice (some ⟨a.heap.size,0,none⟩) 3 3) [1,1,0]:=Ints.sub (fq a [1,1,0] (by simp)) (λ_ _ _=>trivial);have n:(a.alloc (.cells #[.int .i64 1,.int .i64 1,.int .i64 0] 2)).heap.size=a.heap.size+1:=by simp
   generalize a.alloc (.cells #[.int .i64 1,.int .i64 1,.int .i64 0] 2)=u0 at *;have r:Ext u0 (u0.alloc (.cells #[.int .i64 0,.int .i64 1,.int .i64 1] 2)):=World.grownBy_alloc _ _ _;have H:Ints Any (u0.alloc (.cells #[.int .i64 0,.int .i64 1,.int .i64 1] 2)) (.slice (some ⟨u0.heap.size,0,none⟩) 3 3) [0,1,1]:=Ints.sub (fq u0 [0,1,1] (by simp)) (λ_ _ _=>trivial);have z:(u0.alloc (.cells #[.int .i64 0,.int .i64 1,.int .i64 1] 2)).heap.size=u0.heap.size+1:=by simp
   generalize u0.alloc (.cells #[.int .i64 0,.int .i64 1,.int .i64 1] 2)=u1 at *;have J:Ext u1 (u1.alloc (.cells #[.int .i64 0,.int .i64 0,.int .i64 1] 2)):=World.grownBy_alloc _ _ _;have X:Ints Any (u1.alloc (.cells #[.int .i64 0,.int .i64 0,.int .i64 1] 2)) (.slice (some ⟨u1.heap.size,0,none⟩) 3 3) [0,0,1]:=Ints.sub (fq u1 [0,0,1] (by simp)) (λ_ _ _=>trivial);have T:(u1.alloc (.cells #[.int .i64 0,.int .i64 0,.int .i64 1] 2)).heap.size=u1.heap.size+1:=by simp
   generalize u1.alloc (.cells #[.int .i64 0,.int .i64 0,.int .i64 1] 2)=u2 at *;rw[n] at H;rw[z,n] at X;have O:=Ints.ext (Ints.ext (N) r) J;have P:=Ints.ext (H) J;have ac:=X
   have E:∀i,i<([[1,1,0],[0,1,1],[0,0,1]]:List (List Int)).length->Ints Any u2 (gt ([.slice (some ⟨a.heap.size,0,none⟩) 3 3,.slice (some ⟨a.heap.size+1,0,none⟩) 3 3,.slice (some ⟨a.heap.size+1+1,0,none⟩) 3 3]:List Value) i) (gt ([[1,1,0],[0,1,1],[0,0,1]]:List (List Int)) i):=by
    intro i V;rcases(show i=0\/i=1\/i=2 by simp at V;omega) with rfl|rfl|rfl
    ·exact O
    ·exact P
    ·exact ac
   have I:=kU u2 [.slice (some ⟨a.heap.size,0,none⟩) 3 3,.slice (some ⟨a.heap.size+1,0,none⟩) 3 3,.slice (some ⟨a.heap.size+1+1,0,none⟩) 3 3] [[1,1,0],[0,1,1],[0,0,1]] rfl (by simp) E;have R:=World.grownBy_alloc u2 (.cells #[.slice (some ⟨a.heap.size,0,none⟩) 3 3,.slice (some ⟨a.heap.size+1,0,none⟩) 3 3,.slice (some ⟨a.heap.size+1+1,0,none⟩) 3 3] 24) none;have u:Ext a (u2.alloc (.cells #[.slice (some ⟨a.heap.size,0,none⟩) 3 3,.slice (some ⟨a.heap.size+1,0,none⟩) 3 3,.slice (some ⟨a.heap.size+1+1,0,none⟩) 3 3] 24)):=grown_trans D (grown_trans r (grown_trans J R));have al:u2.heap.size=a.heap.size+3:=by omega
   rw[T,z,n] at I;refine Calls.mono (kT _ 2 4 _ [[1,1,0],[0,1,1],[0,0,1]] Any I (by unfold iD Sm;simp) (by omega) (by omega) (by simp)) ?_;rintro Z G ⟨v3,rfl,g,hP⟩;have hP:=hP.q.mono (B':=a.heap.size) (Nat.le_refl _) u.size;have F:Ext a G:=grown_trans u g;clear I R u E O N D n P H r z ac X J T;obtain⟨vo,vp,vc,rfl,C⟩:=hP;have l:p.grownBy G (some sb):=grown_trans b (grown_of_ext (some sb) F);have K:=A.out.ext F
  rotate_left
  focus
   go_wp2_with fail
   have D:Ext a (a.alloc (.cells #[.int .i64 0,.int .i64 1,.int .i64 0,.int .i64 0] 2)):=World.grownBy_alloc _ _ _;have N:Ints Any (a.alloc (.cells #[.int .i64 0,.int .i64 1,.int .i64 0,.int .i64 0] 2)) (.slice (some ⟨a.heap.size,0,none⟩) 4 4) [0,1,0,0]:=Ints.sub (fq a [0,1,0,0] (by simp)) (λ_ _ _=>trivial);have n:(a.alloc (.cells #[.int .i64 0,.int .i64 1,.int .i64 0,.int .i64 0] 2)).heap.size=a.heap.size+1:=by simp
   generalize a.alloc (.cells #[.int .i64 0,.int .i64 1,.int .i64 0,.int .i64 0] 2)=u0 at *;have r:Ext u0 (u0.alloc (.cells #[.int .i64 1,.int .i64 0,.int .i64 0,.int .i64 0] 2)):=World.grownBy_alloc _ _ _;have H:Ints Any (u0.alloc (.cells #[.int .i64 1,.int .i64 0,.int .i64 0,.int .i64 0] 2)) (.slice (some ⟨u0.heap.size,0,none⟩) 4 4) [1,0,0,0]:=Ints.sub (fq u0 [1,0,0,0] (by simp)) (λ_ _ _=>trivial);have z:(u0.alloc (.cells #[.int .i64 1,.int .i64 0,.int .i64 0,.int .i64 0] 2)).heap.size=u0.heap.size+1:=by simp
   generalize u0.alloc (.cells #[.int .i64 1,.int .i64 0,.int .i64 0,.int .i64 0] 2)=u1 at *;have J:Ext u1 (u1.alloc (.cells #[.int .i64 0,.int .i64 0,.int .i64 0,.int .i64 1] 2)):=World.grownBy_alloc _ _ _;have X:Ints Any (u1.alloc (.cells #[.int .i64 0,.int .i64 0,.int .i64 0,.int .i64 1] 2)) (.slice (some ⟨u1.heap.size,0,none⟩) 4 4) [0,0,0,1]:=Ints.sub (fq u1 [0,0,0,1] (by simp)) (λ_ _ _=>trivial);have T:(u1.alloc (.cells #[.int .i64 0,.int .i64 0,.int .i64 0,.int .i64 1] 2)).heap.size=u1.heap.size+1:=by simp
   generalize u1.alloc (.cells #[.int .i64 0,.int .i64 0,.int .i64 0,.int .i64 1] 2)=u2 at *;have ad:Ext u2 (u2.alloc (.cells #[.int .i64 0,.int .i64 0,.int .i64 1,.int .i64 0] 2)):=World.grownBy_alloc _ _ _;have aG:Ints Any (u2.alloc (.cells #[.int .i64 0,.int .i64 0,.int .i64 1,.int .i64 0] 2)) (.slice (some ⟨u2.heap.size,0,none⟩) 4 4) [0,0,1,0]:=Ints.sub (fq u2 [0,0,1,0] (by simp)) (λ_ _ _=>trivial);have az:(u2.alloc (.cells #[.int .i64 0,.int .i64 0,.int .i64 1,.int .i64 0] 2)).heap.size=u2.heap.size+1:=by simp
   generalize u2.alloc (.cells #[.int .i64 0,.int .i64 0,.int .i64 1,.int .i64 0] 2)=u3 at *;rw[n] at H;rw[z,n] at X;rw[T,z,n] at aG;have O:=Ints.ext (Ints.ext (Ints.ext (N) r) J) ad;have P:=Ints.ext (Ints.ext (H) J) ad;have ac:=Ints.ext (X) ad;have aQ:=aG
   have E:∀i,i<([[0,1,0,0],[1,0,0,0],[0,0,0,1],[0,0,1,0]]:List (List Int)).length->Ints Any u3 (gt ([.slice (some ⟨a.heap.size,0,none⟩) 4 4,.slice (some ⟨a.heap.size+1,0,none⟩) 4 4,.slice (some ⟨a.heap.size+1+1,0,none⟩) 4 4,.slice (some ⟨a.heap.size+1+1+1,0,none⟩) 4 4]:List Value) i) (gt ([[0,1,0,0],[1,0,0,0],[0,0,0,1],[0,0,1,0]]:List (List Int)) i):=by
    intro i V;rcases(show i=0\/i=1\/i=2\/i=3 by simp at V;omega) with rfl|rfl|rfl|rfl
    ·exact O
    ·exact P
    ·exact ac
    ·exact aQ
   have I:=kU u3 [.slice (some ⟨a.heap.size,0,none⟩) 4 4,.slice (some ⟨a.heap.size+1,0,none⟩) 4 4,.slice (some ⟨a.heap.size+1+1,0,none⟩) 4 4,.slice (some ⟨a.heap.size+1+1+1,0,none⟩) 4 4] [[0,1,0,0],[1,0,0,0],[0,0,0,1],[0,0,1,0]] rfl (by simp) E;have R:=World.grownBy_alloc u3 (.cells #[.slice (some ⟨a.heap.size,0,none⟩) 4 4,.slice (some ⟨a.heap.size+1,0,none⟩) 4 4,.slice (some ⟨a.heap.size+1+1,0,none⟩) 4 4,.slice (some ⟨a.heap.size+1+1+1,0,none⟩) 4 4] 24) none;have u:Ext a (u3.alloc (.cells #[.slice (some ⟨a.heap.size,0,none⟩) 4 4,.slice (some ⟨a.heap.size+1,0,none⟩) 4 4,.slice (some ⟨a.heap.size+1+1,0,none⟩) 4 4,.slice (some ⟨a.heap.size+1+1+1,0,none⟩) 4 4] 24)):=grown_trans D (grown_trans r (grown_trans J (grown_trans ad R)));have al:u3.heap.size=a.heap.size+4:=by omega
   rw[az,T,z,n] at I;refine Calls.mono (kT _ 2 2 _ [[0,1,0,0],[1,0,0,0],[0,0,0,1],[0,0,1,0]] Any I (by unfold iD Sm;simp) (by omega) (by omega) (by simp)) ?_;rintro Z G ⟨v3,rfl,g,hP⟩;have hP:=hP.q.mono (B':=a.heap.size) (Nat.le_refl _) u.size;have F:Ext a G:=grown_trans u g;clear I R u E O N D n P H r z ac X J T aQ aG ad az;obtain⟨vo,vp,vc,rfl,C⟩:=hP;have l:p.grownBy G (some sb):=grown_trans b (grown_of_ext (some sb) F);have K:=A.out.ext F
  rotate_left
  focus
   go_wp2_with fail
   have D:Ext a (a.alloc (.cells #[.int .i64 0,.int .i64 1] 2)):=World.grownBy_alloc _ _ _;have N:Ints Any (a.alloc (.cells #[.int .i64 0,.int .i64 1] 2)) (.slice (some ⟨a.heap.size,0,none⟩) 2 2) [0,1]:=Ints.sub (fq a [0,1] (by simp)) (λ_ _ _=>trivial);have n:(a.alloc (.cells #[.int .i64 0,.int .i64 1] 2)).heap.size=a.heap.size+1:=by simp
   generalize a.alloc (.cells #[.int .i64 0,.int .i64 1] 2)=u0 at *;have r:Ext u0 (u0.alloc (.cells #[.int .i64 4,.int .i64 4] 2)):=World.grownBy_alloc _ _ _;have H:Ints Any (u0.alloc (.cells #[.int .i64 4,.int .i64 4] 2)) (.slice (some ⟨u0.heap.size,0,none⟩) 2 2) [4,4]:=Ints.sub (fq u0 [4,4] (by simp)) (λ_ _ _=>trivial);have z:(u0.alloc (.cells #[.int .i64 4,.int .i64 4] 2)).heap.size=u0.heap.size+1:=by simp
   generalize u0.alloc (.cells #[.int .i64 4,.int .i64 4] 2)=u1 at *;rw[n] at H;have O:=Ints.ext (N) r;have P:=H
   have E:∀i,i<([[0,1],[4,4]]:List (List Int)).length->Ints Any u1 (gt ([.slice (some ⟨a.heap.size,0,none⟩) 2 2,.slice (some ⟨a.heap.size+1,0,none⟩) 2 2]:List Value) i) (gt ([[0,1],[4,4]]:List (List Int)) i):=by
    intro i V;rcases(show i=0\/i=1 by simp at V;omega) with rfl|rfl
    ·exact O
    ·exact P
   have I:=kU u1 [.slice (some ⟨a.heap.size,0,none⟩) 2 2,.slice (some ⟨a.heap.size+1,0,none⟩) 2 2] [[0,1],[4,4]] rfl (by simp) E;have R:=World.grownBy_alloc u1 (.cells #[.slice (some ⟨a.heap.size,0,none⟩) 2 2,.slice (some ⟨a.heap.size+1,0,none⟩) 2 2] 24) none;have u:Ext a (u1.alloc (.cells #[.slice (some ⟨a.heap.size,0,none⟩) 2 2,.slice (some ⟨a.heap.size+1,0,none⟩) 2 2] 24)):=grown_trans D (grown_trans r R);have al:u1.heap.size=a.heap.size+2:=by omega
   rw[z,n] at I;refine Calls.mono (kT _ 5 3 _ [[0,1],[4,4]] Any I (by unfold iD Sm;simp) (by omega) (by omega) (by simp)) ?_;rintro Z G ⟨v3,rfl,g,hP⟩;have hP:=hP.q.mono (B':=a.heap.size) (Nat.le_refl _) u.size;have F:Ext a G:=grown_trans u g;clear I R u E O N D n P H r z;obtain⟨vo,vp,vc,rfl,C⟩:=hP;have l:p.grownBy G (some sb):=grown_trans b (grown_of_ext (some sb) F);have K:=A.out.ext F
  rotate_left
 rotate_left 6
 focus
  go_wp2_with fail
  refine Calls.mono (l01Next_ok B0 p sb 10 Y.out) ?_;rintro e2 a ⟨v2,rfl,b,y,rfl,hy0,hy1,hs2⟩;have hy:=hy1 (by omega);have A:=Lib.hid hs2;have ae:w.heap.size+1<=a.heap.size:=by have:=b.size;omega
  clear hy0 hy1 hs2;go_wp2_with fail
  refine Calls.mono (pV a y hy.1 hy.2) ?_;rintro Z G ⟨v3,rfl,g,hP⟩;obtain⟨vo,vp,vc,rfl,C⟩:=hP;have l:p.grownBy G (some sb):=grown_trans b (grown_of_ext (some sb) g);have K:=A.out.ext g
 rotate_left
 focus
  go_wp2_with fail
  refine Calls.mono (l01Next_ok B0 p sb 10 Y.out) ?_;rintro e2 a ⟨v2,rfl,b,y,rfl,hy0,hy1,hs2⟩;have hy:=hy1 (by omega);have A:=Lib.hid hs2;have ae:w.heap.size+1<=a.heap.size:=by have:=b.size;omega
  clear hy0 hy1 hs2;go_wp2_with fail
  refine Calls.mono (pV a y hy.1 hy.2) ?_;rintro Z G ⟨v3,rfl,g,hP⟩;obtain⟨vo,vp,vc,rfl,C⟩:=hP;have l:p.grownBy G (some sb):=grown_trans b (grown_of_ext (some sb) g);have K:=A.out.ext g
 rotate_left
 all_goals
  obtain⟨a1,n1,c1,a2,n2,c2,a3,n3,c3,rfl,rfl,rfl⟩:=C.shape;have W:=Box3.keep ah l.size (l.block _ ah.1 (λe=>by have:=Option.some.inj e;omega));have U:=grown_trans aj l;obtain⟨b0,b1,b2,b3,b4⟩:=id W;have hZ:=W.all (.slice a1 n1 c1) (.slice a2 n2 c2) (.slice a3 n3 c3);obtain⟨-,z0,z1,z2,-⟩:=id hZ;have HF:=Lib.hid (And.intro U (And.intro C K));clear hZ U C W;go_wp2_with fail
  refine bodyPost_ret (v := .agg #[.slice a1 n1 c1,.slice a2 n2 c2,.slice a3 n3 c3]) (by simp[results,Tryz.results290,go_sem,z0,z1,z2]) rfl ?_;exact pU HF.out.1 (B:=a.heap.size) (by omega) HF.out.2.2 aA HF.out.2.1 (by omega)
end Go.Proofs.YtdcobapnlpeaaaaGreat
namespace Go.Proofs.YtdcobapnlpeaaaaGreat
open Go.RowKit
theorem yw (T E:Nat) (z:Value) (bytes:Nat) (H:Tryz.prog.underlying T=some (.slice E)) (X:(Tryz.prog.info? E).map (λi=>(i.zero,i.size,i.bytes))=some (some z,1,bytes))
  (B:z.cells.size=1) (C:bytes<=64) {D:Array Oper}{o:Oper}{a:Act}{K:Act->World->Prop}{Q:Exit->Act->World->Prop}{Y:Prop}{w:World}(r:o.guard=none) (s x:Operand)
  (I:o.op=Op.call { callee:=Callee.builtin Builtin.append,args := #[s,x],argTypes := #[T,T] }) (base g cap:Nat) (xs:List Value) (J:a.eval s=.slice (some ⟨g,0,none⟩) xs.length cap) (l:OwnV base E w (.slice (some ⟨g,0,none⟩) xs.length cap) xs)
  (G:Option Addr) (m c:Nat) (k:List Value) (hx:a.eval x=.slice G m c) (O:k.length=m) (L:G=none->c=0)
  (n:∀j,j<m->∃b off,G=some ⟨b,off,none⟩/\w.cell? ⟨b,off+j,none⟩=some (gt k j)) (h1:∀u,u∈k->u.oneCell'=true) (R:xs.length+m<=1000000) (v:base<=w.heap.size)
  (h:∀S w',OwnV base E w' S (xs++k)->w.grownBy w' (some g)->K (a.put o.dst S) w') :
  if Region.wanted o (yielded D a.tmps)=true then Oper.wp Tryz.prog o a w K Q else Y:=by
 obtain⟨M,hi,hz0,hz1,hz2⟩:=info_parts X;have Z:Region.wanted o (yielded D a.tmps)=true:=by simp[Region.wanted,r]
 rcases Nat.eq_zero_or_pos m with rfl|U
 ·have hn:k=[]:=List.eq_nil_of_length_eq_zero O
  subst hn;have p:=l;rw[List.append_nil] at h;cases G with
  | none=>
   have A:=L rfl;subst A;rw[if_pos Z];have F:=run_append_owned_none (P:=Tryz.prog) (w:=w) base T o.type E M 1 H hi _ xs.length xs l;unfold Oper.wp;simp[execOp,I,resolve,invoke,builtin,J,hx,F,Result.andThen]
   exact h _ _ p (grown_refl _ _)
  | some ad=>
   have V:xs.length<=cap:=by
    rcases l.form with⟨h,_⟩|⟨g',cp,hv,A,_⟩
    ·cases h
    ·simp only[Value.slice.injEq] at hv;omega
   refine step_append_at w r s x T I E M z 1 bytes H hi hz0 hz1 hz2 B (by decide) g 0 xs.length cap xs J (by omega) (λj u q => ?_) ad 0 c [] hx rfl (by simp) (by simp) (λ_ j q=>by simp at q) (by unfold maxLen;omega) (by have:=Nat.mul_le_mul (show xs.length+0<=1000000 by omega) C;omega) (λ_ => ?_) (λh=>by omega)
   ·have y:j<xs.length:=by
     rcases Nat.lt_or_ge j xs.length with h|h
     ·exact h
     ·rw[List.getElem?_eq_none h] at q;cases q
    rw[Nat.zero_add,l.cell j y];simp[gt,q]
   ·have e:w.setCells g (0+xs.length*1) []=w:=by simp[World.setCells]
    rw[e];exact h _ _ p (grown_refl _ _)
 ·obtain ⟨b,off,rfl,_⟩:=n 0 U
  refine step_append_lies w r s x T I base E M z 1 bytes H hi hz0 hz1 hz2 B (by decide) _ xs.length xs J l ⟨b,off,none⟩ m c k hx (by omega) (λj u q => ?_) h1 U (by unfold maxLen;omega) (by have:=Nat.mul_le_mul (show xs.length+m<=1000000 by omega) C;omega) v w.heap.size rfl ?_
  ·have y:j<m:=by
    rcases Nat.lt_or_ge j k.length with h|h
    ·omega
    ·rw[List.getElem?_eq_none h] at q;cases q
   obtain⟨b',off',he,A⟩:=n j y;cases he
   have N:gt k j=u:=by simp[gt,q]
   rw[N] at A;unfold Addr.add;split
   ·rename_i h0;subst h0;exact A
   ·exact A
  ·intro g' W w' k1 k2 k3 _
   exact h _ w' (by unfold OwnV;rw[List.length_append,O];exact k1) k2
theorem sI {q:Array Oper}{o:Oper}{a:Act}{K:Act->World->Prop}{Q:Exit->Act->World->Prop}{D:Prop}{w:World}(r:o.guard=none) (s x:Operand)
  (E:o.op=Op.call { callee:=Callee.builtin Builtin.append,args := #[s,x],argTypes := #[24,24] }) (B g cap n:Nat) (l m:List Int) (y:l.length=n) (F:a.eval s=.slice (some ⟨g,0,none⟩) n cap)
  (i:Own B w (.slice (some ⟨g,0,none⟩) n cap) l) (v:Value) (S:Nat->Prop) (G:Ints S w v m) (hx:a.eval x=v) (k:l.length+m.length<=1000000) (e:B<=w.heap.size)
  (h:∀p w',Own B w' p (l++m)->w.grownBy w' (some g)->K (a.put o.dst p) w') :
  if Region.wanted o (yielded q a.tmps)=true then Oper.wp Tryz.prog o a w K Q else D:=by
 subst y;obtain⟨H,c,rfl,⟨_,_,I⟩,hc⟩:=G;have z:(l.map (Value.int .i64)).length=l.length:=List.length_map ..;refine yw 24 2 (.int .i64 0) 8 und_ints Tryz.infoInt rfl (by decide) r s x E B g cap (l.map (Value.int .i64)) (by rw[z];exact F) (by have:=i.v;rw[z];exact this) H m.length c (m.map (Value.int .i64)) hx (by simp) I (λj A => ?_) (λu C => ?_) (by rw[z];exact k) e (λp w' J L => ?_)
 ·obtain ⟨b,off,u,h1,_,_,M,h3⟩:=hc j A
  exact⟨b,off,h1,by rw[M,h3];simp[gt,A]⟩
 ·simp at C
  obtain⟨x,_,rfl⟩:=C;rfl
 ·exact h p w' (Own.of (by rw[List.map_append];exact J)) L
end Go.Proofs.YtdcobapnlpeaaaaGreat
